/- Several texts of this session, one behind the other, without what this claim does not need (put together by its program pack.py). Conditions: none. -/
import Derived.Test.YtdbebmafgpdfhaaGreatDoorMk5
set_option linter.unusedVariables false
set_option linter.unusedSimpArgs false
set_option maxRecDepth 100000
namespace Go.Proofs.YtdbebmafgpdfhaaGreatDoor
open Go Go.Crisp
attribute [local irreducible] FCall rowK newK stK iteK vK qK drawK gK joinK loopK mkK appK cpyK zni zla bsK clK zhc zfF newmK
open _root_.Go.Proofs.Tryz
def rTile : Rp TileD where
 w := 10
 R := fun _ _ cs t => cs = tileC t
 len := by rintro _ _ _ _ rfl; rfl
 one := by rintro _ _ _ _ rfl; exact zdA _
 fr := by rintro _ _ _ _ _ _ rfl _ _; rfl
 mono := by rintro _ _ _ _ _ rfl _; rfl
def zgJ (d : PlanD) (N : Nat) : List TileD := (List.range N).map fun i : Nat => zaC d i
theorem c_planAll {Z : Nat → Prop} {h : Heap} {b : Nat} {d : PlanD} {p q : Value} (H : zhV Z h b d p q) (W : d.Wf) {N : Nat} (hN : (N : Int) = zcc d) (hN2 : N ≤ 4096) : FCall prog zfT #[ptr b] h fun r h' => New rTile h h' r (zgJ d N) := by
 apply zna
 unfold zhQ
 refine FCall.at (zkd H W) ?_
 rw [← hN]
 refine zaD (α := Value) N 0 (fun i v => [v, .int .i64 (i : Int)]) (fun i v g => New rTile h g v (zgJ d i)) (.slice none 0 0) rfl (Nat.zero_le _) (New.nil (Ext.refl _)) fun i v g again ρ _ hi NT Hag => ?_
 simp only [ix_0, ix_1]
 rw [zbM, zaa]
 refine zab (fun g1 => ?_) (fun g1 => ?_)
 ·have hi' : i < N := by omega
  refine FCall.to (zmf (H.ext NT.2.1) W (i := i) (by omega) (by omega)) fun g2 e2 => ?_
  have x0 : extV (.tuple #[.agg (tileC (zaC d i)).toArray, .bool true]) 0 = some (.agg (tileC (zaC d i)).toArray) := rfl
  have x1 : extV (.tuple #[.agg (tileC (zaC d i)).toArray, .bool true]) 1 = some (.bool true) := rfl
  simp only [go_sem, x0, x1]
  refine za1 (cs := tileC (zaC d i)) rfl (zdA _) rfl fun b3 g3 r3 e3 n3 => ?_
  rw [zav r3 10 rfl, zaa]
  have NT3 := NT.ext (e2.trans e3)
  have hl : (zgJ d i).length = i := by simp [zgJ]
  refine Rp.push_ow (e := rTile) (x := zaC d i) NT3.1 rfl rfl rfl (by rw [hl]; omega) (by rw [hl]; omega) (fun _ h => h.elim) fun v4 g4 o4 f4 n4 => ?_
  have hw' : (i : Int) + 1 = ((i + 1 : Nat) : Int) := by omega
  try simp only [go_sem]
  rw [w64 (n := (i : Int) + 1) (by omega) (by omega), hw']
  have e1 : zgJ d (i + 1) = zgJ d i ++ [zaC d i] := by simp [zgJ, List.range_succ]
  have hs3 := NT3.2.1.1
  refine Hag v4 g4 hi' ⟨by rw [e1]; exact o4, NT3.2.1.then_fr f4 NT3.2.2, fun c hc => (n4 c hc).elim (NT3.2.2 c) fun h => by omega⟩
 ·have : i = N := by omega
  subst this
  exact NT
def inTile (t : TileD) (x y : Int) : Prop := t.x ≤ x ∧ x < t.x + t.w ∧ t.y ≤ y ∧ y < t.y + t.h
theorem tile_cover {d : PlanD} (W : d.Wf) {x y : Int} (x0 : 0 ≤ x) (x1 : x < d.X) (y0 : 0 ≤ y) (y1 : y < d.Y) : ∃ i : Nat, (i : Int) < zcc d ∧ inTile (zaC d i) x y := by
 have hw := W.w
 have hh := W.h
 unfold sideT at hw hh
 have a1 := Int.mul_ediv_add_emod x d.w
 have a2 := Int.emod_nonneg x (show d.w ≠ 0 by omega)
 have a3 := Int.emod_lt_of_pos x (show 0 < d.w by omega)
 have b1 := Int.mul_ediv_add_emod y d.h
 have b2 := Int.emod_nonneg y (show d.h ≠ 0 by omega)
 have b3 := Int.emod_lt_of_pos y (show 0 < d.h by omega)
 have q0 : 0 ≤ x / d.w := Int.ediv_nonneg x0 (by omega)
 have r0 : 0 ≤ y / d.h := Int.ediv_nonneg y0 (by omega)
 have q1 : x / d.w < colsZ d := by
  unfold colsZ zbW
  apply Int.lt_of_add_one_le
  rw [Int.le_ediv_iff_mul_le (by omega), Int.add_mul, Int.one_mul, Int.mul_comm]
  omega
 have r1 : y / d.h < zbW d.Y d.h := by
  unfold zbW
  apply Int.lt_of_add_one_le
  rw [Int.le_ediv_iff_mul_le (by omega), Int.add_mul, Int.one_mul, Int.mul_comm]
  omega
 have hc : (y / d.h + 1) * colsZ d ≤ zbW d.Y d.h * colsZ d := Int.mul_le_mul_of_nonneg_right (by omega) (by omega)
 rw [Int.add_mul, Int.one_mul] at hc
 have hi0 : 0 ≤ y / d.h * colsZ d + x / d.w := by
  have := Int.mul_nonneg r0 (show 0 ≤ colsZ d by omega); omega
 refine ⟨(y / d.h * colsZ d + x / d.w).toNat, ?_, ?_⟩
 ·rw [Int.toNat_of_nonneg hi0]
  unfold zcc
  rw [Int.mul_comm (colsZ d)]
  omega
 ·rw [Int.toNat_of_nonneg hi0]
  have m1 : (y / d.h * colsZ d + x / d.w) % colsZ d = x / d.w := by
   rw [Int.add_comm, Int.add_mul_emod_self_right, Int.emod_eq_of_lt q0 q1]
  have m2 : (y / d.h * colsZ d + x / d.w) / colsZ d = y / d.h := by
   rw [Int.add_comm, Int.add_mul_ediv_right _ _ (by omega), Int.ediv_eq_zero_of_lt q0 q1, Int.zero_add]
  show outX d _ ≤ x ∧ x < outX d _ + outW d _ ∧ outY d _ ≤ y ∧ y < outY d _ + outH d _
  unfold outW outH outX outY
  rw [m1, m2, Int.mul_comm (x / d.w), Int.mul_comm (y / d.h)]
  omega
def zeK (C : C21) (k : Nat) (jo : Option (TileD × Int × Int)) (n : Pic) : Prop :=
 ∀ x y c, inP n x y c → ∀ i : Nat, i < k → inTile (zaC C.d i) x y → (∀ t yy e, jo = some (t, yy, e) → i + 1 = k → y < yy) → atP n x y c = pixZ C.m C.d.s x y c
theorem zeK.take {C : C21} (O : C.Ok) {k : Nat} {n : Pic} (P : zeK C k none n) (hk : (k : Int) < zcc C.d) : zeK C (k + 1) (zaJ (some C.E) (C.jo k)) n := by
 intro x y c hi i hik hin hl
 rcases Nat.lt_or_ge i k with h | h
 ·exact P x y c hi i h hin fun _ _ _ h => by cases h
 ·have hik : i = k := by omega
  subst hik
  have hw := zfk O.d (i := (i : Int)) (by omega) hk
  have hk0 : stepK (C.E.d (zaC C.d i)) (zaC C.d i).y (lnF C.d.s.y (zaC C.d i).y) ≠ 0 := by
   unfold stepK
   rw [if_neg (by show ¬ (zaC C.d i).y + (zaC C.d i).h ≤ (zaC C.d i).y; unfold zb8 at hw; omega)]
   split <;> omega
  have hs : zaJ (some C.E) (C.jo i) = C.jo i := if_neg hk0
  rw [hs] at hl
  have := hl _ _ _ rfl rfl
  unfold inTile at hin
  omega
theorem zeK.move {C : C21} (O : C.Ok) {k : Nat} {t : TileD} {y e : Int} {n n' : Pic} {wd : Int} (P : zeK C (k + 1) (some (t, y, e)) n) (hk : (k : Int) < zcc C.d) (ht : t = zaC C.d k) (su : C.suits n) (D : Drew (some C.E) ⟨1, (numsL (k + 1)), some (t, y, e), wd⟩ n n') :
  zeK C (k + 1) (zaJ (some C.E) (some (t, stepY (C.E.d t) y e, stepE (C.E.d t) y e))) n' := by
 obtain ⟨D1, O1, O2, d1, d2⟩ := D
 have hw := zfk O.d (i := (k : Int)) (by omega) hk
 have hr := (C21.newC O su (i := (k : Int)) (by omega) hk)
 have RO := O.s.room (m := C.m) (n := n) (t := t) O.m (by rw [ht]; exact hr)
 intro x' y' c' hi i hik hin hl
 have hi0 : inP n x' y' c' := D1.inP.1 hi
 -- what was right stays right
 have keep : atP n x' y' c' = pixZ C.m C.d.s x' y' c' → atP n' x' y' c' = pixZ C.m C.d.s x' y' c' := by
  intro h
  by_cases hK : stepK (C.E.d t) y e = 2
  ·rw [d2 hK x' y' c' hi0]
   split
   ·rfl
   ·exact h
  ·rw [d1 hK]; exact h
 rcases Nat.lt_or_ge i k with h | h
 ·exact keep (P x' y' c' hi0 i hik hin fun _ _ _ _ h2 => by omega)
 ·have hik : i = k := by omega
  subst hik
  rw [← ht] at hin
  have hy : y' < stepY (C.E.d t) y e := by
   by_cases h0 : stepK (C.E.d t) (stepY (C.E.d t) y e) (stepE (C.E.d t) y e) = 0
   ·unfold stepK at h0
    split at h0
    ·rename_i h1
     have h1 : t.y + t.h ≤ stepY (C.E.d t) y e := h1
     unfold inTile at hin
     omega
    ·split at h0 <;> omega
   ·exact hl t _ _ (if_neg h0) rfl
  rcases Int.lt_or_le y' y with h2 | h2
  ·exact keep (P x' y' c' hi0 i (by omega) (by rw [← ht]; exact hin) fun t2 yy e2 h3 _ => by cases h3; exact h2)
  ·have hK : stepK (C.E.d t) y e = 2 := by
    unfold stepY at hy
    split at hy
    ·assumption
    ·omega
   have hY : stepY (C.E.d t) y e = y + 1 := if_pos hK
   have ey : y' = y := by omega
   rw [d2 hK x' y' c' hi0, if_pos]
   refine ⟨ey, hin.1, hin.2.1, ?_⟩
   have hwid := RO.wid
   have hwid : (zcy (t.w * C.m.c) : Int) = t.w * C.m.c := hwid
   rw [hwid]
   show (x' - t.x) * C.m.c + c' < t.w * C.m.c
   have hc : c' < C.m.c := by have := hi0.2.2.2.2.2; rw [← su.2.2.2.2.1]; exact this
   have hx := hin.2.1
   have : (x' - t.x + 1) * C.m.c ≤ t.w * C.m.c := Int.mul_le_mul_of_nonneg_right (by omega) (by have := hi0.2.2.2.2.1; omega)
   rw [Int.add_mul, Int.one_mul] at this
   omega
theorem painted_all {C : C21} (O : C.Ok) {N : Nat} {n : Pic} (hN : (N : Int) = zcc C.d) (P : zeK C N none n) (su : C.suits n) : n.l = (zoP C.m C.d.s).l := by
 obtain ⟨s1, s2, s3, s4, s5⟩ := su.2
 have hf := zbs O.m.fits
 refine pic_extL su.1 ?_ ⟨s2.symm, s3.symm, s4.symm, s5.symm⟩ fun x y c hi => ?_
 ·show (((List.range (C.d.s.y.lines.length * C.d.s.x.lines.length * C.m.c.toNat)).map _).length : Int) = (C.d.s.x.lines.length : Int) * (C.d.s.y.lines.length : Int) * C.m.c
  rw [List.length_map, List.length_range, Int.natCast_mul, Int.natCast_mul, Int.toNat_of_nonneg (by omega), Int.mul_comm (C.d.s.y.lines.length : Int)]
 ·obtain ⟨h1, h2, h3, h4, h5, h6⟩ := hi
  obtain ⟨i, hi1, hi2⟩ := tile_cover O.d h1 (by show x < (C.d.s.x.lines.length : Int); rw [← s2]; exact h2) h3 (by show y < (C.d.s.y.lines.length : Int); rw [← s3]; exact h4)
  rw [P x y c ⟨h1, h2, h3, h4, h5, h6⟩ i (by omega) hi2 fun _ _ _ h => by cases h]
  rw [applyP_at]
  exact ⟨h1, by show x < (C.d.s.x.lines.length : Int); rw [← s2]; exact h2, h3, by show y < (C.d.s.y.lines.length : Int); rw [← s3]; exact h4, h5, by show c < C.m.c; rw [← s4]; exact h6⟩
theorem zqj (C : C21) : ∀ a b i : Nat, sumT C (a + b) i = sumT C a i + sumT C b (i + a)
 | 0, b, i => by rw [Nat.zero_add, Nat.add_zero]; show _ = 0 + _; omega
 | a + 1, b, i => by
  have h := zqj C a b (i + 1)
  rw [show a + 1 + b = (a + b) + 1 by omega]
  show zhF C i + sumT C (a + b) (i + 1) = zhF C i + sumT C a (i + 1) + _
  rw [h, show i + 1 + a = i + (a + 1) by omega]
  omega
theorem zrv {h : Heap} (G : GlobB h) {cs os : List Value} {a : PicA} {o : OpD} {Z1 Z2 : Nat → Prop} (H : rPicA.R Z1 h cs a) (WA : a.Wf) (HO : rOp.R Z2 h os o) (WO : OpsWf [o]) {tw th : Int} (hw : B8 tw) (hh : B8 th) :
    FCall prog zdm #[.agg cs.toArray, .agg os.toArray, .int .u8 tw, .int .u8 th] h fun r h' => r = .bool true ∧ Ext h h' := by
  apply zjl
  unfold zeX
  simp only [zaG]
  refine zai fun b1 h1 r1 e1 n1 => zai fun b3 h3 r3 e3 n3 => ?_
  have E3 := e1.trans e3
  refine FCall.to (zi3 (G.ext E3)) fun h6 e6 => ?_
  have E6 := E3.trans e6
  simp only [go_sem]
  refine open21 (G.ext E6) ((e3.trans e6).row r1) (e6.row r3) (rPicA.ext H E6) WA (rOp.ext HO E6) WO hw hh (fun h' e => ⟨rfl, E6.trans e⟩) fun h7 Z bm bn bs bp bf vf bt vt p q rv bl pp pq B E7 V zn nbt nvt => ?_
  have mwf := zi2 a
  have OK := B.stg
  have sui := B.suits
  have nwf := B.nwf
  have WP : (znX a o tw th).Wf := ⟨OK.wf, by have := hw; unfold B8 at this; show sideT (1 + tw % 13); unfold sideT; omega, by have := hh; unfold B8 at this; show sideT (1 + th % 13); unfold sideT; omega⟩
  have hf := zbs mwf.fits
  have GG := G.ext E6
  refine zhg.mono fun r h8 ⟨bw, er, r8, e8, n8⟩ => ?_
  subst er
  refine c_qNew.mono fun r h9 ⟨bq, er, Q9, e9, n9⟩ => ?_
  subst er
  have Q9 : IsQ (fun c => c = bq) h9 bq ⟨4096, [], false⟩ := Q9
  obtain ⟨C, hC⟩ : ∃ C : C21, C = ⟨bm, bn, bs, bp, bf, vf, bt, vt, p, q, rv, bl, pp, pq, drawA a, znX a o tw th, bw, bq⟩ := ⟨_, rfl⟩
  have CO : C.Ok := by rw [hC]; exact ⟨mwf, WP, OK⟩
  obtain ⟨N, hN, N1, N2, hsum⟩ := bg_few (C := C) B hw.1 hh.1 (by rw [hC])
  have VC : C.Env Z h7 (bgN a o) := by rw [hC]; exact V
  clear V
  have su : C.suits (bgN a o) := by rw [hC]; exact ⟨nwf, sui⟩
  have hfit : fitsZ C.d.s.x.lines.length C.d.s.y.lines.length C.m.c := by rw [hC]; exact B.fit
  have eb : bw = C.bw ∧ bq = C.bq ∧ bp = C.bp ∧ bm = C.bm ∧ bn = C.bn ∧ bs = C.bs ∧ rv = C.rv := by rw [hC]; exact ⟨rfl, rfl, rfl, rfl, rfl, rfl, rfl⟩
  obtain ⟨rfl, rfl, rfl, rfl, rfl, rfl, rfl⟩ := eb
  have hout : ∀ c, outB (some C.E) c → h6.size ≤ c := by rw [hC]; exact nvt
  clear hC
  have V := VC
  generalize bgN a o = n0 at *
  have I7 : OutAt h7 (some C.E) n0 := fun E' hE => by cases hE; exact ⟨V.set.out, su.1⟩
  have zl := V.set.zl
  have hz : ∀ {c : Nat}, h7.size ≤ c → ¬ Z c := fun hc hz => by have := zl _ hz; omega
  have hs8 := e8.1
  have hs9 := e9.1
  have lw := zay r8
  have V9 := V.ext (e8.trans e9)
  obtain ⟨t4, m4⟩ := V9.vp
  have c4 : zah h9 ⟨C.bp, 0, none⟩ = some (ptr C.bl) := zac m4
  simp only [go_sem, c4]
  refine FCall.at (zkd V9.plan CO.d) ?_
  rw [← hN]
  refine send_all Q9 (by omega) fun h10 Q10 q10 k10 f10 => ?_
  refine (znt q10).mono fun _ h11 ⟨_, q11, f11⟩ => ?_
  have hs10 := f10.1
  have hs11 := f11.1
  have k10' : ∀ c, Q10 c → h8.size ≤ c := fun c hc => (k10 c hc).elim (fun h => by have h : c = C.bq := h; omega) fun h => by omega
  have E11 : Ext h7 h11 := ((e8.trans e9).then_fr f10 fun c hc => by have hc : c = C.bq := hc; omega).then_fr f11 fun c hc => by have := k10' c hc; omega
  have lq : ∀ c, Q10 c → c < h11.size := q11.ql
  have S0 : Solo C Z h6 none 3 h11 n0 (soloW C.E (numsL N) 0 none 0) (soloQ (numsL N) 0) := by
    refine zpu (Q := Q10) E7 V su E11 ?_ q11 n8 (fun c hc => by have := k10' c hc; omega) (fun hc => by have := k10' _ hc; omega) (fun b hb => by cases hb) (fun b hb => by cases hb)
    exact f11.row (f10.row (e9.row r8) fun hc => by have hc : C.bw = C.bq := hc; omega) fun hc => by have := k10' _ hc; omega
  have hov : ∀ c : Array Value, binV .f .neq (.func (.func zbf) #[] c) .nilFunc = some (.bool true) := fun _ => rfl
  have hso : ∀ (wd : Int) g n' (x : Int), GlobB g → C.Env Z g n' → C.suits n' → VarAt none 3 wd g → 0 ≤ x → x < zcc C.d → clK prog (.func (.func zbf) #[] #[ptr C.bp, ptr C.bm, ptr C.bn, ptr C.bs]) #[.int .i64 x] g (zqe C Z none 3 n' x wd g) :=
    fun wd g n' x g1 g2 g3 g4 g5 g6 => op_alone CO g1 g2 g3 g5 g6
  have hT0 : sumT C N 0 ≤ 23328 := hsum
  refine zau (fun xs g => xs = [.int .i64 (sumT C N 0 : Int)] ∧ ∃ n wd, Solo C Z h6 none 3 g n ⟨2, numsL N, none, wd⟩ ⟨4096, [], true⟩ ∧ zeK C N none n) ?_ ?_
  · refine zaD (α := Nat × Option (TileD × Int × Int) × Int × Pic × Nat) 100000 0 (fun i s => [.int .i64 (s.2.2.2.2 : Int), .int .i64 (i : Int)]) (fun i s g => Solo C Z h6 none 3 g s.2.2.2.1 (soloW C.E (numsL N) s.1 s.2.1 s.2.2.1) (soloQ (numsL N) s.1) ∧ s.1 ≤ N ∧ i + muJ C.E s.2.1 + sumT C (N - s.1) s.1 + (N - s.1) = sumT C N 0 + N ∧ s.2.2.2.2 + muJ C.E s.2.1 + sumT C (N - s.1) s.1 = sumT C N 0 ∧ zeK C s.1 s.2.1 s.2.2.2.1 ∧
        ∀ t y e, s.2.1 = some (t, y, e) → ∃ k', s.1 = k' + 1 ∧ t = zaC C.d (k' : Nat)) (0, none, 0, n0, 0) rfl (Nat.zero_le _) ?_ ?_
    · refine ⟨S0, Nat.zero_le _, ?_, ?_, fun x y c _ i hi => absurd hi (Nat.not_lt_zero _), fun t y e h => by cases h⟩
      · show 0 + 0 + sumT C (N - 0) 0 + (N - 0) = _; rw [Nat.sub_zero]; omega
      · show 0 + 0 + sumT C (N - 0) 0 = _; rw [Nat.sub_zero]; omega
    · rintro i ⟨k, jo, wd, n, mv⟩ g again ρ _ hi ⟨S, hk, hsm, hmv, hp, hjo⟩ Hag
      have S : Solo C Z h6 none 3 g n (soloW C.E (numsL N) k jo wd) (soloQ (numsL N) k) := S
      have hsm : i + muJ C.E jo + sumT C (N - k) k + (N - k) = sumT C N 0 + N := hsm
      have hmv : mv + muJ C.E jo + sumT C (N - k) k = sumT C N 0 := hmv
      have hp : zeK C k jo n := hp
      have hjo : ∀ t y e, jo = some (t, y, e) → ∃ k', k = k' + 1 ∧ t = zaC C.d (k' : Nat) := hjo
      have hk : k ≤ N := hk
      simp only [ix_0, ix_1]
      rw [zbM, zaa]
      refine zab (fun g1 => ?_) (fun g1 => ?_)
      · refine (c_turn GG S hk hN (by omega) hout (hov _) (hso wd)).mono fun r g2 HT => ?_
        have hw' : (i : Int) + 1 = ((i + 1 : Nat) : Int) := by omega
        rcases HT with ⟨t, y, e, a', b', c', n', rfl, rfl, S', D, hmu⟩ | ⟨rfl, hkN, rfl, S', hmu⟩ | ⟨rfl, rfl, rfl, S'⟩
        · refine za1 (cs := [.int .i64 2, .int .i64 a', .int .i64 b', .int .i64 c']) rfl (zad rfl (zad rfl (zad rfl (zad rfl zao)))) rfl fun be g3 re ee ne => ?_
          have ce : ldV g3 (.pointer (some ⟨be, 0 + 0, none⟩)) = some (.int .i64 2) := zac re
          have hm' : (mv : Int) + 1 = ((mv + 1 : Nat) : Int) := by omega
          rw [zhf, zaa, ce, zaa, zdK, zaa, decide_eq_false (by decide), zbc, zaa, ce, zaa, zdK, zaa, decide_eq_true rfl, zc9]
          simp only [go_sem]
          rw [w64 (n := (mv : Int) + 1) (by omega) (by omega), w64 (n := (i : Int) + 1) (by omega) (by omega), hw', hm']
          obtain ⟨k', rfl, ht⟩ := hjo t y e rfl
          refine Hag (k' + 1, zaJ (some C.E) (some (t, stepY (C.E.d t) y e, stepE (C.E.d t) y e)), wd, n', mv + 1) g3 (by omega) ⟨S'.ext_ ee, hk, ?_, ?_, ?_, fun t2 y2 e2 h2 => ?_⟩
          · show (i + 1) + muJ C.E (zaJ (some C.E) (some (t, stepY (C.E.d t) y e, stepE (C.E.d t) y e))) + sumT C (N - (k' + 1)) (k' + 1) + (N - (k' + 1)) = _; omega
          · show (mv + 1) + muJ C.E (zaJ (some C.E) (some (t, stepY (C.E.d t) y e, stepE (C.E.d t) y e))) + sumT C (N - (k' + 1)) (k' + 1) = _; omega
          · exact zeK.move (wd := wd) CO hp (by omega) ht S.sui D
          · have h2 : (if stepK (C.E.d t) (stepY (C.E.d t) y e) (stepE (C.E.d t) y e) = 0 then none else some (t, stepY (C.E.d t) y e, stepE (C.E.d t) y e)) = some (t2, y2, e2) := h2
            split at h2
            · cases h2
            · cases h2; exact ⟨k', rfl, ht⟩
        · refine za1 (cs := [.int .i64 1, .int .i64 k, .int .i64 0, .int .i64 0]) rfl (zad rfl (zad rfl (zad rfl (zad rfl zao)))) rfl fun be g3 re ee ne => ?_
          have ce : ldV g3 (.pointer (some ⟨be, 0 + 0, none⟩)) = some (.int .i64 1) := zac re
          rw [zhf, zaa, ce, zaa, zdK, zaa, decide_eq_false (by decide), zbc, zaa, ce, zaa, zdK, zaa, decide_eq_false (by decide), zbc]
          simp only [go_sem]
          rw [w64 (n := (i : Int) + 1) (by omega) (by omega), hw']
          have hsplit : sumT C (N - k) k = zhF C k + sumT C (N - (k + 1)) (k + 1) := by
            rw [show N - k = (N - (k + 1)) + 1 by omega]; rfl
          have hm0 : muJ C.E none = 0 := rfl
          refine Hag (k + 1, zaJ (some C.E) (C.jo k), zks (some C.E) (C.jo k) wd, n, mv) g3 (by omega) ⟨S'.ext_ ee, by show k + 1 ≤ N; omega, ?_, ?_, zeK.take CO hp (by omega), fun t2 y2 e2 h2 => ?_⟩
          · show (i + 1) + muJ C.E (zaJ (some C.E) (C.jo k)) + sumT C (N - (k + 1)) (k + 1) + (N - (k + 1)) = _; omega
          · show mv + muJ C.E (zaJ (some C.E) (C.jo k)) + sumT C (N - (k + 1)) (k + 1) = _; omega
          · have h2 : (if stepK (C.E.d (zaC C.d k)) (zaC C.d k).y (lnF C.d.s.y (zaC C.d k).y) = 0 then none else C.jo k) = some (t2, y2, e2) := h2
            split at h2
            · cases h2
            · cases h2; exact ⟨k, rfl, rfl⟩
        · refine za1 (cs := [.int .i64 3, .int .i64 0, .int .i64 0, .int .i64 0]) rfl (zad rfl (zad rfl (zad rfl (zad rfl zao)))) rfl fun be g3 re ee ne => ?_
          have ce : ldV g3 (.pointer (some ⟨be, 0 + 0, none⟩)) = some (.int .i64 3) := zac re
          rw [zhf, zaa, ce, zaa, zdK, zaa, decide_eq_true rfl, zc9]
          have hm0 : muJ C.E none = 0 := rfl
          have hz0 : sumT C (k - k) k = 0 := by rw [Nat.sub_self]; rfl
          have : mv = sumT C k 0 := by omega
          subst this
          exact ⟨rfl, n, wd, S'.ext_ ee, hp⟩
      · omega
  · rintro xs ρ g ⟨rfl, n, wd, S, hp⟩
    simp only [ix_0]
    refine (S.tiles (by show (numsL N).length ≤ _; rw [ze0]; omega)).mono fun tv g2 NT => ?_
    have S2 := S.ext_ NT.2.1
    obtain ⟨at_, ct, et⟩ := NT.sl.isSl
    have el : zag tv = some (.int .i64 (N : Int)) := by rw [et]; show some (Value.int .i64 ((numsL N).length : Int)) = _; rw [ze0]
    simp only [go_sem, el]
    refine zc2 (fun i => [.int .i64 (i : Int)]) N 0 rfl (Nat.zero_le _) fun i again ρ _ hi Hag => ?_
    simp only [ix_0]
    rw [zbM, zaa]
    refine zab (fun g1 => ?_) (fun g1 => ?_)
    · have hi' : i < N := by omega
      have hil : i < (numsL N).length := by rw [ze0]; exact hi'
      obtain ⟨pp', p1, p2⟩ := NT.sl.int_at (k' := .i64) hil
      have p1 : idxV 1 tv (.int .i64 (i : Int)) = some pp' := p1
      rw [zl1] at p2
      rw [p1, zaa, p2, zaa, znv, zaa, decide_eq_true rfl]
      simp only [go_sem]
      have hw' : (i : Int) + 1 = ((i + 1 : Nat) : Int) := by omega
      rw [w64 (n := (i : Int) + 1) (by omega) (by omega), hw']
      exact Hag hi'
    obtain ⟨t4, m4⟩ := S2.env.vp
    have c4 : zah g2 ⟨C.bp, 0, none⟩ = some (ptr C.bl) := zac m4
    rw [c4, zaa]
    refine (c_planAll S2.env.plan CO.d hN (by omega)).mono fun av g3 NA => ?_
    obtain ⟨aa, ca, ea⟩ := NA.sl.isSl
    have hll : (zgJ C.d N).length = N := by simp [zgJ]
    have ela : zag av = some (.int .i64 (N : Int)) := by rw [ea]; show some (Value.int .i64 ((zgJ C.d N).length : Int)) = _; rw [hll]
    rw [ela, zaa]
    refine zaD (α := Unit) N 0 (fun i _ => [.int .i64 (sumT C i 0 : Int), .int .i64 (i : Int)]) (fun i _ g => Ext g3 g) () rfl (Nat.zero_le _) (Ext.refl _) fun i _ g4 again ρ _ hi e4 Hag => ?_
    simp only [ix_0, ix_1]
    have S4 := S2.ext_ (NA.2.1.trans e4)
    rw [zbM, zaa]
    refine zab (fun g1 => ?_) (fun g1 => ?_)
    · have hi' : i < N := by omega
      obtain ⟨pt, ct', q1, q2, q3⟩ := (NA.sl.ext e4).atw (show 0 < 10 by omega) (k := .i64) (i := i) (by omega)
      have q1 : idxV 10 av (.int .i64 (i : Int)) = some pt := q1
      have q2 : ldsV 10 g4 pt = some (.agg ct'.toArray) := q2
      have q3 : ct' = tileC (zgJ C.d N)[i] := q3
      have q4 : (zgJ C.d N)[i] = zaC C.d i := by simp [zgJ]
      rw [q4] at q3
      subst q3
      rw [q1, zaa, q2, zaa]
      refine za1 (cs := tileC (zaC C.d i)) rfl (zdA _) rfl fun b5 g5 r5 e5 n5 => ?_
      have S5 := S4.ext_ e5
      obtain ⟨t3, sv, m3, c3, z3⟩ := S5.env.vs
      obtain ⟨sp, w1, w2⟩ := c3.atw (by omega) (k := .i64) (i := 0) (by omega)
      have w1 : idxV 3 sv (.int .i64 0) = some sp := w1
      have w2 : ldsV 3 g5 sp = some (.agg #[C.p, C.q, .int .i64 C.d.s.border]) := w2
      refine zan (fun h => h = g5) rfl ?_
      refine zaf sv (fun h e => by rw [e]; exact zac m3) ?_
      rw [w1, zaa]
      refine zaf (.agg #[C.p, C.q, .int .i64 C.d.s.border]) (fun h e => by rw [e]; exact w2) ?_
      refine zaf (.agg (tileC (zaC C.d i)).toArray) (fun h e => by rw [e]; exact zav r5 10 rfl) ?_
      refine FCall.to (c_Steps C.m S5.env.set.tx S5.env.set.ty CO.s) fun g6 e6 => ?_
      rw [if_pos (zfk CO.d (by omega) (by omega))]
      have hst : znB C.d.s (zaC C.d i) C.m = zhF C i := rfl
      rw [hst]
      have hsp : sumT C (i + 1) 0 = sumT C i 0 + zhF C i := by
        rw [zqj C i 1 0, Nat.zero_add]; show _ + (zhF C i + 0) = _; omega
      have htot : sumT C N 0 = sumT C (i + 1) 0 + sumT C (N - (i + 1)) (0 + (i + 1)) := by rw [← zqj]; congr 1; omega
      have hs' : (sumT C i 0 : Int) + (zhF C i : Int) = (sumT C (i + 1) 0 : Int) := by omega
      have hw' : (i : Int) + 1 = ((i + 1 : Nat) : Int) := by omega
      try simp only [go_sem]
      rw [hs', w64 (n := (sumT C (i + 1) 0 : Int)) (by omega) (by omega), w64 (n := (i : Int) + 1) (by omega) (by omega), hw']
      exact Hag () g6 hi' (e4.trans (e5.trans e6))
    have hiN : i = N := by omega
    subst hiN
    obtain ⟨t4, m4⟩ := S4.env.vp
    obtain ⟨t1, m1⟩ := S4.env.vm
    obtain ⟨t2, m2⟩ := S4.env.vn
    have c4 : zah g4 ⟨C.bp, 0, none⟩ = some (ptr C.bl) := zac m4
    have c1 : zah g4 ⟨C.bm, 0, none⟩ = some (ptr C.bf) := zac m1
    have c2 : zah g4 ⟨C.bn, 0, none⟩ = some (ptr C.bt) := zac m2
    obtain ⟨ds, slc, _, hel⟩ := S4.env.ref
    have slc : SlC 5 g4 C.rv 1 ds := slc
    obtain ⟨cs5, hcs⟩ : ∃ cs5 : List Value, cs5 = (ds.drop (0 * 5)).take 5 := ⟨_, rfl⟩
    have R5 : rStg.R Z g4 cs5 C.d.s := by rw [hcs]; exact hel 0 (by simp)
    obtain ⟨p5, q4, _⟩ := slc.atw (by omega) (k := .i64) (i := 0) (by omega)
    have q4 : idxV 5 C.rv (.int .i64 0) = some p5 := q4
    have rd5 : ∀ g', Ext g4 g' → ldsV 5 g' p5 = some (.agg cs5.toArray) := fun g' e => by
      obtain ⟨p6, q6, q7⟩ := (slc.ext e).atw (by omega) (k := .i64) (i := 0) (by omega)
      have q6 : idxV 5 C.rv (.int .i64 0) = some p6 := q6
      rw [q4] at q6
      cases q6
      rw [hcs]; exact q7
    refine zan (fun g' => g' = g4) rfl ?_
    refine FCall.at S4.state ?_
    refine zan (Ext g4) (Ext.refl _) ?_
    simp only [go_sem, eqT, decide_true]
    refine zaf (ptr C.bl) (fun g' e => e.cell c4) ?_
    refine (S4.tiles (by show (numsL i).length ≤ _; rw [ze0]; omega)).mono fun tv5 g5 NT5 => ⟨NT5.2.1, ?_⟩
    obtain ⟨at5, ct5, et5⟩ := NT5.sl.isSl
    have el5 : zag tv5 = some (.int .i64 (i : Int)) := by rw [et5]; show some (Value.int .i64 ((numsL i).length : Int)) = _; rw [ze0]
    refine zaf (.int .i64 (i : Int)) (fun _ _ => el5) ?_
    have S5 := S4.ext_ NT5.2.1
    refine FCall.at (zkd S5.env.plan CO.d) ⟨NT5.2.1, ?_⟩
    rw [← hN]
    simp only [go_sem, eqT, decide_true]
    refine zaf (ptr C.bt) (fun g' e => e.cell c2) ?_
    refine zaf (ptr C.bf) (fun g' e => e.cell c1) ?_
    rw [q4, zaa]
    refine zaf (.agg cs5.toArray) rd5 ?_
    refine (c_l9Ref S5.env.set.out S5.sui.1).mono fun rr g6 ⟨cs6, er, R6, e6⟩ => ?_
    subst er
    refine ⟨NT5.2.1.trans e6, ?_⟩
    refine (c_l9Ref (S5.env.set.src.ext e6) CO.m).mono fun rr g7 ⟨cs7, er, R7, e7⟩ => ?_
    subst er
    have e47 := NT5.2.1.trans (e6.trans e7)
    refine ⟨e47, ?_⟩
    refine (c_r15Apply R7 CO.m (rStg.ext R5 e47) CO.s.wf hfit).mono fun rr g8 ⟨cs8, er, R8, e8'⟩ => ?_
    subst er
    obtain ⟨s1, s2, s3, s4, s5⟩ := S5.sui.2
    have hl := painted_all CO hN hp S5.sui
    have hlen : n.l.length ≤ 1000000000 := by
      have := S5.sui.1.len
      have := zbs S5.sui.1.fits
      omega
    refine (c_l9Equal (rPic.ext R6 (e7.trans e8')) R8 hlen s2 s3 s4 s5).mono fun rr g9 ⟨er, e9'⟩ => ?_
    subst er
    rw [decide_eq_true hl]
    try simp only [go_sem]
    exact ⟨trivial, E6.trans ((S4.ext.trans (e47.trans e8')).trans e9')⟩
end Go.Proofs.YtdbebmafgpdfhaaGreatDoor
namespace Go.Proofs.YtdbebmafgpdfhaaGreatDoor
open Go Go.Crisp
open _root_.Go.Proofs.Tryz
theorem sli_of_slc {h : Heap} {v : Value} {l : List Int} (H : SlC 1 h v l.length (l.map (Value.int .i64))) : Rp.Sl (Rp.int .i64) (fun _ => True) h v l :=
 ⟨_, H, fun _ _ _ => trivial, fun i hi => by
  show Rp.el 1 _ i = [.int .i64 l[i]]
  rw [Rp.el_one (by simpa using hi), List.getElem_map]⟩
theorem ints64_rd {h : Heap} {ts : List TS} {l : List Value} (R : zfX (.sl (.int .i64) 8 :: ts) h l) : ∃ v, ∃ k : List Int, ∃ r, l = v :: r ∧ Rp.Sl (Rp.int .i64) (fun _ => True) h v k ∧ k.length ≤ 1000000000000000 ∧ zfX ts h r := by
 obtain ⟨v, r, hr, ⟨x, hx⟩, h0⟩ := R
 obtain ⟨u, hu, h1, h2, h3⟩ := sl1_rd (e := .int .i64) (l := x) (Value.int .i64) I64 rfl (fun ds x hr => ⟨hr.1, zls hr.2⟩) (show Rd (.sl (.int .i64) 8) h [v] x from hx)
 obtain rfl : v = u := by simpa using hu
 have h3 : List.length (α := Int) x * 8 ≤ 140737488351232 := h3
 exact ⟨v, x, r, hr, sli_of_slc h1, by omega, h0⟩
theorem r_WorkerNone {L : List (String × DataW Unit)} (l : ListsB L) (h : Heap) (args : Array Value) (H : zjU prog L h) (R : zfX [.sl (.int .i64) 8, .bool] h args.toList) :
  FCall prog zdT args h fun r h' => r = .bool true ∧ Ext h h' := by
 obtain ⟨v, k, r0, e0, S, hk, R⟩ := ints64_rd R
 obtain ⟨b, r1, e1, R⟩ := bool_rd R
 obtain rfl : r1 = [] := R
 subst e1
 obtain rfl : args = #[v, .bool b] := by cases args; simp_all
 exact c_WorkerNone (l.glob H) S (by omega)
theorem r_WorkerScratch {L : List (String × DataW Unit)} (l : ListsB L) (h : Heap) (args : Array Value) (H : zjU prog L h) (R : zfX [.st tPic, .st tOp, .int .u8, .int .u8] h args.toList) :
  FCall prog zcM args h fun r h' => r = .bool true ∧ Ext h h' := by
 obtain ⟨cs, os, a, o, r0, e0, A, R⟩ := args17_rd R
 obtain ⟨x, r1, e1, hx, R⟩ := u8_rd R
 obtain ⟨y, r2, e2, hy, R⟩ := u8_rd R
 obtain rfl : r2 = [] := R
 subst e2 e1
 obtain rfl : args = #[.agg cs.toArray, .agg os.toArray, .int .u8 x, .int .u8 y] := by cases args; simp_all
 obtain ⟨⟨_, h1⟩, h2, ⟨_, h3⟩, h4⟩ := A
 exact zoI (l.glob H) h1 h2 h3 h4 hx hy
theorem r_WorkerAlone {L : List (String × DataW Unit)} (l : ListsB L) (h : Heap) (args : Array Value) (H : zjU prog L h) (R : zfX [.st tPic, .st tOp, .int .u8, .int .u8] h args.toList) :
  FCall prog zdm args h fun r h' => r = .bool true ∧ Ext h h' := by
 obtain ⟨cs, os, a, o, r0, e0, A, R⟩ := args17_rd R
 obtain ⟨x, r1, e1, hx, R⟩ := u8_rd R
 obtain ⟨y, r2, e2, hy, R⟩ := u8_rd R
 obtain rfl : r2 = [] := R
 subst e2 e1
 obtain rfl : args = #[.agg cs.toArray, .agg os.toArray, .int .u8 x, .int .u8 y] := by cases args; simp_all
 obtain ⟨⟨_, h1⟩, h2, ⟨_, h3⟩, h4⟩ := A
 exact zrv (l.glob H) h1 h2 h3 h4 hx hy
end Go.Proofs.YtdbebmafgpdfhaaGreatDoor
