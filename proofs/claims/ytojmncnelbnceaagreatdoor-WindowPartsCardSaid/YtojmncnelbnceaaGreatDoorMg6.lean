/- Several texts of this session, one behind the other, without what this claim does not need (put together by its program pack.py). Conditions: none. -/
import Derived.Test.YtojmncnelbnceaaGreatDoorMg5
set_option linter.unusedVariables false
set_option linter.unusedSimpArgs false
set_option maxRecDepth 100000
namespace Go.Proofs.YtojmncnelbnceaaGreatDoor
open Go Go.Crisp
attribute [local irreducible] FCall rowK newK stK iteK vK qK drawK gK joinK loopK mkK appK cpyK zqt znp bsK clK zgP zga newmK
open _root_.Go.Proofs.Tryz
theorem resize_most2 {f n m : Int} (hc : za2 f n m = 0) (hs : n ≤ 100) : mostL (zbA f n m).lines ≤ 1024 := by
 have h0 : ¬ (¬ (0 ≤ f ∧ f < 3) ∨ ¬ zao n ∨ ¬ zao m) := fun h => by unfold za2 at hc; rw [if_pos h] at hc; cases hc
 have hz := hc
 unfold za2 at hz
 rw [if_neg h0] at hz
 have hf : 0 ≤ f ∧ f < 3 := Decidable.of_not_not fun h => h0 (.inl h)
 have hn : zao n := Decidable.of_not_not fun h => h0 (.inr (.inl h))
 have hm : zao m := Decidable.of_not_not fun h => h0 (.inr (.inr h))
 unfold zao at hn hm
 refine zgx (by omega) fun x hx => ?_
 obtain ⟨i, hi, rfl⟩ := List.mem_map.1 hx
 have hi := List.mem_range.1 hi
 have h2 := zdq hz i hi
 show ((zaC (zaW f n m i)).length : Int) ≤ _
 rw [zdN h2]
 unfold zaW
 rw [if_pos ⟨hf.1, hf.2, hn.1, hn.2, hm.1, hm.2, by omega, by omega⟩]
 unfold rowW
 rw [List.length_map, List.length_range]
 have := span_bd (i := i) hf hn.1 hm.1
 omega
theorem filter_most2 (l : List Int) (hl : l.length ≤ 1024) (n : Int) (hc : zcx l n = 0) : mostL (zc1 l n).lines ≤ 1024 := by
 refine zgx (by omega) fun x hx => ?_
 obtain ⟨i, hi, rfl⟩ := List.mem_map.1 hx
 show ((zaC l).length : Int) ≤ _
 have h0 : zaS l = 0 := by
  unfold zcx at hc
  split at hc
  ·cases hc
  ·split at hc
   ·cases hc
   ·exact hc
 rw [zdN h0]
 omega
theorem makeS_most2 {o : OpD} {w h : Int} (hc : makeC o w h = 0) (hs : h ≤ 100) : mostL (makeS o w h).y.lines ≤ 1024 := by
 have ht : zcp o w h = 0 := by
  unfold makeC at hc
  split at hc
  ·cases hc
  ·exact hc
 show mostL (zbI o h).lines ≤ _
 unfold zcp at ht
 unfold zbI
 split
 ·rename_i hk
  rw [if_pos hk] at ht
  by_cases h1 : za2 o.filter w o.w = 0
  ·rw [if_neg (by simpa using h1)] at ht
   exact resize_most2 ht hs
  ·rw [if_pos h1] at ht
   exact absurd ht h1
 ·rename_i hk
  rw [if_neg hk] at ht
  refine filter_most2 _ (zgD o).2 _ ?_
  split at ht
  ·exact absurd ht (by assumption)
  ·split at ht
   ·exact absurd ht (by assumption)
   ·exact ht
theorem zpe {d : JobD} (H : zjG d.s.y) {M : Nat} (hM : mostL d.s.y.lines ≤ M) : ∀ (k : Nat) (y e : Int), lnF d.s.y y ≤ e → leftN d k y e ≤ k * (M + 1)
 | 0, _, _, _ => by simp [leftN]
 | k + 1, y, e, he => by
  have h1 := zpe H hM k (y + 1) (max (lnE d.s.y y) (lnF d.s.y (y + 1))) (by omega)
  have h2 := H.m y
  unfold leftN
  rw [Nat.add_mul k 1, Nat.one_mul]
  unfold lnE lnF at *
  omega
theorem BgOk.few {a : PicA} {o : OpD} (H : BgOk a o) {t : TileD} {m : Pic} (hh : t.h ≤ 12) : leftZ ⟨m, bgS a o, t⟩ t.y (lnF (bgS a o).y t.y) ≤ 12300 := by
 have h1 := makeS_most2 H.made (by have := zgS a; omega)
 have h2 := zpe (d := ⟨m, bgS a o, t⟩) H.stg.mono (M := 1024) h1 (t.y + t.h - t.y).toNat t.y (lnF (bgS a o).y t.y) (Int.le_refl _)
 unfold leftZ
 have h3 : (t.y + t.h - t.y).toNat ≤ 12 := by omega
 have h4 : (t.y + t.h - t.y).toNat * (1024 + 1) ≤ 12 * 1025 := Nat.mul_le_mul_right _ h3
 show leftN ⟨m, bgS a o, t⟩ (t.y + t.h - t.y).toNat t.y (lnF (bgS a o).y t.y) ≤ 12300
 omega
theorem kPut_none {α : Type} {j : Int} {v : α} : ∀ {kv : List (Int × α)}, kGet j kv = none → kPut j v kv = kv ++ [(j, v)]
 | [], _ => rfl
 | (k, u) :: kv, h => by
  unfold kGet at h
  by_cases hk : k = j
  ·rw [if_pos hk] at h; cases h
  ·rw [if_neg hk] at h
   unfold kPut
   rw [if_neg hk, kPut_none h]; rfl
theorem stepK_cases (d : JobD) (y e : Int) : stepK d y e = 0 ∨ stepK d y e = 1 ∨ stepK d y e = 2 := by
 unfold stepK
 split
 ·exact .inl rfl
 ·split
  ·exact .inr (.inl rfl)
  ·exact .inr (.inr rfl)
theorem stepK_over {d : JobD} {y e : Int} (h : stepK d y e = 0) : d.t.y + d.t.h ≤ y := by
 unfold stepK at h
 by_cases h9 : d.t.y + d.t.h ≤ y
 ·exact h9
 ·rw [if_neg h9] at h; split at h <;> cases h
theorem c_WindowOnce {h : Heap} (G : GlobB h) {cs os : List Value} {a : PicA} {o : OpD} (A : zoi h cs os a o) {x y w hh : Int} (hx : B8 x) (hy : B8 y) (hw : B8 w) (hhh : B8 hh) :
  FCall prog zdA #[.agg cs.toArray, .agg os.toArray, .int .u8 x, .int .u8 y, .int .u8 w, .int .u8 hh] h fun r h' => r = .bool true ∧ Ext h h' := by
 apply zjz
 unfold zfb
 refine open17 G A hx hy hw hhh (fun h' e => ⟨rfl, e⟩) fun h1 b Z bf vf bt vt p q X Y U => ?_
 have hdm := U.ok.dims hx hy hw hhh
 have hcc := U.ok.newc hx hy hw hhh
 have hsy := U.ok.sy
 have hfew := U.ok.few (t := bgT (bgS a o) x y w hh) (m := drawA a) (by omega)
 generalize ht : bgT (bgS a o) x y w hh = t at *
 have OK := U.ok.stg
 have nwf := U.ok.nwf
 have mwf := zeL a
 generalize hS : bgS a o = s at *
 generalize hM : drawA a = m at *
 generalize hN : bgN a o = n at *
 have r1 := U.row
 rw [hS] at r1
 have S1 := U.set
 rw [hS, hM, hN] at S1
 have c0 : zah h1 ⟨b, 0, none⟩ = some (ptr bf) := zac r1
 have c1 : zah h1 ⟨b, 1, none⟩ = some (ptr bt) := zac r1
 simp only [go_sem, Nat.zero_add, c0, c1]
 rw [zaM r1 2 3 [p, q, .int .i64 s.border] rfl rfl, zaa, zaM r1 10 10 (tileC t) rfl rfl, zaa]
 refine (zjC (G.ext U.ext) S1 mwf nwf OK.wf).mono fun r h2 HW => ?_
 obtain ⟨bj, rv, er, e2, J⟩ := HW.go hcc
 subst er
 have E2 := U.ext.trans e2
 have R := OK.room (m := m) (n := n) (t := t) mwf hcc
 have WJ := zmk (t := t) mwf OK.wf hcc
 simp only [go_sem, eqT, zo6]
 refine new_map fun bm h3 M3 e3 n3 => ?_
 have r3 := (e2.trans e3).row r1
 have k12 : zah h3 ⟨b, 12, none⟩ = some (.int .i64 t.y) := zac r3
 simp only [go_sem, Nat.zero_add, k12]
 obtain ⟨d, hd⟩ : ∃ d : JobD, d = ⟨m, s, t⟩ := ⟨_, rfl⟩
 have hdt : d.t = t := by rw [hd]
 rw [← hd] at J R WJ hfew
 have nz1 : ∀ c, Grow (fun _ => False) h1 h2 c → h1.size ≤ c ∧ c < h2.size := fun c hc => hc.elim (fun h => h.elim) id
 have hE1 := U.ext.1
 have hE2 := e2.1
 have hap : ¬ blk vt b ∧ ¬ Grow (fun _ => False) h1 h2 b ∧ ¬ b = bm := ⟨U.ap.2.2, fun hg => by have := nz1 b hg; have := zaB r1; omega, fun he => by have := zaB r1; omega⟩
 have J3 : JobGo h3 (Grow (fun _ => False) h1 h2) (fun c => c = bm) Z h3 bj bf vf bt vt p q rv d t.y (lnF s.y t.y) n (roomN (mostL s.y.lines)) (zcR (t.w * m.c)) := JobGo.start (J.ext e3)
 have hbm : ¬ Grow (fun _ => False) h1 h2 bm ∧ ¬ Z bm ∧ bm ≠ bt ∧ ¬ blk vt bm := ⟨fun hg => by have := nz1 bm hg; omega, fun hz => by have := S1.zl bm hz; omega, fun he => by have := S1.out.lt; omega, fun hv => by have := S1.out.ltv hv; omega⟩
 have fin : ∀ {g : Heap}, Fr (fun c => (blk vt c ∨ Grow (fun _ => False) h1 h2 c) ∨ c = bm) h3 g → Ext h g := fun f => (E2.trans e3).then_fr f fun c hc => by
  have hEE := E2.1
  rcases hc with (hc | hc) | hc
  ·exact U.nt.2 c hc
  ·have := nz1 c hc; omega
  ·omega
 refine zat (fun xs g => ∃ y1 e1 n1, xs = [.int .i64 y1] ∧ stepK d y1 e1 = 0 ∧ JobGo h3 (Grow (fun _ => False) h1 h2) (fun c => c = bm) Z g bj bf vf bt vt p q rv d y1 e1 n1 (roomN (mostL s.y.lines)) (zcR (t.w * m.c))) ?_ ?_
 ·-- the steps
  refine zaz (α := Int × Int × Pic × Int × Bool × List (Int × Value)) 20000 0 (fun i a => [.int .i64 a.1, .int .i64 a.2.2.2.1, .bool a.2.2.2.2.1, .int .i64 (i : Int)])
   (fun i a g => JobGo h3 (Grow (fun _ => False) h1 h2) (fun c => c = bm) Z g bj bf vf bt vt p q rv d a.1 a.2.1 a.2.2.1 (roomN (mostL s.y.lines)) (zcR (t.w * m.c)) ∧ leftZ d a.1 a.2.1 + i ≤ 12300 ∧
    MapI g bm a.2.2.2.2.2 ∧ (∀ k ∈ a.2.2.2.2.2.map Prod.fst, k < a.2.1) ∧ (a.2.2.2.2.1 = false → a.2.2.2.1 < a.2.1))
   (t.y, lnF s.y t.y, n, 0, true, []) rfl (by omega) ⟨J3, hfew, M3, by simp, by simp⟩ fun i a g1 again ρ1 _ hi ⟨Jg, hl, Mg, hk, hlast⟩ Hag => ?_
  obtain ⟨y1, e1, n1, last, first, kv⟩ := a
  have Jg : JobGo h3 (Grow (fun _ => False) h1 h2) (fun c => c = bm) Z g1 bj bf vf bt vt p q rv d y1 e1 n1 (roomN (mostL s.y.lines)) (zcR (t.w * m.c)) := Jg
  have hl : leftZ d y1 e1 + i ≤ 12300 := hl
  have Mg : MapI g1 bm kv := Mg
  have hk : ∀ k ∈ kv.map Prod.fst, k < e1 := hk
  have hlast : first = false → last < e1 := hlast
  simp only [go_sem]
  rw [decide_eq_true (show (i : Int) < 20000 by omega)]
  simp only [go_sem]
  refine (zqQ Jg WJ R).mono fun r g2 ⟨er, n2, J2, hfr, _⟩ => ?_
  subst er
  have hbl : bm < h3.size := M3.lt
  have Mg2 : MapI g2 bm kv := Mg.row (hfr bm hbl hbm.2.2.2 hbm.1)
  refine zaR (cs := [.int .i64 (stepK d y1 e1), .int .i64 (stepJ d y1 e1)]) rfl (zad rfl (zad rfl zaq)) rfl fun b4 g4 q4 d4 m4 => ?_
  have J4 := J2.ext d4
  have M4 := Mg2.ext d4
  have z0 : zah g4 ⟨b4, 0, none⟩ = some (.int .i64 (stepK d y1 e1)) := zac q4
  have z1 : zah g4 ⟨b4, 1, none⟩ = some (.int .i64 (stepJ d y1 e1)) := zac q4
  have hb4 : ¬ b4 = bm := fun he => by have := Mg2.lt; omega
  have hyb := Jg.inv
  have hlb := zdK WJ.s.y y1
  have hjb := JobD.bd WJ
  have hy0 := WJ.y0
  simp only [go_sem, Nat.zero_add, z0, z1]
  rcases stepK_cases d y1 e1 with hk0 | hk1 | hk2
  ·have hY : stepY d y1 e1 = y1 := by unfold stepY; rw [if_neg (by omega)]
   have hEe : stepE d y1 e1 = e1 := by unfold stepE; rw [if_neg (by omega), if_neg (by omega)]
   rw [hY, hEe] at J4
   rw [hk0]
   simp only [go_sem, eqT]
   exact ⟨y1, e1, n2, rfl, hk0, J4⟩
  ·have n10 : ((1 : Int) = 0) = False := eq_false (by decide)
   have n12 : ((1 : Int) = 2) = False := eq_false (by decide)
   have hno : ¬ d.t.y + d.t.h ≤ y1 := fun h7 => by unfold stepK at hk1; rw [if_pos h7] at hk1; cases hk1
   have hlt : e1 < lnE d.s.y y1 := by
    unfold stepK at hk1
    rw [if_neg hno] at hk1
    rcases Int.lt_or_le e1 (lnE d.s.y y1) with h7 | h7
    ·exact h7
    ·rw [if_neg (by omega)] at hk1; cases hk1
   have hj : stepJ d y1 e1 = e1 := by unfold stepJ; rw [if_neg hno, if_pos hlt]
   have hY : stepY d y1 e1 = y1 := by unfold stepY; rw [if_neg (by omega)]
   have hEe : stepE d y1 e1 = e1 + 1 := by unfold stepE; rw [if_pos hk1]
   have hls := left_step (d := d) (y := y1) (e := e1) (by omega) (by omega)
   rw [hY, hEe] at J4 hls
   rw [hk1, hj] at q4
   rw [hk1] at z0
   rw [hj] at z1
   rw [hk1, hj]
   have hg0 : kGet e1 kv = none := zee.2 fun hm => by have := hk e1 hm; omega
   have hlk : lookV (.int .i64) (.int .i64 0) false g4 (.map (some bm)) (.int .i64 e1) = some (.int .i64 0) := by rw [zkT M4, hg0]; rfl
   simp only [go_sem, n10, n12, hlk]
   rw [w64 (n := 0 + 1) (by omega) (by omega)]
   refine put_map M4 fun g5 M5 u5 => ?_
   rw [kPut_none hg0] at M5
   have J5 := J4.upd u5 rfl hbl hbm.1 hbm.2.1 hbm.2.2.1 hbm.2.2.2
   have q5 := u5.row hb4 q4
   have z0 : zah g5 ⟨b4, 0, none⟩ = some (.int .i64 1) := zac q5
   have z1 : zah g5 ⟨b4, 1, none⟩ = some (.int .i64 e1) := zac q5
   have hlk2 : lookV (.int .i64) (.int .i64 0) false g5 (.map (some bm)) (.int .i64 e1) = some (.int .i64 (0 + 1)) := by
    rw [zkT M5, znU, hg0]
    simp only [if_true]; rfl
   have n11 : ¬ (1 : Int) < 0 + 1 := by omega
   simp only [go_sem, Nat.zero_add, z0, z1, eqT, hlk2, decide_eq_false n11]
   have hagn : ∀ (g : Heap), g = g5 → again [.int .i64 y1, .int .i64 e1, .bool false, .int .i64 (IntKind.i64.wrap ((i : Int) + 1))] g := fun g hg => by
    subst hg
    rw [w64 (by omega) (by omega)]
    refine Hag (y1, e1 + 1, n2, e1, false, kv ++ [(e1, .int .i64 (0 + 1))]) g (by omega) ⟨J5, by show leftZ d y1 (e1 + 1) + (i + 1) ≤ 12300; omega, M5, fun k hk7 => ?_, fun _ => by show e1 < e1 + 1; omega⟩
    have hk7 : k ∈ (kv ++ [(e1, Value.int .i64 (0 + 1))]).map Prod.fst := hk7
    rw [List.map_append] at hk7
    show k < e1 + 1
    rcases List.mem_append.1 hk7 with h7 | h7
    ·have := hk k h7; omega
    ·have : k = e1 := by simpa using h7
     omega
   cases first with
   | true => simp only [go_sem]; exact hagn _ rfl
   | false =>
    have := hlast rfl
    have n13 : ¬ e1 ≤ last := by omega
    simp only [go_sem, decide_eq_false n13]
    exact hagn _ rfl
  ·have n20 : ((2 : Int) = 0) = False := eq_false (by decide)
   have hno : ¬ d.t.y + d.t.h ≤ y1 := fun h7 => by unfold stepK at hk2; rw [if_pos h7] at hk2; cases hk2
   have hlt : ¬ e1 < lnE d.s.y y1 := fun h7 => by unfold stepK at hk2; rw [if_neg hno, if_pos h7] at hk2; cases hk2
   have hj : stepJ d y1 e1 = y1 := by unfold stepJ; rw [if_neg hno, if_neg hlt]
   have hY : stepY d y1 e1 = y1 + 1 := by unfold stepY; rw [if_pos hk2]
   have hEe : stepE d y1 e1 = max e1 (lnF d.s.y (y1 + 1)) := by unfold stepE; rw [if_neg (by omega), if_pos hk2]
   have hls := left_step (d := d) (y := y1) (e := e1) (by omega) (by have := (hyb.2.2 (by omega)).2; omega)
   rw [hY, hEe] at J4 hls
   rw [hk2, hj]
   simp only [go_sem, n20, eqT]
   rw [w64 (n := y1 + 1) (by omega) (by omega), w64 (n := (i : Int) + 1) (by omega) (by omega)]
   refine Hag (y1 + 1, max e1 (lnF d.s.y (y1 + 1)), n2, last, first, kv) g4 (by omega) ⟨J4, by show leftZ d (y1 + 1) (max e1 (lnF d.s.y (y1 + 1))) + (i + 1) ≤ 12300; omega, M4, fun k hk7 => ?_, fun h7 => ?_⟩
   ·have := hk k hk7
    show k < max e1 _
    omega
   ·have := hlast h7
    show last < max e1 _
    omega
 ·rintro _ ρ g ⟨y1, e1, n1, rfl, hk0, Jg⟩
  have rg := Jg.row r3 hap.1 hap.2.1 hap.2.2
  have k12 : zah g ⟨b, 12, none⟩ = some (.int .i64 t.y) := zac rg
  have k14 : zah g ⟨b, 14, none⟩ = some (.int .i64 t.h) := zac rg
  have hov := stepK_over hk0
  have hyy : y1 = t.y + t.h := by have := Jg.inv.2.1; rw [hdt] at *; omega
  simp only [go_sem, Nat.zero_add, k12, k14]
  rw [w64 (n := t.y + t.h) (by omega) (by omega), hyy]
  simp only [go_sem, eqT]
  refine FCall.to (zqS Jg WJ) fun g2 d2 => ?_
  rw [hk0]
  have hp : partV false 1 0 (moveV 0 (stepJ d y1 e1)) = some (.int .i64 0) := rfl
  simp only [go_sem, hp, eqT]
  exact ⟨by simp, (fin Jg.fr).trans d2⟩
def zpG (x y c x' y' c' : Int) : Prop := x' < x ∨ (x' = x ∧ (y' < y ∨ (y' = y ∧ c' < c)))
structure zce (n n' : Pic) : Prop where
 w : n'.w = n.w
 h : n'.h = n.h
 c : n'.c = n.c
 m : n'.most = n.most
theorem zce.refl (n : Pic) : zce n n := ⟨rfl, rfl, rfl, rfl⟩
theorem zce.newC {m n n' : Pic} {s : Stg} {t : TileD} (D : zce n n') (h : wnewC m n s t = 0) : wnewC m n' s t = 0 := by
 obtain ⟨h1, h2⟩ := zda.1 h
 exact zda.2 ⟨⟨h1.1, by rw [D.w]; exact h1.2.1, by rw [D.h]; exact h1.2.2.1, by rw [D.c]; exact h1.2.2.2.1, by rw [D.m]; exact h1.2.2.2.2⟩, h2⟩
theorem zce.inP {n n' : Pic} (D : zce n n') {x y c : Int} : Go.Proofs.YtojmncnelbnceaaGreatDoor.inP n' x y c ↔ Go.Proofs.YtojmncnelbnceaaGreatDoor.inP n x y c := by
 unfold Go.Proofs.YtojmncnelbnceaaGreatDoor.inP
 rw [D.w, D.h, D.c]
theorem zoP {h : Heap} (G : GlobB h) {cs os : List Value} {a : PicA} {o : OpD} (A : zoi h cs os a o) {x y w hh mark : Int} (hx : B8 x) (hy : B8 y) (hw : B8 w) (hhh : B8 hh) (hmark : U16 mark) :
  FCall prog zcO #[.agg cs.toArray, .agg os.toArray, .int .u8 x, .int .u8 y, .int .u8 w, .int .u8 hh, .int .u16 mark] h fun r h' => r = .bool true ∧ Ext h h' := by
 apply zhY
 unfold zea
 refine open17 G A hx hy hw hhh (fun h' e => ⟨rfl, e⟩) fun h1 b Z bf vf bt vt p q X Y U => ?_
 have hdm := U.ok.dims hx hy hw hhh
 have hcc := U.ok.newc hx hy hw hhh
 have hwi := U.ok.within hx hy hw hhh
 have hsx := U.ok.sx
 have hsy := U.ok.sy
 have hfit := U.ok.fit
 generalize ht : bgT (bgS a o) x y w hh = t at *
 have OK := U.ok.stg
 have nwf := U.ok.nwf
 have mwf := zeL a
 have nw : (bgN a o).w = (bgS a o).x.lines.length := rfl
 have nh : (bgN a o).h = (bgS a o).y.lines.length := rfl
 have nc : (bgN a o).c = (drawA a).c := rfl
 have nm : (bgN a o).most = (drawA a).most := rfl
 generalize hS : bgS a o = s at *
 generalize hM : drawA a = m at *
 generalize hN : bgN a o = n at *
 have r1 := U.row
 rw [hS] at r1
 have S1 := U.set
 rw [hS, hM, hN] at S1
 have R1 := U.ref
 rw [hS] at R1
 have hfm := zbn mwf.fits
 have hm1 := mwf.m1
 have hm2 := mwf.m2
 have c1 : zah h1 ⟨b, 1, none⟩ = some (ptr bt) := zac r1
 simp only [go_sem, Nat.zero_add, c1]
 rw [w64 (n := mark) (by omega) (by omega)]
 refine FCall.at (zcU S1.out) ?_
 simp only [go_sem, Nat.zero_add, c1]
 rw [nm, w64 (n := m.most + 1) (by omega) (by omega), zaJ _ _ _ _ (by omega), zaa, Int.tmod_eq_emod_of_nonneg hmark.1]
 have v0 := Int.emod_nonneg mark (show m.most + 1 ≠ 0 by omega)
 have v1 := Int.emod_lt_of_pos mark (show 0 < m.most + 1 by omega)
 generalize mark % (m.most + 1) = v at *
 simp only [go_sem, Nat.zero_add, c1]
 rw [wu16 (by omega) (by omega)]
 refine FCall.at (zh7 S1.out) ?_
 rw [nw]
 have hvt : ¬ blk vt b := U.ap.2.2
 have hE1 := U.ext.1
 -- the marks
 obtain ⟨I, hI⟩ : ∃ I : Int → Int → Int → Pic → Heap → Prop, I = fun x y c n' g => Setup Z g bf vf bt vt p q m n' s ∧ n'.Wf ∧ zce n n' ∧ (∀ x' y' c', inP n x' y' c' → zpG x y c x' y' c' → atP n' x' y' c' = v) ∧ Fr (blk vt) h1 g ∧ g.size = h1.size := ⟨_, rfl⟩
 refine zaz (α := Pic) s.x.lines.length 0 (fun i _ => [.int .i64 (i : Int)]) (fun i n' g => I i 0 0 n' g) n rfl (Nat.zero_le _)
  (by
   rw [hI]
   refine ⟨S1, nwf, zce.refl n, fun x' y' c' hi ha => ?_, Fr.refl _ _, rfl⟩
   unfold zpG at ha
   unfold inP at hi
   omega) fun i n1 g1 again ρ1 _ hi HI Hag => ?_
 have rb : ∀ {x y c : Int} {n' : Pic} {g : Heap}, I x y c n' g → g[b]? = some (.cells (zgT bf bt p q X Y s t).toArray 45 (0, 0)) := fun H => by
  rw [hI] at H
  exact H.2.2.2.2.1.row r1 hvt
 simp only [go_sem]
 refine zab (fun k1 => ?_) (fun k1 => ?_)
 ·have hi' : i < s.x.lines.length := by omega
  have c1 : zah g1 ⟨b, 1, none⟩ = some (ptr bt) := zac (rb HI)
  simp only [go_sem, Nat.zero_add, c1]
  have HI1 := HI
  rw [hI] at HI1
  obtain ⟨Sg, Wg, Dg, Ag, fg, sg⟩ := HI1
  refine FCall.at (zf1 Sg.out) ?_
  rw [Dg.h, nh]
  refine zaz (α := Pic) s.y.lines.length 0 (fun k _ => [.int .i64 (k : Int)]) (fun k n' g => I i k 0 n' g) n1 rfl (Nat.zero_le _) HI fun k n2 g2 again2 ρ2 _ hk HI2 Hag2 => ?_
  simp only [go_sem]
  refine zab (fun k2 => ?_) (fun k2 => ?_)
  ·have hk' : k < s.y.lines.length := by omega
   have c1 : zah g2 ⟨b, 1, none⟩ = some (ptr bt) := zac (rb HI2)
   simp only [go_sem, Nat.zero_add, c1]
   have HI2' := HI2
   rw [hI] at HI2'
   obtain ⟨Sg, Wg, Dg, Ag, fg, sg⟩ := HI2'
   refine FCall.at (zbb Sg.out) ?_
   rw [Dg.c, nc]
   obtain ⟨C, hC⟩ : ∃ C : Nat, m.c = (C : Int) := ⟨m.c.toNat, by omega⟩
   rw [hC]
   refine zaz (α := Pic) C 0 (fun c _ => [.int .i64 (c : Int)]) (fun c n' g => I i k c n' g) n2 rfl (Nat.zero_le _) HI2 fun c n3 g3 again3 ρ3 _ hc HI3 Hag3 => ?_
   simp only [go_sem]
   refine zab (fun k3 => ?_) (fun k3 => ?_)
   ·have hc' : c < C := by omega
    have c1 : zah g3 ⟨b, 1, none⟩ = some (ptr bt) := zac (rb HI3)
    simp only [go_sem, Nat.zero_add, c1]
    rw [hI] at HI3
    obtain ⟨Sg, Wg, Dg, Ag, fg, sg⟩ := HI3
    refine (c_Set Sg.out Wg (n := v) (by omega) (by omega)).mono fun r g4 ⟨_, I4, f4, s4⟩ => ?_
    have hin : inP n3 i k c := by unfold inP; rw [Dg.w, Dg.h, Dg.c, nw, nh, nc]; omega
    have hset : inP n3 (i : Int) k c ∧ v ≤ n3.most := ⟨hin, by rw [Dg.m, nm]; omega⟩
    rw [if_pos hset] at I4
    rw [w64 (by omega) (by omega)]
    refine Hag3 (setP n3 i k c v) g4 hc' ?_
    rw [hI]
    refine ⟨Sg.chg f4 Sg.zz I4, setP_Wf Wg (by omega) hset.2, ⟨Dg.w, Dg.h, Dg.c, Dg.m⟩, fun x' y' c' hip ha => ?_, fg.trans f4, by rw [s4]; exact sg⟩
    rw [zq4 Wg hin]
    split
    ·rfl
    ·rename_i hne
     refine Ag x' y' c' hip ?_
     unfold zpG at ha ⊢
     omega
   ·have : c = C := by omega
    subst this
    rw [w64 (by omega) (by omega)]
    refine Hag2 n3 g3 hk' ?_
    rw [hI] at HI3 ⊢
    obtain ⟨Sg, Wg, Dg, Ag, fg, sg⟩ := HI3
    refine ⟨Sg, Wg, Dg, fun x' y' c' hip ha => Ag x' y' c' hip ?_, fg, sg⟩
    unfold inP at hip
    rw [nc, hC] at hip
    unfold zpG at ha ⊢
    omega
  ·have : k = s.y.lines.length := by omega
   subst this
   rw [w64 (by omega) (by omega)]
   refine Hag n2 g2 hi' ?_
   rw [hI] at HI2 ⊢
   obtain ⟨Sg, Wg, Dg, Ag, fg, sg⟩ := HI2
   refine ⟨Sg, Wg, Dg, fun x' y' c' hip ha => Ag x' y' c' hip ?_, fg, sg⟩
   unfold inP at hip
   rw [nh] at hip
   unfold zpG at ha ⊢
   omega
 have hiX : i = s.x.lines.length := by omega
 subst hiX
 have rg1 := rb HI
 rw [hI] at HI
 obtain ⟨Sg, Wg, Dg, Ag, fg, sg⟩ := HI
 have hv : ∀ x' y' c', inP n x' y' c' → atP n1 x' y' c' = v := fun x' y' c' hip => Ag x' y' c' hip (by
  unfold inP at hip
  rw [nw] at hip
  unfold zpG; omega)
 clear Hag
 have Eg : Ext h g1 := U.ext.then_fr fg U.nt.2
 have c0 : zah g1 ⟨b, 0, none⟩ = some (ptr bf) := zac rg1
 simp only [go_sem, Nat.zero_add, c0]
 refine (c_l9Ref Sg.src mwf).mono fun r g2 ⟨ps, er, P2, e2⟩ => ?_
 subst er
 have plen := rPic.len P2
 refine zaR (cs := ps) (by rw [plen]; rfl) (rPic.one P2) plen fun b3 g3 q3 e3 n3 => ?_
 have e13 := e2.trans e3
 have rg3 := e13.row rg1
 have c0 : zah g3 ⟨b, 0, none⟩ = some (ptr bf) := zac rg3
 have c1 : zah g3 ⟨b, 1, none⟩ = some (ptr bt) := zac rg3
 simp only [go_sem, Nat.zero_add, c0, c1]
 rw [zaM rg3 2 3 [p, q, .int .i64 s.border] rfl rfl, zaa, zaM rg3 10 10 (tileC t) rfl rfl, zaa]
 have S3 := Sg.ext e13
 have E3 := Eg.trans e13
 have hcc1 := Dg.newC hcc
 refine (zjC (G.ext E3) S3 mwf Wg OK.wf).mono fun r g4 HW => ?_
 obtain ⟨bj, rv, er, e4, J⟩ := HW.go hcc1
 subst er
 have R := OK.room (m := m) (n := n1) (t := t) mwf hcc1
 have WJ := zmk (t := t) mwf OK.wf hcc1
 have rg4 := e4.row rg3
 have q4 := e4.row q3
 have E4 := E3.trans e4
 obtain ⟨B4, hB4⟩ : ∃ B4, B4 = Grow (fun _ => False) g3 g4 := ⟨_, rfl⟩
 rw [← hB4] at J
 have nz4 : ∀ c, B4 c → g3.size ≤ c ∧ c < g4.size := fun c hc => by rw [hB4] at hc; exact hc.elim (fun h => h.elim) id
 have lb1 := zaB rg1
 have lb3 := zaB rg3
 have l3 := zaB q3
 have hnb : ¬ ((blk vt b ∨ B4 b) ∨ noQ b) := fun hh => by
  rcases hh.resolve_right id with hh | hh
  ·exact hvt hh
  ·have := nz4 b hh; omega
 have hsz2 := e2.1
 have hn3 : ¬ ((blk vt b3 ∨ B4 b3) ∨ noQ b3) := fun hh => by
  rcases hh.resolve_right id with hh | hh
  ·have := Sg.out.ltv hh; omega
  ·have := nz4 b3 hh; omega
 simp only [go_sem, eqT, zo6]
 refine zak (GoFr vt B4 noQ g4) (Fr.refl _ _) ?_
 try simp only [go_sem, Nat.zero_add]
 refine zae (.agg #[p, q, .int .i64 s.border]) (fun g e => zaM (GoFr.row e rg4 hnb) 2 3 [p, q, .int .i64 s.border] rfl rfl) ?_
 try simp only [go_sem, Nat.zero_add]
 refine zae (.agg (tileC t).toArray) (fun g e => zaM (GoFr.row e rg4 hnb) 10 10 (tileC t) rfl rfl) ?_
 try simp only [go_sem, Nat.zero_add]
 refine (zqR (JobGo.start (Q := noQ) J) WJ R).mono fun r g5 ⟨er, y5, e5', n5, _, J5, W5⟩ => ?_
 subst er
 have f5 : GoFr vt B4 noQ g4 g5 := J5.fr
 refine ⟨f5, ?_⟩
 refine FCall.to (zqV m J5.tbl.1 J5.tbl.2 OK) fun g6 e6 => ?_
 rw [if_pos hwi, show (zev s t m : Int) = ((leftZ ⟨m, s, t⟩ t.y (lnF s.y t.y) : Nat) : Int) from rfl]
 simp only [go_sem, eqT]
 have hW5 := W5 n1 (zgR Wg hcc1) (Wrote.start _ _)
 obtain ⟨O5, I5, M5⟩ := J5.out
 have rg6 := e6.row (GoFr.row f5 rg4 hnb)
 have q6 := e6.row (GoFr.row f5 q4 hn3)
 have hvtg : ∀ c, blk vt c → g1.size ≤ c → False := fun c hc hl => by have := Sg.out.ltv hc; omega
 have P5 : rPic.R (Since g1 g2) g5 ps m := rPic.fr (rPic.ext P2 (e3.trans e4)) f5 fun c _ hz hh => by
  rcases hh.resolve_right id with hh | hh
  ·exact hvtg c hh hz.1
  ·have := nz4 c hh; have := hz.2; have := e3.1; omega
 have P6 := rPic.ext P5 e6
 have K6 : rStg.R Z g6 [X, Y, .int .i64 s.x.n, .int .i64 s.y.n, .int .i64 s.border] s := by
  refine rStg.ext (rStg.fr (rStg.ext (rStg.fr R1 fg fun c _ hz => S1.zz c hz) (e13.trans e4)) f5 fun c _ hz hh => ?_) e6
  rcases hh.resolve_right id with hh | hh
  ·exact S1.zz c hz hh
  ·have := nz4 c hh; have := S1.zl c hz; have := e13.1; omega
 rw [zal q6 5 plen, zaa, zaM rg6 5 5 [X, Y, .int .i64 s.x.n, .int .i64 s.y.n, .int .i64 s.border] rfl rfl, zaa]
 refine (c_r15Apply P6 mwf K6 OK.wf hfit).mono fun r g7 ⟨es, er, P7, e7⟩ => ?_
 subst er
 have elen := rPic.len P7
 refine zaR (cs := es) (by rw [elen]; rfl) (rPic.one P7) elen fun b8 g8 q8 e8 n8 => ?_
 have rg8 := (e7.trans e8).row rg6
 simp only [go_sem, Nat.zero_add]
 rw [zaM rg8 11 4 [.int .i64 t.x, .int .i64 t.y, .int .i64 t.w, .int .i64 t.h] rfl rfl, zaa]
 refine zaR (cs := [.int .i64 t.x, .int .i64 t.y, .int .i64 t.w, .int .i64 t.h]) rfl (zad rfl (zad rfl (zad rfl (zad rfl zaq)))) rfl fun b9 g9 q9 e9 n9 => ?_
 have q89 := e9.row q8
 have rg9 := e9.row rg8
 have e69 := e7.trans (e8.trans e9)
 obtain ⟨ul, ees, Sul⟩ := P7
 have P9 : rPic.R (Since g6 g7) g9 es (zlb m s) := rPic.ext ⟨ul, ees, Sul⟩ (e8.trans e9)
 have awf := applyP_wf mwf hfit
 subst ees
 have k0 : zah g9 ⟨b8, 0, none⟩ = some (.int .i64 (s.x.lines.length : Int)) := zac q89
 simp only [go_sem, Nat.zero_add, k0]
 have I9 : IsImg g9 bt vt n5 := I5.ext (e6.trans e69)
 have M9 : IsImg g9 bf vf m := M5.ext (e6.trans e69)
 have E9 : Ext h g9 := (E4.then_fr f5 fun c hc => by
  rcases hc.resolve_right id with hc | hc
  ·exact U.nt.2 c hc
  ·have := nz4 c hc; have := E3.1; omega).trans (e6.trans e69)
 have q69 := e69.row q6
 have P69 := rPic.ext P6 e69
 refine zaz (α := Unit) s.x.lines.length 0 (fun i _ => [.int .i64 (i : Int)]) (fun i _ g => Ext g9 g) () rfl (Nat.zero_le _) (Ext.refl _) fun i _ ga again ρ1 _ hi Ea Hag => ?_
 simp only [go_sem]
 refine zab (fun k1 => ?_) (fun k1 => ?_)
 ·have hi' : i < s.x.lines.length := by omega
  have k1 : zah ga ⟨b8, 1, none⟩ = some (.int .i64 (s.y.lines.length : Int)) := zac (Ea.row q89)
  simp only [go_sem, Nat.zero_add, k1]
  refine zaz (α := Unit) s.y.lines.length 0 (fun i _ => [.int .i64 (i : Int)]) (fun i _ g => Ext g9 g) () rfl (Nat.zero_le _) Ea fun k _ gb again2 ρ2 _ hk Eb Hag2 => ?_
  simp only [go_sem]
  refine zab (fun k2 => ?_) (fun k2 => ?_)
  ·have hk' : k < s.y.lines.length := by omega
   have k2 : zah gb ⟨b8, 2, none⟩ = some (.int .i64 m.c) := zac (Eb.row q89)
   simp only [go_sem, Nat.zero_add, k2]
   obtain ⟨C, hC⟩ : ∃ C : Nat, m.c = (C : Int) := ⟨m.c.toNat, by omega⟩
   rw [hC]
   refine zaz (α := Unit) C 0 (fun i _ => [.int .i64 (i : Int)]) (fun i _ g => Ext g9 g) () rfl (Nat.zero_le _) Eb fun c _ gc again3 ρ3 _ hc Ec Hag3 => ?_
   simp only [go_sem]
   refine zab (fun k3 => ?_) (fun k3 => ?_)
   ·have hc' : c < C := by omega
    have j0 : zah gc ⟨b9, 0, none⟩ = some (.int .i64 t.x) := zac (Ec.row q9)
    have j1 : zah gc ⟨b9, 1, none⟩ = some (.int .i64 t.y) := zac (Ec.row q9)
    have j2 : zah gc ⟨b9, 2, none⟩ = some (.int .i64 t.w) := zac (Ec.row q9)
    have j3 : zah gc ⟨b9, 3, none⟩ = some (.int .i64 t.h) := zac (Ec.row q9)
    have w1 : IntKind.i64.wrap (t.x + t.w) = t.x + t.w := w64 (by omega) (by omega)
    have w2 : IntKind.i64.wrap (t.y + t.h) = t.y + t.h := w64 (by omega) (by omega)
    have hin : inP n1 i k c := by unfold inP; rw [Dg.w, Dg.h, Dg.c, nw, nh, nc]; omega
    have hin0 : inP n i k c := Dg.inP.1 hin
    have hat : atP n5 i k c = if t.x ≤ (i : Int) ∧ (i : Int) < t.x + t.w ∧ t.y ≤ (k : Int) ∧ (k : Int) < t.y + t.h then pixZ m s i k c else atP n1 i k c := hW5 i k c hin
    have b1 : zah gc ⟨b, 1, none⟩ = some (ptr bt) := zac (Ec.row rg9)
    simp only [go_sem, Nat.zero_add, j0, j1, j2, j3, w1, w2]
    refine zab (fun g => ?_) (fun g => ?_)
    ·have hP := P9
     rw [zal (Ec.row q89) 5 rfl, zaa]
     refine FCall.to (c_r9At (rPic.ext P9 Ec) awf) fun gd ed => ?_
     have b1 : zah gd ⟨b, 1, none⟩ = some (ptr bt) := zac ((Ec.trans ed).row rg9)
     simp only [go_sem, Nat.zero_add, b1]
     refine FCall.at (c_At (I9.ext (Ec.trans ed)) O5.wf) ?_
     have hia : inP (zlb m s) i k c := by
      refine ⟨by omega, by show (i : Int) < (s.x.lines.length : Int); omega, by omega, by show (k : Int) < (s.y.lines.length : Int); omega, by omega, by show (c : Int) < m.c; omega⟩
     rw [applyP_at hia]
     rw [if_pos (by omega)] at hat
     rw [hat]
     simp only [go_sem, eqT]
     rw [w64 (by omega) (by omega)]
     exact Hag3 () gd hc' (Ec.trans ed)
    ·simp only [go_sem, Nat.zero_add, b1]
     refine FCall.at (c_At (I9.ext Ec) O5.wf) ?_
     have hng : ¬ (t.x ≤ (i : Int) ∧ (i : Int) < t.x + t.w ∧ t.y ≤ (k : Int) ∧ (k : Int) < t.y + t.h) := by omega
     rw [if_neg hng, hv i k c hin0] at hat
     rw [hat]
     simp only [go_sem, eqT]
     rw [w64 (by omega) (by omega)]
     exact Hag3 () gc hc' Ec
   ·have : c = C := by omega
    subst this
    rw [w64 (by omega) (by omega)]
    exact Hag2 () gc hk' Ec
  ·have : k = s.y.lines.length := by omega
   subst this
   rw [w64 (by omega) (by omega)]
   exact Hag () gb hi' Eb
 ·refine zak (Ext ga) (Ext.refl _) ?_
  try simp only [go_sem, Nat.zero_add]
  refine zae (ptr bf) (fun g e => zac ((Ea.trans e).row rg9)) ?_
  refine zae (.agg ps.toArray) (fun g e => zal ((Ea.trans e).row q69) 5 plen) ?_
  refine (c_l9Ref (M9.ext Ea) mwf).mono fun r gd ⟨ps2, er, P10, ed⟩ => ?_
  subst er
  refine ⟨ed, ?_⟩
  have hl := mwf.len
  refine (c_l9Equal P10 (rPic.ext P69 (Ea.trans ed)) (by omega) rfl rfl rfl rfl).mono fun r ge ⟨er, ee⟩ => ?_
  subst er
  exact ⟨by simp, E9.trans (Ea.trans (ed.trans ee))⟩
theorem c_Suits_nilX {h : Heap} {b : Nat} {q bd : Value} : FCall prog zbU #[ptr b, .agg #[.pointer none, q, bd]] h fun r h' => r = .bool false ∧ Ext h h' := by
 apply zh0
 unfold zfc
 simp only [zax]
 refine zag fun b1 h1 r1 e1 n1 => ?_
 have q0 : zah h1 ⟨b1, 0, none⟩ = some (.pointer none) := zac r1
 simp only [go_sem, Nat.zero_add, q0, nil_nn]
 exact ⟨trivial, e1⟩
theorem c_wsuits_bad {h : Heap} {bf bt : Nat} {vf vt : Value} {m n : Pic} (I : IsImg h bf vf m) (O : IsImg h bt vt n) (hne : bf ≠ bt) {p q bd : Value} (hs : ∀ h', Ext h h' → FCall prog zbU #[ptr bf, .agg #[p, q, bd]] h' fun r h' => r = .bool false ∧ Ext h h') :
  FCall prog zbT #[ptr bf, ptr bt, .agg #[p, q, bd]] h fun r h' => r = .bool false ∧ Ext h h' := by
 apply zfe
 unfold zdl
 simp only [zax]
 refine zag fun b1 h1 r1 e1 n1 => ?_
 refine zak (fun h' => h' = h1) rfl ?_
 simp only [go_sem, ptr_nn]
 refine zae (.bool true) (fun h' e => by rw [e]; exact pe_ne (e1.row I.row) (e1.row O.row) hne) ?_
 try simp only [go_sem]
 refine zae (.agg #[p, q, bd]) (fun h' e => by rw [e]; exact zal (l := [p, q, bd]) r1 3 rfl) ?_
 refine (hs h1 e1).mono fun r h2 ⟨er, E2⟩ => ?_
 subst er
 refine zak (fun h' => h' = h2) rfl ?_
 simp only [go_sem]
 refine zae undef (fun _ _ => rfl) ?_
 try simp only [go_sem]
 refine ⟨trivial, ?_⟩
 try simp only [go_sem]
 refine zak (fun h' => h' = h2) rfl ?_
 simp only [go_sem]
 refine zae undef (fun _ _ => rfl) ?_
 try simp only [go_sem]
 refine ⟨trivial, ?_⟩
 try simp only [go_sem]
 exact ⟨trivial, E2⟩
theorem c_wNew_bad {h : Heap} {fv tv p q bd : Value} {ts : List Value} (ho : ∀ v ∈ [p, q, bd], zam v = true) (hl : ts.length = 10) (hs : ∀ h', Ext h h' → FCall prog zbT #[fv, tv, .agg #[p, q, bd]] h' fun r h'' => r = .bool false ∧ Ext h' h'') :
  FCall prog za8 #[fv, tv, .agg #[p, q, bd], .agg ts.toArray] h fun r h' => r = .tuple #[.pointer none, .int .i64 6] ∧ Ext h h' := by
 apply zkA
 unfold zgG
 simp only [zax]
 refine zag fun b1 h1 r1 e1 n1 => zag fun b2 h2 r2 e2 n2 => ?_
 have E2 := e1.trans e2
 have r1 := e2.row r1
 rw [zal (l := [p, q, bd]) r1 3 rfl, zaa]
 refine FCall.to (hs h2 E2) fun h3 e3 => ?_
 simp only [go_sem]
 exact ⟨trivial, E2.trans e3⟩
theorem in_walk {s : Stg} (WS : s.Wf) {x y w hh : Int} {K : Value → Prop} (H : K (.bool (decide (zaY s x y w hh)))) :
  vK (binV .i .geq (.int .i64 x) (.int .i64 0)) fun v35 =>
  vK (gV v35 true (some (.int .i64 y))) fun v36 =>
  vK (gV v35 true (binV .i .geq v36 (.int .i64 0))) fun v37 =>
  vK (pickV v35 v37 (.bool false)) fun v38 =>
  vK (gV v38 true (some (.int .i64 w))) fun v39 =>
  vK (gV v38 true (binV .i .geq v39 (.int .i64 1))) fun v40 =>
  vK (pickV v38 v40 (.bool false)) fun v41 =>
  vK (gV v41 true (some (.int .i64 hh))) fun v42 =>
  vK (gV v41 true (binV .i .geq v42 (.int .i64 1))) fun v43 =>
  vK (pickV v41 v43 (.bool false)) fun v44 =>
  vK (gV v44 true (some (.int .i64 x))) fun v45 =>
  vK (gV v44 true (some (.int .i64 (s.x.lines.length : Int)))) fun v46 =>
  vK (gV v44 true (binV .i .lss v45 v46)) fun v47 =>
  vK (pickV v44 v47 (.bool false)) fun v48 =>
  vK (gV v48 true (some (.int .i64 y))) fun v49 =>
  vK (gV v48 true (some (.int .i64 (s.y.lines.length : Int)))) fun v50 =>
  vK (gV v48 true (binV .i .lss v49 v50)) fun v51 =>
  vK (pickV v48 v51 (.bool false)) fun v52 =>
  vK (gV v52 true (some (.int .i64 w))) fun v53 =>
  vK (gV v52 true (some (.int .i64 (s.x.lines.length : Int)))) fun v54 =>
  vK (gV v52 true (some (.int .i64 x))) fun v55 =>
  vK (gV v52 true (binV .i .sub v54 v55)) fun v56 =>
  vK (gV v52 true (binV .i .leq v53 v56)) fun v57 =>
  vK (pickV v52 v57 (.bool false)) fun v58 =>
  vK (gV v58 true (some (.int .i64 hh))) fun v59 =>
  vK (gV v58 true (some (.int .i64 (s.y.lines.length : Int)))) fun v60 =>
  vK (gV v58 true (some (.int .i64 y))) fun v61 =>
  vK (gV v58 true (binV .i .sub v60 v61)) fun v62 =>
  vK (gV v58 true (binV .i .leq v59 v62)) fun v63 =>
  vK (pickV v58 v63 (.bool false)) fun v64 => K v64 := by
 have lx := WS.x.len
 have ly := WS.y.len
 simp only [go_sem]
 refine (congrArg (fun b => K (Value.bool b)) (decide_eq_decide.2 ?_)).mp H
 unfold zaY
 by_cases g : 0 ≤ x ∧ 0 ≤ y ∧ x < (s.x.lines.length : Int) ∧ y < (s.y.lines.length : Int)
 ·rw [w64 (n := (s.x.lines.length : Int) - x) (by omega) (by omega), w64 (n := (s.y.lines.length : Int) - y) (by omega) (by omega)]
  omega
 ·constructor
  ·intro hh; exact absurd ⟨hh.2.2.1, hh.2.2.2.1, hh.2.2.2.2.1, hh.2.2.2.2.2.1⟩ g
  ·intro hh; exfalso; apply g; omega
theorem steps_pos {s : Stg} {t : TileD} {m : Pic} (h : 1 ≤ t.h) : 1 ≤ zev s t m := by
 unfold zev
 rw [zkV (by show t.y < t.y + t.h; omega)]
 omega
theorem c_WindowNew {h : Heap} (G : GlobB h) {cs os : List Value} {a : PicA} {o : OpD} (A : zoi h cs os a o) {x y w hh which : Int} (hwh : B8 which) :
  FCall prog zdV #[.agg cs.toArray, .agg os.toArray, .int .i64 x, .int .i64 y, .int .i64 w, .int .i64 hh, .int .u8 which] h fun r h' => r = .bool true ∧ Ext h h' := by
 apply zkQ
 unfold zfP
 have z8 : B8 0 := by unfold B8; omega
 refine open17 G A z8 z8 z8 z8 (fun h' e => ⟨rfl, e⟩) fun h1 b Z bf vf bt vt p q X Y U => ?_
 have hsu := U.ok.suits
 have hsx := U.ok.sx
 have hsy := U.ok.sy
 generalize bgT (bgS a o) 0 0 0 0 = t0 at *
 have OK := U.ok.stg
 have nwf := U.ok.nwf
 have mwf := zeL a
 have hds := zgS a
 have nw : (bgN a o).w = (bgS a o).x.lines.length := rfl
 have nc : (bgN a o).c = (drawA a).c := rfl
 generalize hS : bgS a o = s at *
 generalize hM : drawA a = m at *
 generalize hN : bgN a o = n at *
 have r1 := U.row
 rw [hS] at r1
 have S1 := U.set
 rw [hS, hM, hN] at S1
 have hfm := mwf.fits
 have hm1 := mwf.m1
 have hm2 := mwf.m2
 have hc13 : m.c = 1 ∨ m.c = 3 := hfm.2.2.2.2.1
 rw [show fillL #[(.int .i64 0), (.int .i64 0), (.int .i64 0), (.int .i64 0)] [(0, 1, .int .i64 x), (1, 1, .int .i64 y), (2, 1, .int .i64 w), (3, 1, .int .i64 hh)] = some #[.int .i64 x, .int .i64 y, .int .i64 w, .int .i64 hh] from rfl, zaA, zaa]
 obtain ⟨t, hT⟩ : ∃ t : TileD, t = ⟨0, x, y, w, hh, 0, 0, 0, 0, 0⟩ := ⟨_, rfl⟩
 have hft : fillL #[(.int .i64 0), (.int .i64 0), (.int .i64 0), (.int .i64 0), (.int .i64 0), (.int .i64 0), (.int .i64 0), (.int .i64 0), (.int .i64 0), (.int .i64 0)] [(1, 4, .agg #[.int .i64 x, .int .i64 y, .int .i64 w, .int .i64 hh])] = some (tileC t).toArray := by
  refine (zba (n := 4) (l := [.int .i64 x, .int .i64 y, .int .i64 w, .int .i64 hh]) rfl rfl (by simp)).trans ?_
  rw [zb7, hT]
  simp [wrL, tileC]
 rw [hft, zaA, zaa]
 refine zaR (cs := tileC t) rfl (zbO _) rfl fun b2 h2 r2 e2 n2 => ?_
 have r12 := e2.row r1
 refine zak (fun h' => h' = h2) rfl ?_
 rw [zix, zaa, zix, zaa]
 refine zae p (fun h' e => by rw [e]; exact zac r12) ?_
 rw [zix, zaa, zix, zaa]
 refine zae q (fun h' e => by rw [e]; exact zac r12) ?_
 have S2 := S1.ext e2
 refine FCall.at (c_To S2.tx) ?_
 refine ⟨rfl, ?_⟩
 refine FCall.at (c_To S2.ty) ?_
 refine in_walk OK.wf ?_
 have c0 : zah h2 ⟨b, 0, none⟩ = some (ptr bf) := zac r12
 have c1 : zah h2 ⟨b, 1, none⟩ = some (ptr bt) := zac r12
 simp only [go_sem, Nat.zero_add, c0, c1]
 rw [zaM r12 2 3 [p, q, .int .i64 s.border] rfl rfl, zaa, zal r2 10 rfl, zaa]
 have E2 := U.ext.trans e2
 -- what is the same, whether there is a job or not
 have rest : ∀ h3, Ext h2 h3 → ∀ Kp : Heap → Prop, (∀ h4, Ext h3 h4 → Kp h4) → ∀ W0, W0 = zaY s x y w hh → True := fun _ _ _ _ _ _ => trivial
 refine (zjC (G.ext E2) S2 mwf nwf OK.wf).mono fun r h3 ⟨e3, v, er, hv0, hv1⟩ => ?_
 subst er
 have r13 := e3.row r12
 have r23 := e3.row r2
 have S3 := S2.ext e3
 have E3 := E2.trans e3
 have hsub := E2.1
 -- the answer so far is as it should be
 have key : ∀ (F : Heap → Prop), (∀ h4, Ext h3 h4 → F h4) →
   vK (extV (.tuple #[v, .int .i64 (wnewC m n s t)]) 0) fun v74 => vK (extV (.tuple #[v, .int .i64 (wnewC m n s t)]) 1) fun v75 =>
   vK (binV .i .eql v75 (.int .i64 0)) fun v76 =>
   vK (binV .b .neq (.bool (decide (zaY s x y w hh))) v76) fun v77 =>
   vK (gV v77 false (some (.bool (decide (zaY s x y w hh))))) fun v78 =>
   vK (gV v77 false (some v74)) fun v79 =>
   vK (gV v77 false (binV .p .neq v79 (.pointer none))) fun v80 =>
   vK (gV v77 false (binV .b .neq v78 v80)) fun v81 =>
   vK (pickV v77 (.bool true) v81) fun v82 =>
   vK (gV v82 false (some (.bool (decide (zaY s x y w hh))))) fun v83 =>
   vK (gV v82 false (unV .not v83)) fun v84 =>
   vK (gV v82 false (some v84)) fun v85 =>
   vK (gV v85 true (some v75)) fun v86 =>
   vK (gV v85 true (binV .i .neq v86 (.int .i64 9))) fun v87 =>
   vK (gV v82 false (pickV v85 v87 (.bool false))) fun v88 =>
   vK (pickV v82 (.bool true) v88) fun v89 =>
   vK (gV v89 false (fldV 2 (ptr b))) fun v90 =>
   vK (gV v89 false (ldsV 3 h3 v90)) fun v91 =>
   vK (gV v89 false (ldsV 10 h3 (ptr b2))) fun v92 =>
   gK v89 false (fun k165 => FCall prog zcl #[v91, v92] h3 k165) h3 fun v93 h94 =>
   vK (gV v89 false (binV .i .gtr v93 (.int .i64 0))) fun v95 =>
   vK (gV v89 false (some (.bool (decide (zaY s x y w hh))))) fun v96 =>
   vK (gV v89 false (binV .b .neq v95 v96)) fun v97 =>
   vK (pickV v89 (.bool true) v97) fun v98 =>
   iteK v98 (Value.bool false = .bool true ∧ Ext h h94) (F h94) := by
  intro F hF
  by_cases hin : zaY s x y w hh
  ·have hin' : zaY s t.x t.y t.w t.h := by rw [hT]; exact hin
   have hc : wnewC m n s t = 0 := zda.2 ⟨hsu, hin'⟩
   obtain ⟨bj, rv, rfl, _⟩ := hv1 hc
   rw [hc]
   simp only [go_sem, decide_eq_true hin, eqT, ptr_nn, beq_self_eq_true, Nat.zero_add]
   rw [zaM r13 2 3 [p, q, .int .i64 s.border] rfl rfl, zaa, zal r23 10 rfl, zaa]
   refine FCall.to (zqV m S3.tx S3.ty OK) fun h4 e4 => ?_
   rw [if_pos hin']
   have hp := steps_pos (s := s) (t := t) (m := m) (by rw [hT]; exact hin.2.1)
   simp only [go_sem, decide_eq_true (show (0 : Int) < (zev s t m : Int) by omega), beq_self_eq_true]
   exact hF h4 e4
  ·have hin' : ¬ zaY s t.x t.y t.w t.h := by rw [hT]; exact hin
   have hc : wnewC m n s t = 9 := by unfold wnewC; rw [if_neg (by simpa using hsu), if_pos hin']
   rw [hv0 (by rw [hc]; decide), hc]
   have n90 : ¬ ((9 : Int) = 0) := by decide
   simp only [go_sem, decide_eq_false hin, decide_eq_false n90, eqT, nil_nn, beq_self_eq_true, Nat.zero_add]
   rw [zaM r13 2 3 [p, q, .int .i64 s.border] rfl rfl, zaa, zal r23 10 rfl, zaa]
   refine FCall.to (zqV m S3.tx S3.ty OK) fun h4 e4 => ?_
   rw [if_neg hin']
   simp only [go_sem, decide_eq_false (show ¬ (0 : Int) < 0 by omega), beq_self_eq_true]
   exact hF h4 e4
 refine key _ fun h4 e4 => ?_
 have r14 := e4.row r13
 have r24 := e4.row r23
 have S4 := S3.ext e4
 have E4 := E3.trans e4
 refine zak (Ext h4) (Ext.refl _) ?_
 try simp only [go_sem, Nat.zero_add]
 refine zae (ptr bf) (fun h' e => zac (e.row r14)) ?_
 try simp only [go_sem, Nat.zero_add]
 refine zae (ptr bt) (fun h' e => zac (e.row r14)) ?_
 try simp only [go_sem, Nat.zero_add]
 refine zae (.agg #[p, q, .int .i64 s.border]) (fun h' e => zaM (e.row r14) 2 3 [p, q, .int .i64 s.border] rfl rfl) ?_
 have po : zam p = true := by obtain ⟨_, _, _, hp, _⟩ := S4.tx; rw [hp]; rfl
 have qo : zam q = true := by obtain ⟨_, _, _, hp, _⟩ := S4.ty; rw [hp]; rfl
 refine zag fun b5 h5 r5 e5 n5 => ⟨e5, ?_⟩
 refine zbt (l := [p, q, .int .i64 s.border]) r5 rfl (zad po (zad qo (zad rfl zaq))) rfl fun h6 r6 u6 => ?_
 have e46 : Ext h4 h6 := e5.upd n5 u6
 have r16 := e46.row r14
 have S6 := S4.ext e46
 refine zak (fun h' => h' = h6) rfl ?_
 try simp only [go_sem, Nat.zero_add]
 refine zae (ptr bf) (fun h' e => by rw [e]; exact zac r16) ?_
 try simp only [go_sem, Nat.zero_add]
 refine zae (ptr bf) (fun h' e => by rw [e]; exact zac r16) ?_
 refine FCall.at (zbb S6.src) ?_
 refine ⟨rfl, ?_⟩
 try simp only [go_sem]
 rw [w64 (n := 4 - m.c) (by omega) (by omega)]
 refine FCall.at (zcU S6.src) ?_
 have hab : ∀ A B : Int, 1 ≤ A → A ≤ 13 → 1 ≤ B → B ≤ 13 → ∀ C : Int, (C = 1 ∨ C = 3) → fitsZ A B C := fun A B a1 a2 b1 b2 C hC => by
  have hAB := Int.mul_le_mul a2 b2 (by omega) (by omega)
  have hAB0 : 0 ≤ A * B := Int.mul_nonneg (by omega) (by omega)
  refine ⟨a1, by omega, b1, by omega, hC, ?_⟩
  rcases hC with rfl | rfl <;> omega
 have i1 : imgC s.x.lines.length s.y.lines.length (4 - m.c) m.most = 0 := zfm.2 ⟨hab _ _ (by omega) (by omega) (by omega) (by omega) _ (by omega), hm1, hm2⟩
 have i2 : imgC (s.x.lines.length + 1) s.y.lines.length m.c m.most = 0 := zfm.2 ⟨hab _ _ (by omega) (by omega) (by omega) (by omega) _ hc13, hm1, hm2⟩
 refine zf0.mono fun r h7 ⟨pn, er, e7, _, s7⟩ => ?_
 subst er
 obtain ⟨bo, vo, rfl, IO, nbo, nvo, _⟩ := s7 i1
 rw [i1]
 have r17 := e7.row r16
 have S7 := S6.ext e7
 simp only [go_sem]
 refine zak (fun h' => h' = h7) rfl ?_
 try simp only [go_sem, Nat.zero_add]
 rw [w64 (n := (s.x.lines.length : Int) + 1) (by omega) (by omega)]
 refine zae (ptr bf) (fun h' e => by rw [e]; exact zac r17) ?_
 try simp only [go_sem, Nat.zero_add]
 refine zae (ptr bf) (fun h' e => by rw [e]; exact zac r17) ?_
 refine FCall.at (zbb S7.src) ?_
 refine ⟨rfl, ?_⟩
 refine FCall.at (zcU S7.src) ?_
 refine zf0.mono fun r h8 ⟨pn, er, e8, _, s8⟩ => ?_
 subst er
 obtain ⟨bb, vb, rfl, IB, nbb, nvb, _⟩ := s8 i2
 rw [i2]
 simp only [go_sem, eqT]
 have S8 := S7.ext e8
 have r68 := (e7.trans e8).row r6
 have r28 := ((e46.trans (e7.trans e8))).row r24
 have E8 := E4.trans (e46.trans (e7.trans e8))
 have hsz := S6.src.lt
 have hsz2 := S6.out.lt
 have hE7 := e7.1
 unfold B8 at hwh
 rw [zaJ _ _ _ _ (by omega), zaa, Int.tmod_eq_emod_of_nonneg hwh.1]
 have w0 := Int.emod_nonneg which (show (6 : Int) ≠ 0 by omega)
 have w1 := Int.emod_lt_of_pos which (show (0 : Int) < 6 by omega)
 generalize which % 6 = k at *
 have G8 := G.ext E8
 have nb5 : h.size ≤ b5 := Nat.le_trans E4.1 n5
 refine zat (fun xs g => ∃ fv tv sp sq sb, xs = [fv, tv] ∧ g[b5]? = some (.cells #[sp, sq, sb] 36 (0, 0)) ∧ g[b2]? = some (.cells (tileC t).toArray 43 (0, 0)) ∧ (∀ v ∈ [sp, sq, sb], zam v = true) ∧ Ext h g ∧
  ∀ g', Ext g g' → FCall prog zbT #[fv, tv, .agg #[sp, sq, sb]] g' fun r h'' => r = .bool false ∧ Ext g' h'') ?_ ?_
 ·have on3 : ∀ v ∈ [p, q, Value.int .i64 s.border], zam v = true := zad po (zad qo (zad rfl zaq))
  have nz5 : ∀ c, Z c → ¬ c = b5 := fun c hc he => by have := S4.zl c hc; omega
  have nbt5 : ¬ bt = b5 := fun he => by have := S4.out.lt; omega
  have nbf5 : ¬ bf = b5 := fun he => by have := S4.src.lt; omega
  have nvt5 : ∀ c, blk vt c → ¬ c = b5 := fun c hc he => by have := S4.out.ltv hc; omega
  have nvf5 : ∀ c, blk vf c → ¬ c = b5 := fun c hc he => by have := S4.src.ltv hc; omega
  have nb25 : ¬ b2 = b5 := fun he => by have := zaB r24; omega
  simp only [go_sem]
  refine zab (fun g0 => ?_) (fun g0 => ?_)
  ·exact ⟨_, _, _, _, _, rfl, r68, r28, on3, E8, fun g' e' => zmo (.inl rfl)⟩
  refine zab (fun g1 => ?_) (fun g1 => ?_)
  ·exact ⟨_, _, _, _, _, rfl, r68, r28, on3, E8, fun g' e' => zmo (.inr ⟨⟨_, rfl⟩, rfl⟩)⟩
  refine zab (fun g2 => ?_) (fun g2 => ?_)
  ·refine zbl r68 (by simp) rfl fun h9 r9 u9 => ?_
   have r9 : h9[b5]? = some (.cells #[.pointer none, q, .int .i64 s.border] 36 (0, 0)) := r9
   refine ⟨_, _, _, _, _, rfl, r9, u9.row nb25 r28, zad rfl (zad qo (zad rfl zaq)), E8.upd nb5 u9, fun g' e' => ?_⟩
   exact c_wsuits_bad ((S8.src.fr u9.fr nbf5 nvf5).ext e') ((S8.out.fr u9.fr nbt5 nvt5).ext e') S8.ne fun g'' e'' => (c_Suits_nilX).mono fun r h'' ⟨a1, a2⟩ => ⟨a1, e''.trans a2⟩
  refine zab (fun g3 => ?_) (fun g3 => ?_)
  ·refine ⟨_, _, _, _, _, rfl, r68, r28, on3, E8, fun g' e' => ?_⟩
   have IO8 := (IO.ext e8).ext e'
   have hns : ¬ zcX m (imgN s.x.lines.length s.y.lines.length (4 - m.c) m.most) s := fun hw => by
    have : 4 - m.c = m.c := hw.2.2.2.1
    omega
   have := zmU (G8.ext e') (S8.src.ext e') IO8 (by omega) (IsStg.ext (⟨p, q, rfl, S8.tx, S8.ty⟩ : IsStg Z h8 (.agg #[p, q, .int .i64 s.border]) s) e')
   rw [decide_eq_false hns] at this
   exact this
  refine zab (fun g4 => ?_) (fun g4 => ?_)
  ·refine ⟨_, _, _, _, _, rfl, r68, r28, on3, E8, fun g' e' => ?_⟩
   have IB8 := IB.ext e'
   have hns : ¬ zcX m (imgN (s.x.lines.length + 1) s.y.lines.length m.c m.most) s := fun hw => by
    have : (s.x.lines.length : Int) + 1 = s.x.lines.length := hw.2.1
    omega
   have := zmU (G8.ext e') (S8.src.ext e') IB8 (by omega) (IsStg.ext (⟨p, q, rfl, S8.tx, S8.ty⟩ : IsStg Z h8 (.agg #[p, q, .int .i64 s.border]) s) e')
   rw [decide_eq_false hns] at this
   exact this
  ·try simp only [go_sem, Nat.zero_add]
   refine zbl r68 (by simp) rfl fun h9 r9 u9 => ?_
   have r9 : h9[b5]? = some (.cells #[p, q, .int .i64 3] 36 (0, 0)) := r9
   have E9 : Ext h h9 := E8.upd nb5 u9
   refine ⟨_, _, _, _, _, rfl, r9, u9.row nb25 r28, zad po (zad qo (zad rfl zaq)), E9, fun g' e' => ?_⟩
   have hns : ¬ zcX m n { s with border := 3 } := fun hw => by
    have : (3 : Int) < 3 := hw.1.2.2.2
    omega
   have S9 := S8.chg u9.fr nz5 (S8.out.fr u9.fr nbt5 nvt5)
   have := zmU (G.ext (E9.trans e')) (S9.src.ext e') (S9.out.ext e') S9.ne (IsStg.ext (⟨p, q, rfl, S9.tx, S9.ty⟩ : IsStg Z h9 (.agg #[p, q, .int .i64 3]) { s with border := 3 }) e')
   rw [decide_eq_false hns] at this
   exact this
 ·rintro _ ρ g ⟨fv, tv, sp, sq, sb, rfl, r9, r29, on, E9, hs⟩
  rw [zal (l := [sp, sq, sb]) r9 3 rfl, zaa, zal r29 10 rfl, zaa]
  simp only [go_sem]
  refine FCall.to (c_wNew_bad (ts := tileC t) on rfl hs) fun g2 d2 => ?_
  simp only [go_sem, nil_en, eqT]
  exact ⟨by simp, E9.trans d2⟩
theorem pic_ext {n n' : Pic} (W : n.Wf) (W' : n'.Wf) (D : zce n n') (H : ∀ x y c, inP n x y c → atP n x y c = atP n' x y c) : n.l = n'.l := by
 have hf := zbn W.fits
 have l1 := W.len
 have l2 := W'.len
 rw [D.w, D.h, D.c] at l2
 refine zh2 (by omega) fun i h1 h2 => ?_
 have hC : 0 < n.c := by omega
 have hW : 0 < n.w := by omega
 have e1 := Int.mul_ediv_add_emod (i : Int) n.c
 have e2 := Int.mul_ediv_add_emod ((i : Int) / n.c) n.w
 have m1 := Int.emod_nonneg (i : Int) (show n.c ≠ 0 by omega)
 have m2 := Int.emod_lt_of_pos (i : Int) hC
 have m3 := Int.emod_nonneg ((i : Int) / n.c) (show n.w ≠ 0 by omega)
 have m4 := Int.emod_lt_of_pos ((i : Int) / n.c) hW
 have q0 : 0 ≤ (i : Int) / n.c := Int.ediv_nonneg (by omega) (by omega)
 have q1 : 0 ≤ (i : Int) / n.c / n.w := Int.ediv_nonneg q0 (by omega)
 have q2 : (i : Int) / n.c < n.w * n.h := by
  rw [Int.ediv_lt_iff_lt_mul hC]; omega
 have q3 : (i : Int) / n.c / n.w < n.h := by
  rw [Int.ediv_lt_iff_lt_mul hW, Int.mul_comm]; exact q2
 have hin : inP n ((i : Int) / n.c % n.w) ((i : Int) / n.c / n.w) ((i : Int) % n.c) := ⟨m3, m4, q1, q3, m1, m2⟩
 have hp : posP n ((i : Int) / n.c % n.w) ((i : Int) / n.c / n.w) ((i : Int) % n.c) = (i : Int) := by
  unfold posP
  rw [Int.mul_comm ((i : Int) / n.c / n.w), e2, Int.mul_comm ((i : Int) / n.c), e1]
 have hp' : posP n' ((i : Int) / n.c % n.w) ((i : Int) / n.c / n.w) ((i : Int) % n.c) = (i : Int) := by
  unfold posP at hp ⊢
  rw [D.w, D.c]; exact hp
 have := H _ _ _ hin
 unfold atP at this
 rw [if_pos hin, if_pos (D.inP.2 hin), hp, hp', Int.toNat_natCast] at this
 simpa [List.getD_eq_getElem?_getD, h1, h2] using this
def rowsT (t : TileD) (a n : Int) : TileD := { t with y := a, h := n }
theorem zqU {h : Heap} (G : GlobB h) {cs os : List Value} {a : PicA} {o : OpD} (A : zoi h cs os a o) {x y w hh cut : Int} (hx : B8 x) (hy : B8 y) (hw : B8 w) (hhh : B8 hh) (hcut : B8 cut) {turn : Bool} :
  FCall prog zc8 #[.agg cs.toArray, .agg os.toArray, .int .u8 x, .int .u8 y, .int .u8 w, .int .u8 hh, .int .u8 cut, .bool turn] h fun r h' => r = .bool true ∧ Ext h h' := by
 apply ziQ
 unfold zeF
 refine open17 G A hx hy hw hhh (fun h' e => ⟨rfl, e⟩) fun h1 b Z bf vf bt vt p q X Y U => ?_
 have hdm := U.ok.dims hx hy hw hhh
 have hcc := U.ok.newc hx hy hw hhh
 have hsx := U.ok.sx
 have hsy := U.ok.sy
 have hsu := U.ok.suits
 generalize ht : bgT (bgS a o) x y w hh = t at *
 have OK := U.ok.stg
 have nwf := U.ok.nwf
 have mwf := zeL a
 generalize hS : bgS a o = s at *
 generalize hM : drawA a = m at *
 generalize hN : bgN a o = n at *
 have r1 := U.row
 rw [hS] at r1
 have S1 := U.set
 rw [hS, hM, hN] at S1
 have hE1 := U.ext.1
 have c1 : zah h1 ⟨b, 1, none⟩ = some (ptr bt) := zac r1
 simp only [go_sem, Nat.zero_add, c1]
 -- whole
 refine (c_Copy S1.out nwf).mono fun wv h2 NW => ?_
 obtain ⟨bw, vw, rfl, IW, nbw, nvw, e2⟩ := NW
 have r2 := e2.row r1
 have c0 : zah h2 ⟨b, 0, none⟩ = some (ptr bf) := zac r2
 simp only [go_sem, Nat.zero_add, c0]
 rw [zaM r2 2 3 [p, q, .int .i64 s.border] rfl rfl, zaa, zaM r2 10 10 (tileC t) rfl rfl, zaa]
 have S2 := S1.ext e2
 have E2 := U.ext.trans e2
 have SW : Setup Z h2 bf vf bw vw p q m n s := ⟨S2.src, IW, by have := S1.src.lt; omega, S2.tx, S2.ty, S2.zf, fun c hc hv => by have := S1.zl c hc; have := nvw c hv; omega, fun c hc he => by have := S1.zl c hc; omega, S2.zl⟩
 refine (zjC (G.ext E2) SW mwf nwf OK.wf).mono fun r h3 HW => ?_
 obtain ⟨bj, rv, er, e3, J⟩ := HW.go hcc
 subst er
 have R := OK.room (m := m) (n := n) (t := t) mwf hcc
 have WJ := zmk (t := t) mwf OK.wf hcc
 simp only [go_sem, eqT, zo6]
 have r3 := e3.row r2
 have E3 := E2.trans e3
 obtain ⟨B3, hB3⟩ : ∃ B3, B3 = Grow (fun _ => False) h2 h3 := ⟨_, rfl⟩
 rw [← hB3] at J
 have nz3 : ∀ c, B3 c → h2.size ≤ c ∧ c < h3.size := fun c hc => by rw [hB3] at hc; exact hc.elim (fun h => h.elim) id
 refine (zqR (JobGo.start (Q := noQ) J) WJ R).mono fun r h4 ⟨er, y4, e4', nW, _, J4, W4⟩ => ?_
 have hWW := W4 n (zgR nwf hcc) (Wrote.start _ _)
 obtain ⟨OW, IW4, M4⟩ := J4.out
 have f4 := J4.fr
 -- all that was ahead of the copy is as it was
 have far : ∀ c, c < h1.size → ¬ ((blk vw c ∨ B3 c) ∨ noQ c) := fun c hc hh => by
  have h7 := e2.1
  rcases hh.resolve_right id with hh | hh
  ·have := nvw c hh; omega
  ·have := nz3 c hh; omega
 have E14 : Ext h1 h4 := (e2.trans e3).then_fr f4 fun c hc => by
  have h7 := e2.1
  rcases hc.resolve_right id with hc | hc
  ·exact nvw c hc
  ·have := nz3 c hc; omega
 have S4 := S1.ext E14
 have r4 := E14.row r1
 have E4 := U.ext.trans E14
 clear er
 -- the two parts' places
 refine zat (fun xs g => ∃ ba bb, xs = [ptr ba, ptr bb] ∧ g[ba]? = some (.cells (tileC t).toArray 43 (0, 0)) ∧ g[bb]? = some (.cells (tileC t).toArray 43 (0, 0)) ∧ ba ≠ bb ∧ h4.size ≤ ba ∧ h4.size ≤ bb ∧ Ext h4 g) ?_ ?_
 ·refine zak (Ext h4) (Ext.refl _) ?_
  simp only [go_sem, Nat.zero_add]
  refine zae (.agg (tileC t).toArray) (fun g e => zaM (e.row r4) 10 10 (tileC t) rfl rfl) ?_
  try simp only [go_sem, Nat.zero_add]
  refine zae (.agg (tileC t).toArray) (fun g e => zaM (e.row r4) 10 10 (tileC t) rfl rfl) ?_
  refine ⟨?_, ?_⟩
  ·refine zag fun ba g1 q1 d1 m1 => ⟨d1, zag fun bb g2 q2 d2 m2 => ⟨d1.trans d2, ?_⟩⟩
   have hab : ba < bb := by have := zaB q1; omega
   refine zbt (l := tileC t) (d2.row q1) rfl (zbO _) rfl fun g3 q3 u3 => ?_
   have D3 : Ext h4 g3 := (d1.trans d2).upd m1 u3
   refine ⟨D3, ?_⟩
   have mb : h4.size ≤ bb := by have := d1.1; omega
   refine zbt (l := tileC t) (u3.row (by omega) q2) rfl (zbO _) rfl fun g4 q4 u4 => ?_
   have D4 : Ext h4 g4 := D3.upd mb u4
   exact ⟨D4, ba, bb, rfl, u4.row (by omega) q3, q4, by omega, m1, mb, D4⟩
  ·refine zag fun bb g1 q1 d1 m1 => ⟨d1, zag fun ba g2 q2 d2 m2 => ⟨d1.trans d2, ?_⟩⟩
   have hab : bb < ba := by have := zaB q1; omega
   have mb : h4.size ≤ ba := by have := d1.1; omega
   refine zbt (l := tileC t) q2 rfl (zbO _) rfl fun g3 q3 u3 => ?_
   have D3 : Ext h4 g3 := (d1.trans d2).upd mb u3
   refine ⟨D3, ?_⟩
   refine zbt (l := tileC t) (u3.row (by omega) (d2.row q1)) rfl (zbO _) rfl fun g4 q4 u4 => ?_
   have D4 : Ext h4 g4 := D3.upd m1 u4
   exact ⟨D4, ba, bb, rfl, u4.row (by omega) q3, q4, by omega, mb, m1, D4⟩
 rintro _ ρ g ⟨ba, bb, rfl, qa, qb, hne, ma, mb, D⟩
 have rg := D.row r4
 have k14 : zah g ⟨b, 14, none⟩ = some (.int .i64 t.h) := zac rg
 unfold B8 at hcut
 simp only [go_sem, Nat.zero_add, k14]
 rw [w64 (n := cut) (by omega) (by omega), w64 (n := t.h + 1) (by omega) (by omega), zaJ _ _ _ _ (by omega), zaa, Int.tmod_eq_emod_of_nonneg hcut.1]
 have k0 := Int.emod_nonneg cut (show t.h + 1 ≠ 0 by omega)
 have k1 := Int.emod_lt_of_pos cut (show 0 < t.h + 1 by omega)
 generalize cut % (t.h + 1) = k at *
 have hbl : b < h4.size := zaB r4
 have hba : ¬ b = ba := by omega
 have hbb : ¬ b = bb := by omega
 refine zak (fun g' => Fr (fun c => c = ba ∨ c = bb) g g') (Fr.refl _ _) ?_
 simp only [go_sem, Nat.zero_add]
 refine zae (.int .i64 t.y) (fun g' e => zac (e.row rg (by omega))) ?_
 try simp only [go_sem, Nat.zero_add]
 rw [w64 (n := t.y + k) (by omega) (by omega)]
 refine zae (.int .i64 t.h) (fun g' e => zac (e.row rg (by omega))) ?_
 try simp only [go_sem, Nat.zero_add]
 rw [w64 (n := t.h - k) (by omega) (by omega)]
 refine zbl qa (by simp) rfl fun g1 q1 u1 => ?_
 have q1 : g1[ba]? = some (.cells (tileC (rowsT t t.y k)).toArray 43 (0, 0)) := q1
 have f1 : Fr (fun c => c = ba ∨ c = bb) g g1 := u1.fr.mono fun c _ hc => .inl hc
 refine ⟨f1, ?_⟩
 try simp only [go_sem, Nat.zero_add]
 refine zbl (u1.row (Ne.symm hne) qb) (by simp) rfl fun g2 q2 u2 => ?_
 have f2 : Fr (fun c => c = ba ∨ c = bb) g g2 := f1.trans (u2.fr.mono fun c _ hc => .inr hc)
 refine ⟨f2, ?_⟩
 try simp only [go_sem, Nat.zero_add]
 refine zbl q2 (by simp) rfl fun g3 q3 u3 => ?_
 have q3 : g3[bb]? = some (.cells (tileC (rowsT t (t.y + k) (t.h - k))).toArray 43 (0, 0)) := q3
 have q13 : g3[ba]? = some (.cells (tileC (rowsT t t.y k)).toArray 43 (0, 0)) := u3.row hne (u2.row hne q1)
 have f3 : Fr (fun c => c = ba ∨ c = bb) g g3 := f2.trans (u3.fr.mono fun c _ hc => .inr hc)
 have D3 : Ext h4 g3 := D.then_fr f3 fun c hc => by omega
 rw [zal q13 10 rfl, zaa, zal q3 10 rfl, zaa]
 have hfr : ∀ t1 t2 : TileD, fillL #[(.int .i64 0), (.int .i64 0), (.int .i64 0), (.int .i64 0), (.int .i64 0), (.int .i64 0), (.int .i64 0), (.int .i64 0), (.int .i64 0), (.int .i64 0), (.int .i64 0), (.int .i64 0), (.int .i64 0), (.int .i64 0), (.int .i64 0), (.int .i64 0), (.int .i64 0), (.int .i64 0), (.int .i64 0), (.int .i64 0)] [(0, 10, .agg (tileC t1).toArray), (10, 10, .agg (tileC t2).toArray)] = some (tileC t1 ++ tileC t2).toArray := fun t1 t2 => by
  refine (zba (n := 10) (l := tileC t1) rfl rfl (by simp)).trans ?_
  refine (zba (n := 10) (l := tileC t2) rfl rfl (by simp [zca])).trans ?_
  rw [zb7]
  simp [wrL, tileC]
 -- the two parts in a row
 refine zbZ (hfr _ _) fun bl g4 q4 d4 m4 => ?_
 have q14 := d4.row q13
 have q34 := d4.row q3
 refine zat (fun xs g' => ∃ bp T0 T1, xs = [.slice (some ⟨bp, 0, none⟩) 2 2] ∧ g'[bp]? = some (.cells (tileC T0 ++ tileC T1).toArray 43 (0, 0)) ∧ Ext h4 g' ∧ h4.size ≤ bp ∧
  ((T0 = rowsT t t.y k ∧ T1 = rowsT t (t.y + k) (t.h - k)) ∨ (T1 = rowsT t t.y k ∧ T0 = rowsT t (t.y + k) (t.h - k)))) ?_ ?_
 ·have ml : h4.size ≤ bl := Nat.le_trans D3.1 m4
  cases turn with
  | true =>
   simp only [go_sem]
   rw [zal q34 10 rfl, zaa, zal q14 10 rfl, zaa]
   refine zbZ (hfr _ _) fun bl2 g5 q5 d5 m5 => ?_
   exact ⟨bl2, _, _, rfl, q5, (D3.trans d4).trans d5, Nat.le_trans (D3.trans d4).1 m5, .inr ⟨rfl, rfl⟩⟩
  | false =>
   simp only [go_sem]
   exact ⟨bl, _, _, rfl, q4, D3.trans d4, ml, .inl ⟨rfl, rfl⟩⟩
 rintro _ ρ2 g5 ⟨bp, T0, T1, rfl, q5, D5, m5, hT⟩
 have hlp : zaf (.slice (some ⟨bp, 0, none⟩) 2 2) = some (.int .i64 ((2 : Nat) : Int)) := rfl
 simp only [go_sem, hlp]
 have hvt : ∀ c, blk vt c → c < h1.size := fun c hc => S1.out.ltv hc
 have hbp : ¬ blk vt bp := fun hv => by have := hvt bp hv; have := E14.1; omega
 have S5 := S4.ext D5
 have rg5 := D5.row r4
 have E5 := E4.trans D5
 have IW5 := IW4.ext D5
 -- which part comes when
 obtain ⟨Tn, hTn⟩ : ∃ Tn : Nat → TileD, Tn = fun i => if i = 0 then T0 else T1 := ⟨_, rfl⟩
 have hTi : ∀ i, (Tn i).x = t.x ∧ (Tn i).w = t.w ∧ t.y ≤ (Tn i).y ∧ 0 ≤ (Tn i).h ∧ (Tn i).y + (Tn i).h ≤ t.y + t.h := fun i => by
  rw [hTn]
  dsimp only
  rcases hT with ⟨e0, e1⟩ | ⟨e1, e0⟩ <;> rw [e0, e1] <;> split <;> (unfold rowsT; dsimp only; omega)
 refine zaz (α := Pic) 2 0 (fun i _ => [.int .i64 (i : Int)])
  (fun i n' g => Setup Z g bf vf bt vt p q m n' s ∧ n'.Wf ∧ zce n n' ∧ (∀ x' y' c', inP n x' y' c' → atP n' x' y' c' = if t.x ≤ x' ∧ x' < t.x + t.w ∧ ∃ j, j < i ∧ (Tn j).y ≤ y' ∧ y' < (Tn j).y + (Tn j).h then pixZ m s x' y' c' else atP n x' y' c') ∧
   g5.size ≤ g.size ∧ Fr (blk vt) g5 g) n rfl (Nat.zero_le _)
  ⟨S5, nwf, zce.refl n, fun x' y' c' _ => by rw [if_neg]; rintro ⟨_, _, j, hj, _⟩; omega, Nat.le_refl _, Fr.refl _ _⟩ fun i n1 g6 again ρ3 _ hi ⟨S6, W6, D6, A6, z6, f6⟩ Hag => ?_
 have q6 := f6.row q5 hbp
 have rg6 := f6.row rg5 U.ap.2.2
 have E6 : Ext h g6 := E5.then_fr f6 U.nt.2
 simp only [go_sem]
 refine zab (fun k3 => ?_) (fun k3 => ?_)
 ·have hi2 : i < 2 := by omega
  have hix : idxV 10 (.slice (some ⟨bp, 0, none⟩) 2 2) (.int .i64 (i : Int)) = some (.pointer (some ⟨bp, 0 + i * 10, none⟩)) := zkX hi2
  have hld : ldsV 10 g6 (.pointer (some ⟨bp, 0 + i * 10, none⟩)) = some (.agg (tileC (Tn i)).toArray) := by
   refine zaM q6 (0 + i * 10) 10 (tileC (Tn i)) ?_ rfl
   rw [hTn]
   have : i = 0 ∨ i = 1 := by omega
   rcases this with rfl | rfl <;> rfl
  rw [hix, zaa, hld, zaa]
  refine zaR (cs := tileC (Tn i)) rfl (zbO _) rfl fun b7 g7 q7 d7 m7 => ?_
  have c4 : zah g7 ⟨b7, 4, none⟩ = some (.int .i64 (Tn i).h) := zac q7
  have S7 := S6.ext d7
  have hd := hTi i
  have hplus : ∀ n2 : Pic, zce n n2 → (∀ x' y' c', inP n x' y' c' → atP n2 x' y' c' = if t.x ≤ x' ∧ x' < t.x + t.w ∧ (Tn i).y ≤ y' ∧ y' < (Tn i).y + (Tn i).h then pixZ m s x' y' c' else atP n1 x' y' c') →
    ∀ x' y' c', inP n x' y' c' → atP n2 x' y' c' = if t.x ≤ x' ∧ x' < t.x + t.w ∧ ∃ j, j < i + 1 ∧ (Tn j).y ≤ y' ∧ y' < (Tn j).y + (Tn j).h then pixZ m s x' y' c' else atP n x' y' c' := fun n2 _ H x' y' c' hin => by
   rw [H x' y' c' hin, A6 x' y' c' hin]
   by_cases g1 : t.x ≤ x' ∧ x' < t.x + t.w ∧ (Tn i).y ≤ y' ∧ y' < (Tn i).y + (Tn i).h
   ·rw [if_pos g1, if_pos ⟨g1.1, g1.2.1, i, by omega, g1.2.2⟩]
   ·rw [if_neg g1]
    by_cases g2 : t.x ≤ x' ∧ x' < t.x + t.w ∧ ∃ j, j < i ∧ (Tn j).y ≤ y' ∧ y' < (Tn j).y + (Tn j).h
    ·rw [if_pos g2]
     obtain ⟨a1, a2, j, hj, a3⟩ := g2
     rw [if_pos ⟨a1, a2, j, by omega, a3⟩]
    ·rw [if_neg g2, if_neg]
     rintro ⟨a1, a2, j, hj, a3⟩
     by_cases hji : j = i
     ·subst hji; exact g1 ⟨a1, a2, a3⟩
     ·exact g2 ⟨a1, a2, j, by omega, a3⟩
  simp only [go_sem, Nat.zero_add, c4]
  refine zab (fun g0 => ?_) (fun g0 => ?_)
  ·rw [w64 (by omega) (by omega)]
   refine Hag n1 g7 hi2 ⟨S7, W6, D6, hplus n1 D6 fun x' y' c' hin => ?_, Nat.le_trans z6 d7.1, f6.trans d7.fr⟩
   rw [if_neg (by omega)]
  ·have c0 : zah g7 ⟨b, 0, none⟩ = some (ptr bf) := zac (d7.row rg6)
   have c1 : zah g7 ⟨b, 1, none⟩ = some (ptr bt) := zac (d7.row rg6)
   simp only [go_sem, Nat.zero_add, c0, c1]
   rw [zaM (d7.row rg6) 2 3 [p, q, .int .i64 s.border] rfl rfl, zaa, zal q7 10 rfl, zaa]
   have hwi : wnewC m n1 s (Tn i) = 0 := D6.newC (zda.2 ⟨hsu, by unfold zaY; omega⟩)
   refine (zjC (G.ext (E6.trans d7)) S7 mwf W6 OK.wf).mono fun r g8 HW8 => ?_
   obtain ⟨bj8, rv8, er, d8, J8⟩ := HW8.go hwi
   subst er
   have R8 := OK.room (m := m) (n := n1) (t := Tn i) mwf hwi
   have WJ8 := zmk (t := Tn i) mwf OK.wf hwi
   simp only [go_sem, eqT, zo6]
   refine (zqR (JobGo.start (Q := noQ) J8) WJ8 R8).mono fun r g9 ⟨er, y9, e9, n9, _, J9, W9⟩ => ?_
   have hW9 := W9 n1 (zgR W6 hwi) (Wrote.start _ _)
   obtain ⟨O9, I9, _⟩ := J9.out
   have f9 := J9.fr
   have nz8 : ∀ c, Grow (fun _ => False) g7 g8 c → g7.size ≤ c := fun c hc => hc.elim (fun h => h.elim) fun h => h.1
   have f79 : Fr (blk vt) g7 g9 := (d8.fr (M := blk vt)).after f9 fun c hc hm => (hm.resolve_right id).elim id fun hh => by have := nz8 c hh; omega
   have S9 := S7.chg f79 S7.zz I9
   have D9 : zce n n9 := ⟨by rw [O9.w, ← (zgR W6 hwi).w]; exact D6.w, by rw [O9.h, ← (zgR W6 hwi).h]; exact D6.h, by rw [O9.c, ← (zgR W6 hwi).c]; exact D6.c, by rw [O9.m, ← (zgR W6 hwi).m]; exact D6.m⟩
   rw [w64 (by omega) (by omega)]
   refine Hag n9 g9 hi2 ⟨S9, O9.wf, D9, hplus n9 D9 fun x' y' c' hin => ?_, Nat.le_trans z6 (Nat.le_trans d7.1 f79.1), (f6.trans d7.fr).trans f79⟩
   have := hW9 x' y' c' (D6.inP.2 hin)
   rw [this]
   show (if (Tn i).x ≤ x' ∧ x' < (Tn i).x + (Tn i).w ∧ (Tn i).y ≤ y' ∧ y' < (Tn i).y + (Tn i).h then _ else _) = _
   rw [hd.1, hd.2.1]
 ·have hi2 : i = 2 := by omega
  subst hi2
  have c1 : zah g6 ⟨b, 1, none⟩ = some (ptr bt) := zac rg6
  simp only [go_sem, Nat.zero_add, c1]
  have hvw : ∀ c, blk vw c → ¬ blk vt c := fun c hc hv => by have := nvw c hc; have := hvt c hv; omega
  have IW6 : IsImg g6 bw vw nW := IW5.fr f6 (fun hv => by have := hvt bw hv; omega) hvw
  have DW : zce n nW := by
   have O0 := zgR (m := m) (s := s) (t := t) nwf hcc
   exact ⟨by rw [OW.w]; exact O0.w.symm, by rw [OW.h]; exact O0.h.symm, by rw [OW.c]; exact O0.c.symm, by rw [OW.m]; exact O0.m.symm⟩
  have DD : zce n1 nW := ⟨by rw [DW.w, D6.w], by rw [DW.h, D6.h], by rw [DW.c, D6.c], by rw [DW.m, D6.m]⟩
  have hll : n1.l = nW.l := pic_ext W6 OW.wf DD fun x' y' c' hin => by
   have hin0 := D6.inP.1 hin
   have hw7 : atP nW x' y' c' = if t.x ≤ x' ∧ x' < t.x + t.w ∧ t.y ≤ y' ∧ y' < t.y + t.h then pixZ m s x' y' c' else atP n x' y' c' := hWW x' y' c' hin0
   rw [A6 x' y' c' hin0, hw7]
   have hiff : (∃ j, j < 2 ∧ (Tn j).y ≤ y' ∧ y' < (Tn j).y + (Tn j).h) ↔ t.y ≤ y' ∧ y' < t.y + t.h := by
    constructor
    ·rintro ⟨j, hj, a1, a2⟩
     have := hTi j
     omega
    ·intro hyy
     rw [hTn]
     by_cases hk7 : y' < t.y + k
     ·rcases hT with ⟨e0, e1⟩ | ⟨e1, e0⟩
      ·exact ⟨0, by omega, by dsimp only; rw [if_pos rfl, e0]; unfold rowsT; dsimp only; omega⟩
      ·exact ⟨1, by omega, by dsimp only; rw [if_neg (by omega), e1]; unfold rowsT; dsimp only; omega⟩
     ·rcases hT with ⟨e0, e1⟩ | ⟨e1, e0⟩
      ·exact ⟨1, by omega, by dsimp only; rw [if_neg (by omega), e1]; unfold rowsT; dsimp only; omega⟩
      ·exact ⟨0, by omega, by dsimp only; rw [if_pos rfl, e0]; unfold rowsT; dsimp only; omega⟩
   by_cases g1 : t.x ≤ x' ∧ x' < t.x + t.w ∧ t.y ≤ y' ∧ y' < t.y + t.h
   ·rw [if_pos g1, if_pos ⟨g1.1, g1.2.1, hiff.2 g1.2.2⟩]
   ·rw [if_neg g1, if_neg fun hh => g1 ⟨hh.1, hh.2.1, hiff.1 hh.2.2⟩]
  refine (c_imgSame S6.out W6 IW6 DD.w.symm DD.h.symm DD.c.symm DD.m.symm).mono fun r g7 ⟨er, wq⟩ => ?_
  rw [er, wq, decide_eq_true hll]
  exact ⟨rfl, E6⟩
end Go.Proofs.YtojmncnelbnceaaGreatDoor
namespace Go.Proofs.YtojmncnelbnceaaGreatDoor
open Go Go.Crisp
open _root_.Go.Proofs.Tryz
theorem zh9 {h : Heap} {ts : List TS} {args : Array Value} (R : zdB (.st tPic :: .st tOp :: ts) h args.toList) : ∃ cs os a o r, args.toList = .agg (List.toArray cs) :: .agg (List.toArray os) :: r ∧ zoi h cs os a o ∧ zdB ts h r := by
 obtain ⟨v, r, hr, ⟨x, c, rfl, hx⟩, u, r', hr', ⟨y, d, rfl, hy⟩, h0⟩ := R
 have hx : Rd tPic h c.toList x := hx
 have hy : Rd tOp h d.toList y := hy
 obtain ⟨h1, h2⟩ := pic_rd hx
 refine ⟨c.toList, d.toList, picOf x, opOf y, r', by rw [hr, hr', Array.toArray_toList, Array.toArray_toList], ⟨⟨_, h1⟩, h2, ⟨_, (op_rd hy).1⟩, ops1_wf hy⟩, h0⟩
theorem u8_rd {h : Heap} {ts : List TS} {l : List Value} (R : zdB (.int .u8 :: ts) h l) : ∃ n r, l = .int .u8 n :: r ∧ B8 n ∧ zdB ts h r := by
 obtain ⟨v, r, hr, ⟨x, hx1, hx2⟩, h0⟩ := R
 obtain rfl : v = .int .u8 x := by simpa using hx1
 exact ⟨x, r, hr, u8_wf hx2, h0⟩
theorem i64_rd {h : Heap} {ts : List TS} {l : List Value} (R : zdB (.int .i64 :: ts) h l) : ∃ n r, l = .int .i64 n :: r ∧ I64 n ∧ zdB ts h r := by
 obtain ⟨v, r, hr, ⟨x, hx1, hx2⟩, h0⟩ := R
 obtain rfl : v = .int .i64 x := by simpa using hx1
 exact ⟨x, r, hr, zkY hx2, h0⟩
theorem u16_rd {h : Heap} {ts : List TS} {l : List Value} (R : zdB (.int .u16 :: ts) h l) : ∃ n r, l = .int .u16 n :: r ∧ U16 n ∧ zdB ts h r := by
 obtain ⟨v, r, hr, ⟨x, hx1, hx2⟩, h0⟩ := R
 obtain rfl : v = .int .u16 x := by simpa using hx1
 exact ⟨x, r, hr, zoQ hx2, h0⟩
theorem bool_rd {h : Heap} {ts : List TS} {l : List Value} (R : zdB (.bool :: ts) h l) : ∃ b r, l = .bool b :: r ∧ zdB ts h r := by
 obtain ⟨v, r, hr, ⟨x, hx1⟩, h0⟩ := R
 have hx1 : [v] = [Value.bool x] := hx1
 obtain rfl : v = .bool x := by simpa using hx1
 exact ⟨x, r, hr, h0⟩
theorem r_WindowSteps {L : List (String × DataW Unit)} (l : zoe L) (h : Heap) (args : Array Value) (H : zhv prog L h) (R : zdB [.st tPic, .st tOp, .int .u8, .int .u8, .int .u8, .int .u8] h args.toList) :
  FCall prog zc7 args h fun r h' => r = .bool true ∧ Ext h h' := by
 obtain ⟨cs, os, a, o, r0, e0, A, R⟩ := zh9 R
 obtain ⟨x, r1, e1, hx, R⟩ := u8_rd R
 obtain ⟨y, r2, e2, hy, R⟩ := u8_rd R
 obtain ⟨w, r3, e3, hw, R⟩ := u8_rd R
 obtain ⟨hh, r4, e4, hhh, R⟩ := u8_rd R
 obtain rfl : r4 = [] := R
 subst e4 e3 e2 e1
 obtain rfl : args = #[.agg cs.toArray, .agg os.toArray, .int .u8 x, .int .u8 y, .int .u8 w, .int .u8 hh] := by cases args; simp_all
 exact zqT (l.glob H) A hx hy hw hhh
theorem r_WindowOnce {L : List (String × DataW Unit)} (l : zoe L) (h : Heap) (args : Array Value) (H : zhv prog L h) (R : zdB [.st tPic, .st tOp, .int .u8, .int .u8, .int .u8, .int .u8] h args.toList) :
  FCall prog zdA args h fun r h' => r = .bool true ∧ Ext h h' := by
 obtain ⟨cs, os, a, o, r0, e0, A, R⟩ := zh9 R
 obtain ⟨x, r1, e1, hx, R⟩ := u8_rd R
 obtain ⟨y, r2, e2, hy, R⟩ := u8_rd R
 obtain ⟨w, r3, e3, hw, R⟩ := u8_rd R
 obtain ⟨hh, r4, e4, hhh, R⟩ := u8_rd R
 obtain rfl : r4 = [] := R
 subst e4 e3 e2 e1
 obtain rfl : args = #[.agg cs.toArray, .agg os.toArray, .int .u8 x, .int .u8 y, .int .u8 w, .int .u8 hh] := by cases args; simp_all
 exact c_WindowOnce (l.glob H) A hx hy hw hhh
theorem r_WindowWrites {L : List (String × DataW Unit)} (l : zoe L) (h : Heap) (args : Array Value) (H : zhv prog L h) (R : zdB [.st tPic, .st tOp, .int .u8, .int .u8, .int .u8, .int .u8, .int .u16] h args.toList) :
  FCall prog zcO args h fun r h' => r = .bool true ∧ Ext h h' := by
 obtain ⟨cs, os, a, o, r0, e0, A, R⟩ := zh9 R
 obtain ⟨x, r1, e1, hx, R⟩ := u8_rd R
 obtain ⟨y, r2, e2, hy, R⟩ := u8_rd R
 obtain ⟨w, r3, e3, hw, R⟩ := u8_rd R
 obtain ⟨hh, r4, e4, hhh, R⟩ := u8_rd R
 obtain ⟨mk, r5, e5, hmk, R⟩ := u16_rd R
 obtain rfl : r5 = [] := R
 subst e5 e4 e3 e2 e1
 obtain rfl : args = #[.agg cs.toArray, .agg os.toArray, .int .u8 x, .int .u8 y, .int .u8 w, .int .u8 hh, .int .u16 mk] := by cases args; simp_all
 exact zoP (l.glob H) A hx hy hw hhh hmk
theorem r_WindowNew {L : List (String × DataW Unit)} (l : zoe L) (h : Heap) (args : Array Value) (H : zhv prog L h) (R : zdB [.st tPic, .st tOp, .int .i64, .int .i64, .int .i64, .int .i64, .int .u8] h args.toList) :
  FCall prog zdV args h fun r h' => r = .bool true ∧ Ext h h' := by
 obtain ⟨cs, os, a, o, r0, e0, A, R⟩ := zh9 R
 obtain ⟨x, r1, e1, hx, R⟩ := i64_rd R
 obtain ⟨y, r2, e2, hy, R⟩ := i64_rd R
 obtain ⟨w, r3, e3, hw, R⟩ := i64_rd R
 obtain ⟨hh, r4, e4, hhh, R⟩ := i64_rd R
 obtain ⟨wh, r5, e5, hwh, R⟩ := u8_rd R
 obtain rfl : r5 = [] := R
 subst e5 e4 e3 e2 e1
 obtain rfl : args = #[.agg cs.toArray, .agg os.toArray, .int .i64 x, .int .i64 y, .int .i64 w, .int .i64 hh, .int .u8 wh] := by cases args; simp_all
 exact c_WindowNew (l.glob H) A hwh
theorem r_WindowParts {L : List (String × DataW Unit)} (l : zoe L) (h : Heap) (args : Array Value) (H : zhv prog L h) (R : zdB [.st tPic, .st tOp, .int .u8, .int .u8, .int .u8, .int .u8, .int .u8, .bool] h args.toList) :
  FCall prog zc8 args h fun r h' => r = .bool true ∧ Ext h h' := by
 obtain ⟨cs, os, a, o, r0, e0, A, R⟩ := zh9 R
 obtain ⟨x, r1, e1, hx, R⟩ := u8_rd R
 obtain ⟨y, r2, e2, hy, R⟩ := u8_rd R
 obtain ⟨w, r3, e3, hw, R⟩ := u8_rd R
 obtain ⟨hh, r4, e4, hhh, R⟩ := u8_rd R
 obtain ⟨ct, r5, e5, hct, R⟩ := u8_rd R
 obtain ⟨tn, r6, e6, R⟩ := bool_rd R
 obtain rfl : r6 = [] := R
 subst e6 e5 e4 e3 e2 e1
 obtain rfl : args = #[.agg cs.toArray, .agg os.toArray, .int .u8 x, .int .u8 y, .int .u8 w, .int .u8 hh, .int .u8 ct, .bool tn] := by cases args; simp_all
 exact zqU (l.glob H) A hx hy hw hhh hct
end Go.Proofs.YtojmncnelbnceaaGreatDoor
