/- Several texts of this session, one behind the other, without what this claim does not need (put together by its program pack.py). Conditions: none. -/
import Derived.Test.YtdbebmafgpdfhaaGreatDoorMk4
import Derived.Test.YtdbebmafgpdfhaaGreatDoorProg
import Derived.Shelf.Slices.Delete
set_option linter.unusedVariables false
set_option linter.unusedSimpArgs false
set_option maxRecDepth 100000
namespace Go.Crisp
open Go
theorem FCall.at {P : Program} {f : FuncId} {args : Array Value} {h : Heap} {v : Value} {K : Value → Heap → Prop} (H : FCall P f args h fun r h' => r = v ∧ h' = h) (k : K v h) : FCall P f args h K :=
 H.mono fun r h' ⟨e, w⟩ => by rw [e, w]; exact k
theorem FCall.to {P : Program} {f : FuncId} {args : Array Value} {h : Heap} {v : Value} {K : Value → Heap → Prop} (H : FCall P f args h fun r h' => r = v ∧ Ext h h') (k : ∀ h', Ext h h' → K v h') : FCall P f args h K :=
 H.mono fun r h' ⟨e, w⟩ => by rw [e]; exact k h' w
theorem Fr.after {M N : Nat → Prop} {a b c : Heap} (f : Fr M a b) (k : Fr N b c) (n : ∀ i, i < a.size → N i → M i) : Fr M a c :=
 ⟨Nat.le_trans f.1 k.1, fun i hi hm => (k.2 i (Nat.lt_of_lt_of_le hi f.1) fun x => hm (n i hi x)).trans (f.2 i hi hm)⟩
theorem Fr.ext_r {M : Nat → Prop} {a b c : Heap} (f : Fr M a b) (k : Ext b c) : Fr M a c := f.trans k.fr
theorem Fr.upd_new {M : Nat → Prop} {a b c : Heap} {x : Nat} (f : Fr M a b) (u : Upd x b c) (n : a.size ≤ x) : Fr M a c := f.after u.fr fun i hi e => by omega
theorem Rp.push_ow1S {α : Type} {e : Rp α} {Z P : Nat → Prop} {Q : Heap → Prop} {z z' c : Value} {t t' : TypeId} {bytes : Nat} {s : Value} {h : Heap} {l : List α} {x : α} {K : Value → Heap → Prop} (hw : e.w = 1)
  (hs : Rp.Ow e Z h s l) (hx : e.R Z h [c] x) (hz : z.cells.size = 1) (hb : (l.length + 1) * bytes ≤ 140737488355328) (hn : l.length + 1 ≤ 9223372036854775807) (hZ : ∀ b, Z b → b < h.size) (hQ : ∀ h', Ext h h' → Q h')
  (H : ∀ s' h', Rp.Ow e Z h' s' (l ++ [x]) → Fr (blk s) h h' → (∀ b, blk s' b → blk s b ∨ h.size ≤ b) → K s' h') : rowK #[z'] t 1 [(0, 1, c)] h fun v2 h3 => Q h3 ∧ appK z t' 1 bytes s v2 h3 K := by
 refine zb5 (fill_one (e.one hx c (by simp))) fun b h1 r1 e1 n1 => ⟨hQ h1 e1, ?_⟩
 have S1 := SlC.single (cs := [c]) r1
 rw [show [c].length = e.w by rw [hw]; rfl] at S1
 have ee : appK z t' 1 bytes s (.slice (some ⟨b, 0, none⟩) 1 1) h1 K = appK z t' e.w bytes s (.slice (some ⟨b, 0, none⟩) 1 1) h1 K := by rw [hw]
 rw [ee]
 refine Rp.app_ow (l2 := [x]) (hs.ext e1) S1 (fun i hi => ?_) (hz.trans hw.symm) (by simpa using hb) (by simpa using hn) (fun k hk => Nat.lt_of_lt_of_le (hZ k hk) e1.1) fun s' h' o' f' n' =>
  H s' h' o' (e1.fr.trans f') fun k hk => (n' k hk).imp id fun h2 => Nat.le_trans e1.1 h2
 have hi : i = 0 := by simpa using hi
 subst hi
 rw [Rp.el_self (e.len hx)]
 exact e.ext hx e1
theorem New.pushS {α : Type} {e : Rp α} {Q : Heap → Prop} {z z' c : Value} {t t' : TypeId} {bytes : Nat} {h h1 : Heap} {v : Value} {l : List α} {x : α} {K : Value → Heap → Prop} (hw : e.w = 1) (H : New e h h1 v l)
  (hx : e.R (fun _ => False) h1 [c] x) (hz : z.cells.size = 1) (hb : (l.length + 1) * bytes ≤ 140737488355328) (hn : l.length + 1 ≤ 9223372036854775807) (hQ : ∀ h', Ext h1 h' → Q h')
  (HK : ∀ s' h', New e h h' s' (l ++ [x]) → Fr (blk v) h1 h' → (∀ b, blk s' b → blk v b ∨ h1.size ≤ b) → K s' h') : rowK #[z'] t 1 [(0, 1, c)] h1 fun v2 h3 => Q h3 ∧ appK z t' 1 bytes v v2 h3 K := by
 refine Rp.push_ow1S (P := fun _ => False) hw H.1 hx hz hb hn (fun b hb => hb.elim) hQ fun s' h' o' f' n' => HK s' h' ⟨o', H.2.1.then_fr f' H.2.2, fun b hb => ?_⟩ f' n'
 rcases n' b hb with h1 | h1
 ·exact H.2.2 b h1
 ·exact Nat.le_trans H.2.1.1 h1
theorem New.fr {α : Type} {e : Rp α} {M : Nat → Prop} {h h1 h' : Heap} {v : Value} {l : List α} (H : New e h h1 v l) (f : Fr M h1 h') (hm : ∀ b, M b → h.size ≤ b) (q : ∀ b, blk v b → ¬ M b) : New e h h' v l :=
 ⟨H.1.fr f (fun b _ hb => hb.elim) q, H.2.1.then_fr f hm, H.2.2⟩
theorem eqT (a : Int) : (a = a) = True := eq_true rfl
theorem ptr_nn (a : Nat) : binV .p .neq (.pointer (some ⟨a, 0, none⟩)) (.pointer none) = some (.bool true) := rfl
theorem ptr_en (a : Nat) : binV .p .eql (.pointer (some ⟨a, 0, none⟩)) (.pointer none) = some (.bool false) := rfl
theorem nil_nn : binV .p .neq (.pointer none) (.pointer none) = some (.bool false) := rfl
theorem nil_en : binV .p .eql (.pointer none) (.pointer none) = some (.bool true) := rfl
end Go.Crisp
namespace Go.Proofs.YtdbebmafgpdfhaaGreatDoor
open Go Go.Crisp
attribute [local irreducible] FCall rowK newK stK iteK vK qK drawK gK joinK loopK mkK appK cpyK zni zla bsK clK zhc zfF newmK
open _root_.Go.Proofs.Tryz
section
def Grow (B : Nat → Prop) (h h' : Heap) : Nat → Prop := fun c => B c ∨ (h.size ≤ c ∧ c < h'.size)
structure JobSt (Z B : Nat → Prop) (h : Heap) (bj bf : Nat) (vf : Value) (bt : Nat) (vt p q rv : Value) (d : JobD) (y e : Int) (n : Pic) (room w : Nat) : Prop where
 at_ : ∃ M rs, JobAt Z M h bj bf vf bt vt p q rv d y n room w rs ∧ (∀ c, M c → B c) ∧ (y < d.t.y + d.t.h → Held (rowZ d) rs (lnF d.s.y y) e ∧ lnF d.s.y y ≤ e ∧ e ≤ lnE d.s.y y)
 bj0 : B bj
 bl : ∀ c, B c → c < h.size
 bz : ∀ c, B c → ¬ Z c ∧ c ≠ bt ∧ ¬ blk vt c
 out : OutOk d n
theorem JobSt.ext {Z B : Nat → Prop} {h h' : Heap} {bj bf : Nat} {vf : Value} {bt : Nat} {vt p q rv : Value} {d : JobD} {y e : Int} {n : Pic} {room w : Nat} (S : JobSt Z B h bj bf vf bt vt p q rv d y e n room w) (k : Ext h h') : JobSt Z B h' bj bf vf bt vt p q rv d y e n room w := by
 obtain ⟨⟨M, rs, J, a, b⟩, c, f, g, o⟩ := S
 exact ⟨⟨M, rs, J.ext k, a, b⟩, c, fun c hc => Nat.lt_of_lt_of_le (f c hc) k.1, g, o⟩
theorem JobAt.chg {Z M Q : Nat → Prop} {h h' : Heap} {bj bf : Nat} {vf : Value} {bt : Nat} {vt p q rv : Value} {d : JobD} {y : Int} {n n' : Pic} {room w : Nat} {rs : List (Int × List Int)} (J : JobAt Z M h bj bf vf bt vt p q rv d y n room w rs) (f : Fr Q h h')
  (qz : ∀ c, Z c → ¬ Q c) (qm : ∀ c, M c → ¬ Q c) (qj : ¬ Q bj) (I : IsImg h' bt vt n') : JobAt Z M h' bj bf vf bt vt p q rv d y n' room w rs :=
 ⟨f.row J.row qj, J.src.fr f (qz _ J.zf.1) fun c hc => qz _ (J.zf.2 c hc), J.tx.fr f fun c _ hz => qz c hz, J.ty.fr f fun c _ hz => qz c hz, J.ring.fr f fun c _ hm => qm c hm, I, J.zf, J.zz, J.mj, J.jt, J.y0, J.y1, fun c hc => Nat.lt_of_lt_of_le (J.zl c hc) f.1⟩
theorem JobSt.other {Z B Q : Nat → Prop} {h h' : Heap} {bj bf : Nat} {vf : Value} {bt : Nat} {vt p q rv : Value} {d : JobD} {y e : Int} {n n' : Pic} {room w : Nat} (S : JobSt Z B h bj bf vf bt vt p q rv d y e n room w) (f : Fr Q h h')
  (qz : ∀ c, Z c → ¬ Q c) (qb : ∀ c, B c → ¬ Q c) (I : IsImg h' bt vt n') (O : OutOk d n') : JobSt Z B h' bj bf vf bt vt p q rv d y e n' room w := by
 obtain ⟨⟨M, rs, J, a, b⟩, c, l, g, o⟩ := S
 exact ⟨⟨M, rs, J.chg f qz (fun k hk => qb k (a k hk)) (qb _ c) I, a, b⟩, c, fun c hc => Nat.lt_of_lt_of_le (l c hc) f.1, g, O⟩
theorem JobSt.img {Z B : Nat → Prop} {h : Heap} {bj bf : Nat} {vf : Value} {bt : Nat} {vt p q rv : Value} {d : JobD} {y e : Int} {n : Pic} {room w : Nat} (S : JobSt Z B h bj bf vf bt vt p q rv d y e n room w) : IsImg h bt vt n := by
 obtain ⟨⟨M, rs, J, a, b⟩, _⟩ := S
 exact J.out
theorem JobSt.src {Z B : Nat → Prop} {h : Heap} {bj bf : Nat} {vf : Value} {bt : Nat} {vt p q rv : Value} {d : JobD} {y e : Int} {n : Pic} {room w : Nat} (S : JobSt Z B h bj bf vf bt vt p q rv d y e n room w) : IsImg h bf vf d.m := by
 obtain ⟨⟨M, rs, J, a, b⟩, _⟩ := S
 exact J.src
theorem JobAt.frq {Z M Q : Nat → Prop} {h h' : Heap} {bj bf : Nat} {vf : Value} {bt : Nat} {vt p q rv : Value} {d : JobD} {y : Int} {n : Pic} {room w : Nat} {rs : List (Int × List Int)} (J : JobAt Z M h bj bf vf bt vt p q rv d y n room w rs) (f : Fr Q h h')
  (qz : ∀ c, Z c → ¬ Q c) (qm : ∀ c, M c → ¬ Q c) (qj : ¬ Q bj) (qt : ¬ Q bt) (qv : ∀ c, blk vt c → ¬ Q c) : JobAt Z M h' bj bf vf bt vt p q rv d y n room w rs :=
 ⟨f.row J.row qj, J.src.fr f (qz _ J.zf.1) fun c hc => qz _ (J.zf.2 c hc), J.tx.fr f fun c _ hz => qz c hz, J.ty.fr f fun c _ hz => qz c hz, J.ring.fr f fun c _ hm => qm c hm, J.out.fr f qt qv, J.zf, J.zz, J.mj, J.jt, J.y0, J.y1, fun c hc => Nat.lt_of_lt_of_le (J.zl c hc) f.1⟩
structure RoomOk (d : JobD) (room w : Nat) : Prop where
 mono : zmh d.s.y
 fit : mostL d.s.y.lines ≤ room
 one : 1 ≤ room
 wid : (w : Int) = d.t.w * d.m.c
 small : d.t.w ≤ 300
def stepK (d : JobD) (y e : Int) : Int := if d.t.y + d.t.h ≤ y then 0 else if e < lnE d.s.y y then 1 else 2
def stepJ (d : JobD) (y e : Int) : Int := if d.t.y + d.t.h ≤ y then 0 else if e < lnE d.s.y y then e else y
def stepY (d : JobD) (y e : Int) : Int := if stepK d y e = 2 then y + 1 else y
def stepE (d : JobD) (y e : Int) : Int := if stepK d y e = 1 then e + 1 else if stepK d y e = 2 then max e (lnF d.s.y (y + 1)) else e
section
variable {Z B : Nat → Prop} {h : Heap} {bj bf : Nat} {vf : Value} {bt : Nat} {vt p q rv : Value} {d : JobD} {y e : Int} {n : Pic} {room w : Nat}
theorem zp5 (S : JobSt Z B h bj bf vf bt vt p q rv d y e n room w) (W : d.Wf) : FCall prog zce #[ptr bj] h fun r h' => r = moveV (stepK d y e) (stepJ d y e) ∧ Ext h h' := by
 obtain ⟨⟨M, rs, J, a, b⟩, c, f, g, o⟩ := S
 refine (c_jobNext J W).mono fun r h' ⟨k, j, er, hn, E⟩ => ⟨?_, E⟩
 rw [er]
 unfold NextZ at hn
 unfold stepK stepJ
 by_cases ho : d.t.y + d.t.h ≤ y
 ·rw [if_pos ho] at hn
  rw [if_pos ho, if_pos ho, hn.1, hn.2]
 ·rw [if_neg ho] at hn
  rw [if_neg ho, if_neg ho]
  obtain ⟨H, h1, h2⟩ := b (by omega)
  rcases hn with ⟨rfl, hn⟩ | ⟨rfl, rfl, hn⟩
  ·rcases H.next h1 h2 hn with ⟨a1, _, a3⟩ | ⟨_, a2, _⟩
   ·rw [if_pos a1, if_pos a1, a3]
   ·cases a2
  ·rcases H.next h1 h2 hn with ⟨_, a2, _⟩ | ⟨a1, _, _⟩
   ·cases a2
   ·rw [if_neg (by omega), if_neg (by omega)]
theorem c_Step (S : JobSt Z B h bj bf vf bt vt p q rv d y e n room w) (W : d.Wf) (R : RoomOk d room w) : FCall prog zbB #[ptr bj] h fun r h' =>
  r = moveV (stepK d y e) (stepJ d y e) ∧ ∃ n', JobSt Z (Grow B h h') h' bj bf vf bt vt p q rv d (stepY d y e) (stepE d y e) n' room w ∧ Fr (fun c => blk vt c ∨ B c) h h' ∧
   (stepK d y e ≠ 2 → n' = n) ∧ (stepK d y e = 2 → ∀ x' y' c', inP n x' y' c' → atP n' x' y' c' = if wrote d y w x' y' c' then pixZ d.m d.s x' y' c' else atP n x' y' c') := by
 apply zle
 unfold zf1
 refine zai fun b1 h1 r1 e1 n1 => ?_
 have S1 := S.ext e1
 refine (zp5 S1 W).mono fun r h2 ⟨er, e2⟩ => ?_
 subst er
 refine za1 (cs := [.int .i64 (stepK d y e), .int .i64 (stepJ d y e)]) rfl (zad rfl (zad rfl zao)) rfl fun b3 h3 r3 e3 n3 => ?_
 have E3 := e1.trans (e2.trans e3)
 have S3 := S.ext E3
 have hl13 : b1 < b3 := by have := zay r1; have := e2.1; omega
 have l3 := zay r3
 have l1 : b1 < h3.size := by omega
 have r13 := (e2.trans e3).row r1
 have sz3 := E3.1
 -- the end of a step: the move is handed on
 have fin : ∀ {h4 : Heap} {n' : Pic}, Fr (fun c => (blk vt c ∨ B c) ∧ c ≠ b1 ∧ c ≠ b3) h3 h4 →
   ((stepK d y e ≠ 2 → n' = n) ∧ (stepK d y e = 2 → ∀ x' y' c', inP n x' y' c' → atP n' x' y' c' = if wrote d y w x' y' c' then pixZ d.m d.s x' y' c' else atP n x' y' c')) → (∀ h5, Upd b1 h4 h5 → JobSt Z (Grow B h h5) h5 bj bf vf bt vt p q rv d (stepY d y e) (stepE d y e) n' room w) →
   vK (ldsV 2 h4 (ptr b3)) fun v16 => stK 2 (ptr b1) v16 h4 fun _ h18 => vK (ldsV 2 h18 (ptr b1)) fun v19 => v19 = moveV (stepK d y e) (stepJ d y e) ∧ ∃ n', JobSt Z (Grow B h h18) h18 bj bf vf bt vt p q rv d (stepY d y e) (stepE d y e) n' room w ∧ Fr (fun c => blk vt c ∨ B c) h h18 ∧
    (stepK d y e ≠ 2 → n' = n) ∧ (stepK d y e = 2 → ∀ x' y' c', inP n x' y' c' → atP n' x' y' c' = if wrote d y w x' y' c' then pixZ d.m d.s x' y' c' else atP n x' y' c') := by
  intro h4 n' f4 hc4 hS5
  have r34 := f4.row r3 fun hm => hm.2.2 rfl
  have r14 := f4.row r13 fun hm => hm.2.1 rfl
  rw [zav (l := [.int .i64 (stepK d y e), .int .i64 (stepJ d y e)]) r34 2 rfl, zaa]
  refine zb9 (l := [.int .i64 (stepK d y e), .int .i64 (stepJ d y e)]) r14 rfl (zad rfl (zad rfl zao)) rfl fun h5 r5 u5 => ?_
  rw [zav r5 2 rfl, zaa]
  exact ⟨rfl, n', hS5 h5 u5, ((E3.fr (M := fun c => blk vt c ∨ B c)).after f4 fun c _ hc => hc.1).after u5.fr (fun c hc he => by omega), hc4.1, hc4.2⟩
 obtain ⟨⟨M, rs, J, hMb, hH⟩, hbj, hbl, hbz, hO⟩ := S
 have J3 := J.ext E3
 -- a block that is new lies apart from a job
 have ap : ∀ {b : Nat} {M' : Nat → Prop}, h.size ≤ b → b < h3.size → (∀ c, M' c → M c ∨ h3.size ≤ c) → (∀ c, Z c → ¬ c = b) ∧ (∀ c, M' c → ¬ c = b) ∧ ¬ bj = b ∧ ¬ bt = b ∧ ∀ c, blk vt c → ¬ c = b := by
  intro b M' hb hb' hM'
  refine ⟨fun c hc he => ?_, fun c hc he => ?_, fun he => ?_, fun he => ?_, fun c hc he => ?_⟩
  ·have := J.zl c hc; omega
  ·rcases hM' c hc with h4 | h4
   ·have := J.ring.lt h4; omega
   ·omega
  ·have := zay J.row; omega
  ·have := J.out.lt; omega
  ·have := J.out.ltv hc; omega
 have nb1 : h.size ≤ b1 := n1
 have nb3 : h.size ≤ b3 := by omega
 -- what is its own, at last
 have gz : ∀ {h5 : Heap}, ∀ c, Grow B h h5 c → ¬ Z c ∧ c ≠ bt ∧ ¬ blk vt c := fun c hc => by
  rcases hc with hc | hc
  ·exact hbz c hc
  ·refine ⟨fun hz => ?_, fun he => ?_, fun hv => ?_⟩
   ·have := J.zl c hz; omega
   ·have := J.out.lt; omega
   ·have := J.out.ltv hv; omega
 have gl : ∀ {h5 : Heap}, h.size ≤ h5.size → ∀ c, Grow B h h5 c → c < h5.size := fun hs c hc => by
  rcases hc with hc | hc
  ·exact Nat.lt_of_lt_of_le (hbl c hc) hs
  ·exact hc.2
 simp only [go_sem, Nat.zero_add]
 have c0 : zah h3 ⟨b3, 0, none⟩ = some (.int .i64 (stepK d y e)) := zac r3
 have c1 : zah h3 ⟨b3, 1, none⟩ = some (.int .i64 (stepJ d y e)) := zac r3
 simp only [go_sem, c0, c1]
 refine zab (fun hk => ?_) (fun hk => ?_)
 ·-- a row is filtered
  have hno : ¬ d.t.y + d.t.h ≤ y := fun h => by unfold stepK at hk; rw [if_pos h] at hk; cases hk
  have hlt : e < lnE d.s.y y := by
   unfold stepK at hk
   rw [if_neg hno] at hk
   rcases Int.lt_or_le e (lnE d.s.y y) with h | h
   ·exact h
   ·rw [if_neg (by omega)] at hk; cases hk
  have hj : stepJ d y e = e := by unfold stepJ; rw [if_neg hno, if_pos hlt]
  have hy : stepY d y e = y := by unfold stepY; rw [if_neg (by omega)]
  have he : stepE d y e = e + 1 := by unfold stepE; rw [if_pos hk]
  obtain ⟨H, a1, a2⟩ := hH (by omega)
  have hl := zfG W.s.y y
  rw [hy, he] at fin ⊢
  rw [hj] at fin ⊢
  refine (c_filter J3 W (j := e) (by unfold lnF at a1; unfold lnE at hlt; unfold I64; omega) R.small).mono fun r h4 ⟨M', J4, f4, m4⟩ => ?_
  have hrm := R.fit
  have hml := R.mono.m y
  have hrs := J3.ring.nums
  have hwl : (rowZ d e).length = w := by
   have h5 := R.wid
   have hf := zbs W.m.fits
   have hw1 := W.w1
   unfold rowZ
   rw [zk9]
   have : ((d.t.w.toNat * d.m.c.toNat : Nat) : Int) = d.t.w * d.m.c := by rw [Int.natCast_mul, Int.toNat_of_nonneg (by omega), Int.toNat_of_nonneg (by omega)]
   omega
  have HP := H.put (E := lnE d.s.y y) (room := room) (w := w) a1 hlt (by unfold lnF lnE; omega) R.one hrs.2.2.2.1 hwl
  have ap1 := ap nb1 l1 m4
  have sz4 := f4.1
  refine fin (f4.mono fun c hc hm => ⟨.inr (hMb c hm), fun h5 => by have := J.ring.lt hm; omega, fun h5 => by have := J.ring.lt hm; omega⟩) ⟨fun _ => rfl, fun h5 => by omega⟩ fun h5 u5 =>
   ⟨⟨M', _, J4.frq u5.fr ap1.1 ap1.2.1 ap1.2.2.1 ap1.2.2.2.1 ap1.2.2.2.2, fun c hc => ?_, fun _ => ⟨HP.1, by omega, by omega⟩⟩, .inl hbj, gl (by rw [u5.1]; omega), gz, hO⟩
  rcases m4 c hc with h6 | h6
  ·exact .inl (hMb c h6)
  ·have := J4.ring.lt hc
   exact .inr ⟨by omega, by rw [u5.1]; exact this⟩
 refine zab (fun hk2 => ?_) (fun hk2 => ?_)
 ·-- a row is written
  have hno : ¬ d.t.y + d.t.h ≤ y := fun h => by unfold stepK at hk2; rw [if_pos h] at hk2; cases hk2
  obtain ⟨H, a1, a2⟩ := hH (by omega)
  have heE : e = lnE d.s.y y := by
   unfold stepK at hk
   rw [if_neg hno] at hk
   rcases Int.lt_or_le e (lnE d.s.y y) with h | h
   ·rw [if_pos h] at hk; exact absurd rfl hk
   ·omega
  have hy : stepY d y e = y + 1 := by unfold stepY; rw [if_pos hk2]
  have he : stepE d y e = max e (lnF d.s.y (y + 1)) := by unfold stepE; rw [if_neg hk, if_pos hk2]
  rw [hy, he] at fin ⊢
  refine (c_write J3 W hO R.small (by omega) R.wid fun k hk' => H.inn _ (by unfold lnF; omega) (by rw [heE]; unfold lnE; omega)).mono fun r h4 ⟨n', J4, O4, A4, f4⟩ => ?_
  have ap1 := ap (M' := M) nb1 l1 fun c hc => .inl hc
  have hm := R.mono
  have hy0 := J.y0
  have hW0 := W.y0
  have hWh := W.yh
  have sz4 := f4.1
  refine fin (f4.mono fun c hc hm => ?_) ⟨fun h5 => absurd hk2 h5, fun _ => A4⟩ fun h5 u5 =>
   ⟨⟨M, _, J4.frq u5.fr ap1.1 ap1.2.1 ap1.2.2.1 ap1.2.2.2.1 ap1.2.2.2.2, fun c hc => .inl (hMb c hc), fun hlt => ?_⟩, .inl hbj, gl (by rw [u5.1]; omega), gz, O4⟩
  ·rcases hm with hm | hm
   ·have := J.out.ltv hm
    exact ⟨.inl hm, by omega, by omega⟩
   ·have := zay J.row
    exact ⟨.inr (hm ▸ hbj), by omega, by omega⟩
  ·have g1 := hm.f y (y + 1) (by omega) (by omega) (by omega)
   have g2 := hm.e y (y + 1) (by omega) (by omega) (by omega)
   refine ⟨H.move g1, by omega, ?_⟩
   have : lnF d.s.y (y + 1) ≤ lnE d.s.y (y + 1) := by unfold lnF lnE; omega
   omega
 ·-- it is over
  have hk0 : stepK d y e = 0 := by
   unfold stepK at *
   by_cases h4 : d.t.y + d.t.h ≤ y
   ·rw [if_pos h4]
   ·rw [if_neg h4] at *
    by_cases h5 : e < lnE d.s.y y
    ·rw [if_pos h5] at hk; exact absurd rfl hk
    ·rw [if_neg h5] at hk2; exact absurd rfl hk2
  have hy : stepY d y e = y := by unfold stepY; rw [if_neg hk2]
  have he : stepE d y e = e := by unfold stepE; rw [if_neg hk, if_neg hk2]
  rw [hy, he] at fin ⊢
  have ap1 := ap (M' := M) nb1 l1 fun c hc => .inl hc
  exact fin (Fr.refl _ _) ⟨fun _ => rfl, fun h5 => absurd h5 hk2⟩ fun h5 u5 => ⟨⟨M, rs, J3.frq u5.fr ap1.1 ap1.2.1 ap1.2.2.1 ap1.2.2.2.1 ap1.2.2.2.2, fun c hc => .inl (hMb c hc), hH⟩, .inl hbj, gl (by rw [u5.1]; omega), gz, hO⟩
end
end
theorem pe_ne {h : Heap} {a b : Nat} {c c' : Array Value} {t t' : TypeId} (ha : h[a]? = some (.cells c t (0, 0))) (hb : h[b]? = some (.cells c' t' (0, 0))) (hne : a ≠ b) : peV h .neq (ptr a) (ptr b) = some (.bool true) := by
 have h1 : ¬ (⟨a, 0, none⟩ : Addr) = ⟨b, 0, none⟩ := fun hh => hne (by injection hh)
 have h2 : zgf h a = true := by unfold zgf; rw [ha]; rfl
 have h3 : zgf h b = true := by unfold zgf; rw [hb]; rfl
 show (if (⟨a, 0, none⟩ : Addr) = ⟨b, 0, none⟩ then some (Value.bool false) else if zgf h a && zgf h b then some (.bool true) else none) = _
 rw [if_neg h1, h2, h3]; rfl
def zd4 (m n : Pic) (s : Stg) : Prop := zh6 m s ∧ n.w = s.x.lines.length ∧ n.h = s.y.lines.length ∧ n.c = m.c ∧ n.most = m.most
instance (m n : Pic) (s : Stg) : Decidable (zd4 m n s) := by unfold zd4; infer_instance
theorem c_wsuits {h : Heap} (G : GlobB h) {Z : Nat → Prop} {bf bt : Nat} {vf vt sv : Value} {m n : Pic} {s : Stg} (I : IsImg h bf vf m) (O : IsImg h bt vt n) (hne : bf ≠ bt) (HS : IsStg Z h sv s) :
  FCall prog zgA #[ptr bf, ptr bt, sv] h fun r h' => r = .bool (decide (zd4 m n s)) ∧ Ext h h' := by
 apply zn0
 unfold zh9
 obtain ⟨p, q, rfl, hp, hq, ones⟩ := zdB HS
 simp only [zaG]
 refine zai fun b1 h1 r1 e1 n1 => ?_
 refine zan (fun h' => h' = h1) rfl ?_
 simp only [go_sem, ptr_nn]
 refine zaf (.bool true) (fun h' e => by rw [e]; exact pe_ne (e1.row I.row) (e1.row O.row) hne) ?_
 try simp only [go_sem]
 refine zaf (.agg #[p, q, .int .i64 s.border]) (fun h' e => by rw [e]; exact zav (l := [p, q, .int .i64 s.border]) r1 3 rfl) ?_
 refine FCall.to (c_Suits (G.ext e1) (I.ext e1) (HS.ext e1)) fun h2 e2 => ?_
 have E2 := e1.trans e2
 have r2 := e2.row r1
 have c0 : zah h2 ⟨b1, 0, none⟩ = some p := zac r2
 have c1 : zah h2 ⟨b1, 1, none⟩ = some q := zac r2
 by_cases g1 : zh6 m s
 case neg =>
  rw [decide_eq_false g1, decide_eq_false fun hw : zd4 m n s => g1 hw.1]
  refine zan (fun h' => h' = h2) rfl ?_
  simp only [go_sem]
  refine zaf undef (fun _ _ => rfl) ?_
  try simp only [go_sem]
  refine ⟨trivial, ?_⟩
  try simp only [go_sem]
  refine zan (fun h' => h' = h2) rfl ?_
  simp only [go_sem]
  refine zaf undef (fun _ _ => rfl) ?_
  try simp only [go_sem]
  refine ⟨trivial, ?_⟩
  try simp only [go_sem]
  exact ⟨trivial, E2⟩
 rw [decide_eq_true g1]
 refine zan (fun h' => h' = h2) rfl ?_
 simp only [go_sem, Nat.zero_add]
 refine zaf p (fun h' e => by rw [e]; exact c0) ?_
 try simp only [go_sem]
 refine FCall.at (zkc (O.ext E2)) ?_
 refine ⟨rfl, ?_⟩
 try simp only [go_sem]
 refine FCall.at (c_To (hp.ext E2)) ?_
 refine zan (fun h' => h' = h2) rfl ?_
 by_cases g2 : n.w = s.x.lines.length
 case neg =>
  rw [decide_eq_false fun hw : zd4 m n s => g2 hw.2.1]
  simp only [go_sem, decide_eq_false g2]
  refine zaf undef (fun _ _ => rfl) ?_
  try simp only [go_sem]
  refine ⟨trivial, ?_⟩
  try simp only [go_sem]
  exact ⟨trivial, E2⟩
 simp only [go_sem, Nat.zero_add, g2, eqT]
 refine zaf q (fun h' e => by rw [e]; exact c1) ?_
 try simp only [go_sem]
 refine FCall.at (zhh (O.ext E2)) ?_
 refine ⟨rfl, ?_⟩
 try simp only [go_sem]
 refine FCall.at (c_To (hq.ext E2)) ?_
 by_cases g3 : n.h = s.y.lines.length
 case neg =>
  rw [decide_eq_false fun hw : zd4 m n s => g3 hw.2.2.1]
  simp only [go_sem, decide_eq_false g3]
  exact ⟨trivial, E2⟩
 simp only [go_sem, Nat.zero_add, g3, eqT]
 refine FCall.at (zbV (O.ext E2)) (FCall.at (zbV (I.ext E2)) ?_)
 by_cases g4 : n.c = m.c
 case neg =>
  rw [decide_eq_false fun hw : zd4 m n s => g4 hw.2.2.2.1]
  simp only [go_sem, decide_eq_false g4]
  exact ⟨trivial, E2⟩
 simp only [go_sem, Nat.zero_add, g4, eqT]
 refine FCall.at (zfJ (O.ext E2)) (FCall.at (zfJ (I.ext E2)) ?_)
 simp only [go_sem]
 refine ⟨?_, E2⟩
 congr 1
 rw [decide_eq_decide]
 exact ⟨fun g5 => ⟨g1, g2, g3, g4, g5⟩, fun hw => hw.2.2.2.2⟩
abbrev rectV (x y w hh : Int) : Value := .agg #[.int .i64 x, .int .i64 y, .int .i64 w, .int .i64 hh]
def zb8 (s : Stg) (x y w hh : Int) : Prop := 1 ≤ w ∧ 1 ≤ hh ∧ 0 ≤ x ∧ 0 ≤ y ∧ x < s.x.lines.length ∧ y < s.y.lines.length ∧ w ≤ s.x.lines.length - x ∧ hh ≤ s.y.lines.length - y
instance (s : Stg) (x y w hh : Int) : Decidable (zb8 s x y w hh) := by unfold zb8; infer_instance
theorem c_within {h : Heap} {Z : Nat → Prop} {sv : Value} {s : Stg} (HS : IsStg Z h sv s) (WS : s.Wf) {x y w hh : Int} :
  FCall prog zdM #[sv, rectV x y w hh] h fun r h' => r = .bool (decide (zb8 s x y w hh)) ∧ Ext h h' := by
 apply zm0
 unfold zhG
 obtain ⟨p, q, rfl, hp, hq, ones⟩ := zdB HS
 have lx := WS.x.len
 have ly := WS.y.len
 simp only [zaG]
 refine zai fun b1 h1 r1 e1 n1 => zai fun b2 h2 r2 e2 n2 => ?_
 have r1 := e2.row r1
 have E := e1.trans e2
 have np := (zps hp).1
 have nq := (zps hq).1
 refine zan (fun h' => h' = h2) rfl ?_
 simp only [go_sem, Nat.zero_add]
 refine zaf p (fun h' e => by rw [e]; exact zac r1) ?_
 simp only [go_sem, Nat.zero_add, np]
 refine zaf q (fun h' e => by rw [e]; exact zac r1) ?_
 simp only [go_sem, Nat.zero_add, nq]
 refine zaf (.int .i64 w) (fun h' e => by rw [e]; exact zac r2) ?_
 by_cases g1 : 1 ≤ w
 case neg =>
  rw [decide_eq_false fun hw : zb8 s x y w hh => g1 hw.1]
  simp only [go_sem, decide_eq_false g1]
  repeat (first | refine zaf undef (fun _ _ => rfl) ?_ | (refine ⟨trivial, ?_⟩) | simp only [go_sem])
  first | exact E | exact ⟨trivial, E⟩ | exact ⟨rfl, E⟩
 simp only [go_sem, Nat.zero_add, decide_eq_true g1]
 refine zaf (.int .i64 hh) (fun h' e => by rw [e]; exact zac r2) ?_
 by_cases g2 : 1 ≤ hh
 case neg =>
  rw [decide_eq_false fun hw : zb8 s x y w hh => g2 hw.2.1]
  simp only [go_sem, decide_eq_false g2]
  repeat (first | refine zaf undef (fun _ _ => rfl) ?_ | (refine ⟨trivial, ?_⟩) | simp only [go_sem])
  first | exact E | exact ⟨trivial, E⟩ | exact ⟨rfl, E⟩
 simp only [go_sem, Nat.zero_add, decide_eq_true g2]
 refine zaf (.int .i64 x) (fun h' e => by rw [e]; exact zac r2) ?_
 by_cases g3 : 0 ≤ x
 case neg =>
  rw [decide_eq_false fun hw : zb8 s x y w hh => g3 hw.2.2.1]
  simp only [go_sem, decide_eq_false g3]
  repeat (first | refine zaf undef (fun _ _ => rfl) ?_ | (refine ⟨trivial, ?_⟩) | simp only [go_sem])
  first | exact E | exact ⟨trivial, E⟩ | exact ⟨rfl, E⟩
 simp only [go_sem, Nat.zero_add, decide_eq_true g3]
 refine zaf (.int .i64 y) (fun h' e => by rw [e]; exact zac r2) ?_
 by_cases g4 : 0 ≤ y
 case neg =>
  rw [decide_eq_false fun hw : zb8 s x y w hh => g4 hw.2.2.2.1]
  simp only [go_sem, decide_eq_false g4]
  repeat (first | refine zaf undef (fun _ _ => rfl) ?_ | (refine ⟨trivial, ?_⟩) | simp only [go_sem])
  first | exact E | exact ⟨trivial, E⟩ | exact ⟨rfl, E⟩
 simp only [go_sem, Nat.zero_add, decide_eq_true g4]
 refine zaf (.int .i64 x) (fun h' e => by rw [e]; exact zac r2) ?_
 refine zaf p (fun h' e => by rw [e]; exact zac r1) ?_
 try simp only [go_sem]
 refine FCall.at (c_To (hp.ext E)) ?_
 refine ⟨rfl, ?_⟩
 by_cases g5 : x < (s.x.lines.length : Int)
 case neg =>
  rw [decide_eq_false fun hw : zb8 s x y w hh => g5 hw.2.2.2.2.1]
  simp only [go_sem, decide_eq_false g5]
  repeat (first | refine zaf undef (fun _ _ => rfl) ?_ | (refine ⟨trivial, ?_⟩) | simp only [go_sem])
  first | exact E | exact ⟨trivial, E⟩ | exact ⟨rfl, E⟩
 simp only [go_sem, Nat.zero_add, decide_eq_true g5]
 refine zaf (.int .i64 y) (fun h' e => by rw [e]; exact zac r2) ?_
 refine zaf q (fun h' e => by rw [e]; exact zac r1) ?_
 try simp only [go_sem]
 refine FCall.at (c_To (hq.ext E)) ?_
 refine ⟨rfl, ?_⟩
 by_cases g6 : y < (s.y.lines.length : Int)
 case neg =>
  rw [decide_eq_false fun hw : zb8 s x y w hh => g6 hw.2.2.2.2.2.1]
  simp only [go_sem, decide_eq_false g6]
  repeat (first | refine zaf undef (fun _ _ => rfl) ?_ | (refine ⟨trivial, ?_⟩) | simp only [go_sem])
  first | exact E | exact ⟨trivial, E⟩ | exact ⟨rfl, E⟩
 simp only [go_sem, Nat.zero_add, decide_eq_true g6]
 refine zaf (.int .i64 w) (fun h' e => by rw [e]; exact zac r2) ?_
 refine zaf p (fun h' e => by rw [e]; exact zac r1) ?_
 refine zaf (.int .i64 x) (fun h' e => by rw [e]; exact zac r2) ?_
 try simp only [go_sem]
 refine FCall.at (c_To (hp.ext E)) ?_
 refine ⟨rfl, ?_⟩
 simp only [go_sem, Nat.zero_add]
 rw [w64 (by omega) (by omega)]
 by_cases g7 : w ≤ (s.x.lines.length : Int) - x
 case neg =>
  rw [decide_eq_false fun hw : zb8 s x y w hh => g7 hw.2.2.2.2.2.2.1]
  simp only [go_sem, decide_eq_false g7]
  repeat (first | refine zaf undef (fun _ _ => rfl) ?_ | (refine ⟨trivial, ?_⟩) | simp only [go_sem])
  first | exact E | exact ⟨trivial, E⟩ | exact ⟨rfl, E⟩
 simp only [go_sem, Nat.zero_add, decide_eq_true g7]
 refine zaf (.int .i64 hh) (fun h' e => by rw [e]; exact zac r2) ?_
 refine zaf q (fun h' e => by rw [e]; exact zac r1) ?_
 refine zaf (.int .i64 y) (fun h' e => by rw [e]; exact zac r2) ?_
 try simp only [go_sem]
 refine FCall.at (c_To (hq.ext E)) ?_
 refine ⟨rfl, ?_⟩
 simp only [go_sem, Nat.zero_add]
 rw [w64 (by omega) (by omega)]
 refine ⟨?_, E⟩
 congr 1
 rw [decide_eq_decide]
 exact ⟨fun g8 => ⟨g1, g2, g3, g4, g5, g6, g7, g8⟩, fun hw => hw.2.2.2.2.2.2.2⟩
abbrev zeroJ : Array Value := #[(.pointer none), (.pointer none), (.pointer none), (.pointer none), (.int .i64 0), (.int .i64 0), (.int .i64 0), (.int .i64 0), (.int .i64 0), (.int .i64 0), (.int .i64 0), (.int .i64 0), (.int .i64 0), (.int .i64 0), (.int .i64 0), (.pointer none), (.int .i64 0)]
theorem fill_job {bf bt : Nat} {p q rv : Value} {d : JobD} {y : Int} (hr : zar rv = true) :
  fillL zeroJ [(0, 1, ptr bf), (1, 1, ptr bt), (2, 3, .agg #[p, q, .int .i64 d.s.border]), (5, 10, .agg (tileC d.t).toArray), (15, 1, rv), (16, 1, .int .i64 y)] = some (jobC bf bt p q rv d y).toArray := by
 refine (zdI (n := 1) (l := [ptr bf]) rfl rfl (by simp)).trans ?_
 refine (zdI (n := 1) (l := [ptr bt]) rfl rfl (by simp [zeh])).trans ?_
 refine (zdI (n := 3) (l := [p, q, .int .i64 d.s.border]) rfl rfl (by simp [zeh])).trans ?_
 refine (zdI (n := 10) (l := tileC d.t) rfl rfl (by simp [zeh])).trans ?_
 refine (zdI (n := 1) (l := [rv]) (zaW hr) rfl (by simp [zeh])).trans ?_
 refine (zdI (n := 1) (l := [.int .i64 y]) rfl rfl (by simp [zeh])).trans ?_
 rw [zda]
 simp [wrL, tileC, jobC]
theorem lds_part {h : Heap} {b : Nat} {l : List Value} {t : TypeId} {f : Nat × Nat} (r : h[b]? = some (.cells l.toArray t f)) (o n : Nat) (m : List Value) (hm : (l.drop o).take n = m) (hn : m.length = n) : ldsV n h (.pointer (some ⟨b, o, none⟩)) = some (.agg m.toArray) := by
 subst hm
 refine znn _ n hn fun j hj => ?_
 rw [zac r]
 rw [List.length_take, List.length_drop] at hj
 have h2 : o + j < l.length := by omega
 rw [List.getElem_take, List.getElem_drop]
 simp [h2]
def wnewC (m n : Pic) (s : Stg) (t : TileD) : Int := if ¬ zd4 m n s then 6 else if ¬ zb8 s t.x t.y t.w t.h then 9 else 0
theorem zfc {m n : Pic} {s : Stg} {t : TileD} : wnewC m n s t = 0 ↔ zd4 m n s ∧ zb8 s t.x t.y t.w t.h := by
 unfold wnewC
 by_cases h1 : zd4 m n s
 ·rw [if_neg (by simpa using h1)]
  by_cases h2 : zb8 s t.x t.y t.w t.h
  ·rw [if_neg (by simpa using h2)]; exact ⟨fun _ => ⟨h1, h2⟩, fun _ => rfl⟩
  ·rw [if_pos h2]; exact ⟨fun h => absurd h (by decide), fun h => absurd h.2 h2⟩
 ·rw [if_pos h1]; exact ⟨fun h => absurd h (by decide), fun h => absurd h.1 h1⟩
theorem job_wf {m n : Pic} {s : Stg} {t : TileD} (W : m.Wf) (WS : s.Wf) (hc : wnewC m n s t = 0) : JobD.Wf ⟨m, s, t⟩ := by
 obtain ⟨h1, h2⟩ := zfc.1 hc
 obtain ⟨a1, a2, a3, a4, a5, a6, a7, a8⟩ := h2
 exact ⟨W, WS, h1.1, a1, a2, a3, a4, by show t.x + t.w ≤ (s.x.lines.length : Int); omega, by show t.y + t.h ≤ (s.y.lines.length : Int); omega⟩
theorem job_out {m n : Pic} {s : Stg} {t : TileD} (W : n.Wf) (hc : wnewC m n s t = 0) : OutOk ⟨m, s, t⟩ n := by
 obtain ⟨h1, h2⟩ := zfc.1 hc
 exact ⟨W, h1.2.1, h1.2.2.1, h1.2.2.2.1, h1.2.2.2.2⟩
def WNew (Z : Nat → Prop) (h : Heap) (bf : Nat) (vf : Value) (bt : Nat) (vt p q : Value) (m n : Pic) (s : Stg) (t : TileD) (r : Value) (h' : Heap) : Prop :=
 Ext h h' ∧ ∃ v, r = .tuple #[v, .int .i64 (wnewC m n s t)] ∧ (wnewC m n s t ≠ 0 → v = .pointer none) ∧
  (wnewC m n s t = 0 → ∃ bj rv, v = ptr bj ∧ JobSt Z (Grow (fun _ => False) h h') h' bj bf vf bt vt p q rv ⟨m, s, t⟩ t.y (lnF s.y t.y) n (roomN (mostL s.y.lines)) (zcy (t.w * m.c)))
theorem c_wNew {h : Heap} (G : GlobB h) {Z : Nat → Prop} {bf bt : Nat} {vf vt p q : Value} {m n : Pic} {s : Stg} {t : TileD} (I : IsImg h bf vf m) (O : IsImg h bt vt n) (hne : bf ≠ bt) (W : m.Wf) (WO : n.Wf) (hp : IsTbl Z h p s.x) (hq : IsTbl Z h q s.y) (WS : s.Wf)
  (zf : Z bf ∧ ∀ c, blk vf c → Z c) (zz : ∀ c, Z c → ¬ blk vt c) (zl : ∀ c, Z c → c < h.size) :
  FCall prog zdu #[ptr bf, ptr bt, .agg #[p, q, .int .i64 s.border], .agg (tileC t).toArray] h (WNew Z h bf vf bt vt p q m n s t) := by
 apply zqz
 unfold zky
 simp only [zaG]
 have HS : IsStg Z h (.agg #[p, q, .int .i64 s.border]) s := ⟨p, q, rfl, hp, hq⟩
 refine zai fun b1 h1 r1 e1 n1 => zai fun b2 h2 r2 e2 n2 => ?_
 have E2 := e1.trans e2
 have r1 := e2.row r1
 rw [zav (l := [p, q, .int .i64 s.border]) r1 3 rfl, zaa]
 refine FCall.to (c_wsuits (G.ext E2) (I.ext E2) (O.ext E2) hne (HS.ext E2)) fun h3 e3 => ?_
 have E3 := E2.trans e3
 by_cases g1 : zd4 m n s
 case neg =>
  have hc : wnewC m n s t = 6 := by unfold wnewC; rw [if_pos g1]
  simp only [go_sem, decide_eq_false g1]
  exact ⟨E3, _, by rw [hc], fun _ => rfl, fun h0 => absurd (h0.symm.trans hc) (by decide)⟩
 simp only [go_sem, decide_eq_true g1]
 have r1 := e3.row r1
 have r2 := e3.row r2
 rw [zav (l := [p, q, .int .i64 s.border]) r1 3 rfl, zaa, lds_part r2 (0 + 1) 4 [.int .i64 t.x, .int .i64 t.y, .int .i64 t.w, .int .i64 t.h] rfl rfl, zaa]
 refine FCall.to (c_within (HS.ext E3) WS) fun h4 e4 => ?_
 have E4 := E3.trans e4
 by_cases g2 : zb8 s t.x t.y t.w t.h
 case neg =>
  have hc : wnewC m n s t = 9 := by unfold wnewC; rw [if_neg (by simpa using g1), if_pos g2]
  simp only [go_sem, decide_eq_false g2]
  exact ⟨E4, _, by rw [hc], fun _ => rfl, fun h0 => absurd (h0.symm.trans hc) (by decide)⟩
 simp only [go_sem, decide_eq_true g2]
 have hc : wnewC m n s t = 0 := zfc.2 ⟨g1, g2⟩
 have r1 := e4.row r1
 have r2 := e4.row r2
 have WJ := job_wf (t := t) W WS hc
 have hb := JobD.bd WJ
 have hw1 := WJ.w1
 have hx0 := WJ.x0
 have hf := zbs W.fits
 refine zan (Ext h4) (Ext.refl _) ?_
 refine zaf (.agg #[p, q, .int .i64 s.border]) (fun h' e => zav (l := [p, q, .int .i64 s.border]) (e.row r1) 3 rfl) ?_
 refine zaf (.agg (tileC t).toArray) (fun h' e => zav (e.row r2) 10 rfl) ?_
 try simp only [go_sem, Nat.zero_add]
 refine zaf q (fun h' e => zac (e.row r1)) ?_
 try simp only [go_sem, Nat.zero_add]
 refine zaf (.int .i64 t.w) (fun h' e => zac (e.row r2)) ?_
 try simp only [go_sem, Nat.zero_add]
 refine zaf (.int .i64 t.y) (fun h' e => zac (e.row r2)) ?_
 refine FCall.at (c_Most (hq.ext E4)) ?_
 refine ⟨Ext.refl _, ?_⟩
 refine FCall.at (zbV (I.ext E4)) ?_
 refine ⟨Ext.refl _, ?_⟩
 have hwc : 0 ≤ t.w * m.c ∧ t.w * m.c ≤ 65536 * 3 := by
  have h1 : (1 : Int) ≤ t.w := hw1
  have h2 : t.x + t.w ≤ 65536 := hb.1
  have h3 : 0 ≤ t.x := hx0
  have := Int.mul_le_mul (show t.w ≤ 65536 by omega) hf.2.2.2.2.2.1 (by omega) (by omega)
  exact ⟨Int.mul_nonneg (by omega) (by omega), this⟩
 simp only [go_sem]
 rw [w64 (n := t.w * m.c) (by omega) (by omega)]
 refine (c_RNew (mostL s.y.lines) (t.w * m.c)).mono fun rv h5 ⟨M, R, e5, hM⟩ => ?_
 refine ⟨e5, ?_⟩
 have E5 := E4.trans e5
 have hr : zar rv = true := by obtain ⟨_, _, _, _, _, _, e, _⟩ := R; rw [e]; rfl
 have hfj : fillL zeroJ [(0, 1, ptr bf), (1, 1, ptr bt), (2, 3, .agg #[p, q, .int .i64 s.border]), (5, 10, .agg (tileC t).toArray), (15, 1, rv), (16, 1, .int .i64 t.y)] = some (jobC bf bt p q rv ⟨m, s, t⟩ t.y).toArray := fill_job (d := ⟨m, s, t⟩) hr
 rw [hfj, zaA, zaa]
 refine zai fun bj h6 r6 e6 n6 => ?_
 have E6 := E5.trans e6
 have hbt := O.lt
 have hs5 := E5.1
 have hs4 := E4.1
 refine ⟨E6, _, by rw [hc], fun h0 => absurd hc h0, fun _ => ⟨bj, rv, rfl, ⟨M, [], ⟨r6, I.ext E6, hp.ext E6, hq.ext E6, R.ext e6, O.ext E6, zf, fun c hz => ⟨fun hm => ?_, fun he => ?_, zz c hz⟩, ⟨fun hm => ?_, fun hm => ?_, fun c hv hm => ?_⟩, ⟨by omega, fun hv => ?_⟩, Int.le_refl _, ?_, fun c hz => Nat.lt_of_lt_of_le (zl c hz) E6.1⟩, fun c hm => .inr ⟨?_, ?_⟩, fun _ => ⟨Held.start _ _, Int.le_refl _, ?_⟩⟩, .inr ⟨by omega, zay r6⟩, fun c hc => hc.elim (fun h => h.elim) fun h => h.2, fun c hc => ?_, job_out WO hc⟩⟩
 ·have := hM c hm; have := zl c hz; omega
 ·have := zl c hz; omega
 ·have := R.lt hm; omega
 ·have := hM bt hm; omega
 ·have := hM c hm; have := O.ltv hv; omega
 ·have := O.ltv hv; omega
 ·show t.y ≤ t.y + t.h
  have := WJ.h1
  have : (1 : Int) ≤ t.h := this
  omega
 ·have := hM c hm; omega
 ·have := R.lt hm; have := e6.1; omega
 ·show lnF s.y t.y ≤ lnE s.y t.y
  unfold lnF lnE; omega
 ·rcases hc with h | h
  ·exact h.elim
  ·exact ⟨fun hz => by have := zl c hz; omega, by omega, fun hv => by have := O.ltv hv; omega⟩
section
theorem zpr {a b : Int} (ha : 1 ≤ a) (hb : 1 ≤ b) : max a b ≤ a * b := by
 have h1 : a * 1 ≤ a * b := Int.mul_le_mul_of_nonneg_left hb (by omega)
 have h2 : 1 * b ≤ a * b := Int.mul_le_mul_of_nonneg_right ha (by omega)
 omega
theorem span0 (X : Int) {n m : Int} (hn : 1 ≤ n) (hm : 1 ≤ m) : -(-(X + n) / m) - X / m ≤ 6 * n + 4 := by
 have a1 := Int.mul_ediv_add_emod (-(X + n)) m
 have a2 := Int.mul_ediv_add_emod X m
 have b1 := Int.emod_lt_of_pos (-(X + n)) (show 0 < m by omega)
 have b2 := Int.emod_lt_of_pos X (show 0 < m by omega)
 have hmn := zpr hn hm
 revert a1 a2 b1 b2
 generalize -(X + n) / m = q1
 generalize X / m = q2
 generalize -(X + n) % m = r1
 generalize X % m = r2
 intro a1 a2 b1 b2
 rcases Int.lt_or_le (6 * n + 4) (-q1 - q2) with h | h
 ·exfalso
  have h1 : m * (6 * n + 5) ≤ m * (-q1 - q2) := Int.mul_le_mul_of_nonneg_left (by omega) (by omega)
  have h2 : m * (6 * n + 5) = 6 * (n * m) + 5 * m := by grind
  have h3 : m * (-q1 - q2) = -(m * q1) - m * q2 := by grind
  rw [h2, h3] at h1
  omega
 ·omega
theorem span1 (X R : Int) {n m : Int} (hn : 1 ≤ n) (hm : 1 ≤ m) (hR : R ≤ 6 * (n * m)) : -(-(X + R) / (2 * m)) - ((X - R) / (2 * m) + 1) ≤ 6 * n + 4 := by
 have a1 := Int.mul_ediv_add_emod (-(X + R)) (2 * m)
 have a2 := Int.mul_ediv_add_emod (X - R) (2 * m)
 have b1 := Int.emod_lt_of_pos (-(X + R)) (show 0 < 2 * m by omega)
 have b2 := Int.emod_lt_of_pos (X - R) (show 0 < 2 * m by omega)
 revert a1 a2 b1 b2
 generalize -(X + R) / (2 * m) = q1
 generalize (X - R) / (2 * m) = q2
 generalize -(X + R) % (2 * m) = r1
 generalize (X - R) % (2 * m) = r2
 intro a1 a2 b1 b2
 rcases Int.lt_or_le (6 * n + 4) (-q1 - (q2 + 1)) with h | h
 ·exfalso
  have h1 : 2 * m * (6 * n + 5) ≤ 2 * m * (-q1 - (q2 + 1)) := Int.mul_le_mul_of_nonneg_left (by omega) (by omega)
  have h2 : 2 * m * (6 * n + 5) = 12 * (n * m) + 10 * m := by grind
  have h3 : 2 * m * (-q1 - (q2 + 1)) = -(2 * m * q1) - 2 * m * q2 - 2 * m := by grind
  rw [h2, h3] at h1
  omega
 ·omega
theorem span_bd {f n m i : Int} (hf : 0 ≤ f ∧ f < 3) (hn : 1 ≤ n) (hm : 1 ≤ m) : highW f n m i - lowW f n m i ≤ 6 * n + 4 := by
 have hmn := zpr hn hm
 unfold highW lowW ceilD
 by_cases h0 : f = 0
 ·rw [if_pos h0, if_pos h0]
  rw [show (i + 1) * n = i * n + n by rw [Int.add_mul, Int.one_mul]]
  exact span0 (i * n) hn hm
 ·rw [if_neg h0, if_neg h0]
  have hR : zaZ f * 2 * max n m ≤ 6 * (n * m) ∧ 0 ≤ zaZ f * 2 * max n m := by
   have : (zaZ f = 2 ∨ zaZ f = 3) := by unfold zaZ; rw [if_neg h0]; split <;> simp
   rcases this with h | h <;> rw [h] <;> omega
  generalize zaZ f * 2 * max n m = R at *
  exact span1 _ _ hn hm hR.1
theorem zpJ {ls : List (Int × List Int)} {c : Int} (h0 : 0 ≤ c) (h : ∀ x ∈ ls, (x.2.length : Int) ≤ c) : mostL ls ≤ c := by
 unfold mostL
 have : ∀ (l : List (Int × List Int)) (a : Int), a ≤ c → (∀ x ∈ l, (x.2.length : Int) ≤ c) → l.foldl (fun m x => max m (x.2.length : Int)) a ≤ c := by
  intro l
  induction l with
  | nil => intro a ha _; exact ha
  | cons y l ih =>
   intro a ha hl
   rw [List.foldl_cons]
   exact ih _ (by have := hl y (by simp); omega) fun x hx => hl x (by simp [hx])
 exact this ls 0 h0 h
theorem most_nn (ls : List (Int × List Int)) : 0 ≤ mostL ls := (zq8 ls 0).1
theorem zmQ {f n m : Int} (hc : zbd f n m = 0) : mostL (zbG f n m).lines ≤ 6 * n + 4 := by
 have h0 : ¬ (¬ (0 ≤ f ∧ f < 3) ∨ ¬ zaq n ∨ ¬ zaq m) := fun h => by unfold zbd at hc; rw [if_pos h] at hc; cases hc
 have hz := hc
 unfold zbd at hz
 rw [if_neg h0] at hz
 have hf : 0 ≤ f ∧ f < 3 := Decidable.of_not_not fun h => h0 (.inl h)
 have hn : zaq n := Decidable.of_not_not fun h => h0 (.inr (.inl h))
 have hm : zaq m := Decidable.of_not_not fun h => h0 (.inr (.inr h))
 unfold zaq at hn hm
 refine zpJ (by omega) fun x hx => ?_
 obtain ⟨i, hi, rfl⟩ := List.mem_map.1 hx
 have hi := List.mem_range.1 hi
 have h2 := ze1 hz i hi
 show ((zaF (za6 f n m i)).length : Int) ≤ _
 rw [zgX h2]
 unfold za6
 rw [if_pos ⟨hf.1, hf.2, hn.1, hn.2, hm.1, hm.2, by omega, by omega⟩]
 unfold rowW
 rw [List.length_map, List.length_range]
 have := span_bd (i := i) hf hn.1 hm.1
 omega
theorem resize_most {f n m : Int} (hc : zbd f n m = 0) (hs : n ≤ 10000) : mostL (zbG f n m).lines ≤ 65536 := by have := zmQ hc; omega
theorem zmV (l : List Int) (n : Int) (hc : zcG l n = 0) : mostL (zdi l n).lines ≤ l.length := by
 refine zpJ (by omega) fun x hx => ?_
 obtain ⟨i, hi, rfl⟩ := List.mem_map.1 hx
 show ((zaF l).length : Int) ≤ _
 have h0 : za0 l = 0 := by
  unfold zcG at hc
  split at hc
  ·cases hc
  ·split at hc
   ·cases hc
   ·exact hc
 rw [zgX h0]
 omega
theorem filter_most (l : List Int) (hl : l.length ≤ 1024) (n : Int) (hc : zcG l n = 0) : mostL (zdi l n).lines ≤ 65536 := by have := zmV l n hc; omega
theorem makeS_most {o : OpD} {w h : Int} (hc : makeC o w h = 0) (hs : h ≤ 10000) : mostL (makeS o w h).y.lines ≤ 65536 := by
 have ht : zcz o w h = 0 := by
  unfold makeC at hc
  split at hc
  ·cases hc
  ·exact hc
 show mostL (zbP o h).lines ≤ _
 unfold zcz at ht
 unfold zbP
 split
 ·rename_i hk
  rw [if_pos hk] at ht
  by_cases h1 : zbd o.filter w o.w = 0
  ·rw [if_neg (by simpa using h1)] at ht
   exact resize_most ht hs
  ·rw [if_pos h1] at ht
   exact absurd ht h1
 ·rename_i hk
  rw [if_neg hk] at ht
  refine filter_most _ (zjW o).2 _ ?_
  split at ht
  ·exact absurd ht (by assumption)
  ·split at ht
   ·exact absurd ht (by assumption)
   ·exact ht
structure StgOk (s : Stg) : Prop where
 wf : s.Wf
 mono : zmh s.y
 most : mostL s.y.lines ≤ 65536
 side : s.x.lines.length ≤ 300
theorem makeS_ok {o : OpD} {w h : Int} (hc : makeC o w h = 0) (hs : h ≤ 10000) (hx : sizeW o w ≤ 300) : StgOk (makeS o w h) :=
 ⟨(zi0 hc).1, makeS_mono hc, makeS_most hc hs, by have := (zol hc).1; omega⟩
theorem StgOk.room {s : Stg} (H : StgOk s) {m n : Pic} {t : TileD} (W : m.Wf) (hc : wnewC m n s t = 0) : RoomOk ⟨m, s, t⟩ (roomN (mostL s.y.lines)) (zcy (t.w * m.c)) := by
 have hw := job_wf (t := t) W H.wf hc
 have hf := zbs W.fits
 have h1 : 1 ≤ t.w := hw.w1
 have h2 : 0 ≤ t.x := hw.x0
 have h3 : t.x + t.w ≤ s.x.lines.length := hw.xw
 have h4 := H.side
 have h5 := H.most
 have hwc : 0 ≤ t.w * m.c ∧ t.w * m.c ≤ 300 * 3 := ⟨Int.mul_nonneg (by omega) (by omega), Int.mul_le_mul (show t.w ≤ 300 by omega) hf.2.2.2.2.2.1 (by omega) (by omega)⟩
 refine ⟨H.mono, ?_, ?_, ?_, ?_⟩
 ·unfold roomN; show mostL s.y.lines ≤ _; omega
 ·unfold roomN; omega
 ·unfold zcy; show _ = t.w * m.c; omega
 ·show t.w ≤ 300; omega
def leftN (d : JobD) : Nat → Int → Int → Nat
 | 0, _, _ => 0
 | k + 1, y, e => (lnE d.s.y y - e).toNat + 1 + leftN d k (y + 1) (max (lnE d.s.y y) (lnF d.s.y (y + 1)))
def leftZ (d : JobD) (y e : Int) : Nat := leftN d (d.t.y + d.t.h - y).toNat y e
theorem left_zero {d : JobD} {y e : Int} (h : d.t.y + d.t.h ≤ y) : leftZ d y e = 0 := by
 unfold leftZ
 rw [show (d.t.y + d.t.h - y).toNat = 0 by omega]; rfl
theorem zoo {d : JobD} {y e : Int} (h : y < d.t.y + d.t.h) : leftZ d y e = (lnE d.s.y y - e).toNat + 1 + leftZ d (y + 1) (max (lnE d.s.y y) (lnF d.s.y (y + 1))) := by
 unfold leftZ
 rw [show (d.t.y + d.t.h - y).toNat = (d.t.y + d.t.h - (y + 1)).toNat + 1 by omega]; rfl
theorem left_step {d : JobD} {y e : Int} (hk : stepK d y e ≠ 0) (he : e ≤ lnE d.s.y y) : leftZ d (stepY d y e) (stepE d y e) + 1 = leftZ d y e := by
 have hno : ¬ d.t.y + d.t.h ≤ y := fun h => hk (by unfold stepK; rw [if_pos h])
 have hl := zoo (e := e) (show y < d.t.y + d.t.h by omega)
 by_cases h1 : e < lnE d.s.y y
 ·have k1 : stepK d y e = 1 := by unfold stepK; rw [if_neg hno, if_pos h1]
  have hy : stepY d y e = y := by unfold stepY; rw [if_neg (by omega)]
  have hE : stepE d y e = e + 1 := by unfold stepE; rw [if_pos k1]
  rw [hy, hE, hl, zoo (e := e + 1) (by omega)]
  omega
 ·have k2 : stepK d y e = 2 := by unfold stepK; rw [if_neg hno, if_neg h1]
  have hy : stepY d y e = y + 1 := by unfold stepY; rw [if_pos k2]
  have hE : stepE d y e = max e (lnF d.s.y (y + 1)) := by unfold stepE; rw [if_neg (by omega), if_pos k2]
  have hee : e = lnE d.s.y y := by omega
  rw [hy, hE, hl, hee]
  omega
theorem left_pos {d : JobD} {y e : Int} : leftZ d y e = 0 ↔ stepK d y e = 0 := by
 unfold stepK
 by_cases h : d.t.y + d.t.h ≤ y
 ·rw [if_pos h, left_zero h]
  simp
 ·rw [if_neg h, zoo (by omega)]
  constructor
  ·intro h; omega
  ·split <;> intro h <;> cases h
theorem zre {d : JobD} (W : d.s.y.Wf) : ∀ (k : Nat) (y e : Int), lnF d.s.y y ≤ e → leftN d k y e ≤ k * 1048577
 | 0, _, _, _ => Nat.le_refl _
 | k + 1, y, e, he => by
  have h1 := zre W k (y + 1) (max (lnE d.s.y y) (lnF d.s.y (y + 1))) (by omega)
  have h2 := zfG W y
  unfold leftN
  unfold lnE lnF at *
  omega
theorem left_bd {d : JobD} (W : d.Wf) {y e : Int} (hy : d.t.y ≤ y) (he : y < d.t.y + d.t.h → lnF d.s.y y ≤ e) : leftZ d y e ≤ 68719542272 := by
 by_cases h : y < d.t.y + d.t.h
 ·have h1 := zre W.s.y (d.t.y + d.t.h - y).toNat y e (he h)
  have h2 := JobD.bd W
  have h3 := W.y0
  unfold leftZ
  omega
 ·rw [left_zero (by omega)]; omega
theorem JobSt.inv {Z B : Nat → Prop} {h : Heap} {bj bf : Nat} {vf : Value} {bt : Nat} {vt p q rv : Value} {d : JobD} {y e : Int} {n : Pic} {room w : Nat} (S : JobSt Z B h bj bf vf bt vt p q rv d y e n room w) : d.t.y ≤ y ∧ y ≤ d.t.y + d.t.h ∧ (y < d.t.y + d.t.h → lnF d.s.y y ≤ e ∧ e ≤ lnE d.s.y y) := by
 obtain ⟨⟨M, rs, J, a, b⟩, _⟩ := S
 exact ⟨J.y0, J.y1, fun h => (b h).2⟩
theorem JobSt.left_step {Z B : Nat → Prop} {h : Heap} {bj bf : Nat} {vf : Value} {bt : Nat} {vt p q rv : Value} {d : JobD} {y e : Int} {n : Pic} {room w : Nat} (S : JobSt Z B h bj bf vf bt vt p q rv d y e n room w) (hk : stepK d y e ≠ 0) : leftZ d (stepY d y e) (stepE d y e) + 1 = leftZ d y e := by
 refine Go.Proofs.YtdbebmafgpdfhaaGreatDoor.left_step hk (S.inv.2.2 ?_).2
 rcases Int.lt_or_le y (d.t.y + d.t.h) with h | h
 ·exact h
 ·exact absurd (by unfold stepK; rw [if_pos h]) hk
theorem zlu {B : Nat → Prop} {h : Heap} : Grow B h h = B := by
 funext c
 unfold Grow
 apply propext
 constructor
 ·rintro (h | h)
  ·exact h
  ·omega
 ·exact .inl
section
variable {Z B : Nat → Prop} {h : Heap} {bj bf : Nat} {vf : Value} {bt : Nat} {vt p q rv : Value} {d : JobD} {y e : Int} {n : Pic} {room w : Nat}
theorem zp4 (S : JobSt Z B h bj bf vf bt vt p q rv d y e n room w) : FCall prog zcx #[ptr bj] h fun r h' => r = .int .i64 ((room : Int) * w) ∧ h' = h := by
 apply zj0
 unfold zfq
 obtain ⟨⟨M, rs, J, a, b⟩, _⟩ := S
 simp only [go_sem, J.c15 (Ext.refl _)]
 exact c_RWords J.ring
end
def znB (s : Stg) (t : TileD) (m : Pic) : Nat := leftZ ⟨m, s, t⟩ t.y (lnF s.y t.y)
theorem c_Steps {Z : Nat → Prop} {h : Heap} {p q : Value} {s : Stg} {t : TileD} (m : Pic) (hp : IsTbl Z h p s.x) (hq : IsTbl Z h q s.y) (OK : StgOk s) :
  FCall prog zgB #[.agg #[p, q, .int .i64 s.border], .agg (tileC t).toArray] h fun r h' => r = .int .i64 (if zb8 s t.x t.y t.w t.h then (znB s t m : Int) else 0) ∧ Ext h h' := by
 apply zn1
 unfold zia
 simp only [zaG]
 have HS : IsStg Z h (.agg #[p, q, .int .i64 s.border]) s := ⟨p, q, rfl, hp, hq⟩
 refine zai fun b1 h1 r1 e1 n1 => zai fun b2 h2 r2 e2 n2 => ?_
 have E2 := e1.trans e2
 have r1 := e2.row r1
 rw [zav (l := [p, q, .int .i64 s.border]) r1 3 rfl, zaa, zhf, zaa, lds_part r2 (0 + 1) 4 [.int .i64 t.x, .int .i64 t.y, .int .i64 t.w, .int .i64 t.h] rfl rfl, zaa]
 refine FCall.to (c_within (HS.ext E2) OK.wf) fun h4 e4 => ?_
 have E4 := E2.trans e4
 have r1 := e4.row r1
 have r2 := e4.row r2
 by_cases g : zb8 s t.x t.y t.w t.h
 case neg =>
  rw [if_neg g]
  simp only [go_sem, decide_eq_false g]
  exact ⟨trivial, E4⟩
 rw [if_pos g]
 obtain ⟨g1, g2, g3, g4, g5, g6, g7, g8⟩ := g
 have q1 : zah h4 ⟨b1, 1, none⟩ = some q := zac r1
 have t4 : zah h4 ⟨b2, 4, none⟩ = some (.int .i64 t.h) := zac r2
 have t2 : zah h4 ⟨b2, 2, none⟩ = some (.int .i64 t.y) := zac r2
 simp only [go_sem, decide_eq_true (show zb8 s t.x t.y t.w t.h from ⟨g1, g2, g3, g4, g5, g6, g7, g8⟩), t4, q1, t2]
 refine (zmY (hq.ext E4) OK.wf.y).mono fun r h5 ⟨u, e, S, e5⟩ => ?_
 subst e
 have E5 := E4.trans e5
 have hpt : partV false 1 0 (.agg #[.int .i64 (lineT s.y t.y).1, u]) = some (.int .i64 (lnF s.y t.y)) := rfl
 have t4 : zah h5 ⟨b2, 4, none⟩ = some (.int .i64 t.h) := zac (e5.row r2)
 simp only [go_sem, hpt, t4]
 obtain ⟨H, hH⟩ : ∃ H : Nat, t.h = (H : Int) := ⟨t.h.toNat, by omega⟩
 have hly := OK.wf.y.len
 have hmo := OK.mono
 obtain ⟨d, hd⟩ : ∃ d : JobD, d = ⟨m, s, t⟩ := ⟨_, rfl⟩
 have hds : d.s = s := by rw [hd]
 have htot : znB s t m = leftN d H t.y (lnF s.y t.y) := by
  unfold znB leftZ
  rw [hd]
  show leftN _ (t.y + t.h - t.y).toNat _ _ = _
  rw [show (t.y + t.h - t.y).toNat = H by omega]
 have hbd : ∀ k y e, lnF s.y y ≤ e → leftN d k y e ≤ k * 1048577 := fun k y e he => zre (by rw [hds]; exact OK.wf.y) k y e (by rw [hds]; exact he)
 have htb := hbd H t.y (lnF s.y t.y) (Int.le_refl _)
 rw [hH]
 refine zaD (α := Int × Int) H 0 (fun k a => [.int .i64 a.1, .int .i64 a.2, .int .i64 (k : Int)])
  (fun k a h' => Ext h h' ∧ h'[b1]? = some (.cells #[p, q, .int .i64 s.border] 67 (0, 0)) ∧ h'[b2]? = some (.cells (tileC t).toArray 84 (0, 0)) ∧ 0 ≤ a.1 ∧ a.1 + leftN d (H - k) (t.y + k) (max a.2 (lnF s.y (t.y + k))) - (H - k : Nat) = znB s t m ∧ (k < H → a.2 ≤ lnE s.y (t.y + k) ∧ lnF s.y t.y ≤ a.2)) ((H : Int), lnF s.y t.y) rfl (Nat.zero_le _)
  ⟨E5, e5.row r1, e5.row r2, by show (0 : Int) ≤ (H : Int); omega, by
   show ((H : Int) + (leftN d (H - 0) (t.y + (0 : Nat)) (max (lnF s.y t.y) (lnF s.y (t.y + (0 : Nat)))) : Int)) - _ = _
   rw [show t.y + ((0 : Nat) : Int) = t.y by omega, show max (lnF s.y t.y) (lnF s.y t.y) = lnF s.y t.y by omega, htot, Nat.sub_zero]
   omega, fun _ => by
   show lnF s.y t.y ≤ lnE s.y (t.y + (0 : Nat)) ∧ _
   rw [show t.y + ((0 : Nat) : Int) = t.y by omega]
   exact ⟨by unfold lnE lnF; omega, Int.le_refl _⟩⟩ fun k a h6 again ρ1 _ hk ⟨E6, r16, r26, a0, hI, hL⟩ Hag => ?_
 obtain ⟨n, last⟩ := a
 have a0 : 0 ≤ n := a0
 have hI : n + leftN d (H - k) (t.y + k) (max last (lnF s.y (t.y + k))) - (H - k : Nat) = znB s t m := hI
 have hL : k < H → last ≤ lnE s.y (t.y + k) ∧ lnF s.y t.y ≤ last := hL
 simp only [go_sem]
 refine zab (fun h7 => ?_) (fun h7 => ?_)
 ·have hk' : k < H := by omega
  obtain ⟨hL, hL2⟩ := hL hk'
  have q1 : zah h6 ⟨b1, 1, none⟩ = some q := zac r16
  have t2 : zah h6 ⟨b2, 2, none⟩ = some (.int .i64 t.y) := zac r26
  simp only [go_sem, q1, t2]
  rw [w64 (n := t.y + (k : Int)) (by omega) (by omega)]
  refine (zmY (hq.ext E6) OK.wf.y).mono fun r h7 ⟨u, e, S, e7⟩ => ?_
  subst e
  have hl := zfG OK.wf.y (t.y + k)
  refine za1 (cs := [.int .i64 (lineT s.y (t.y + k)).1, u]) rfl (zad rfl (zad S.one zao)) rfl fun b8 h8 r8 e8 n8 => ?_
  obtain ⟨au, cu, eu⟩ := S.isSl
  have eu2 : zag u = some (.int .i64 ((lineT s.y (t.y + k)).2.length : Int)) := by rw [eu]; rfl
  have c0 : zah h8 ⟨b8, 0, none⟩ = some (.int .i64 (lineT s.y (t.y + k)).1) := zac r8
  have c1 : zah h8 ⟨b8, 1, none⟩ = some u := zac r8
  simp only [go_sem, Nat.zero_add, c0, c1, eu2]
  have hEe : (lineT s.y (t.y + k)).1 + ((lineT s.y (t.y + k)).2.length : Int) = lnE s.y (t.y + k) := rfl
  have hFe : (lineT s.y (t.y + k)).1 = lnF s.y (t.y + k) := rfl
  have hFE : lnF s.y (t.y + k) ≤ lnE s.y (t.y + k) := by unfold lnE lnF; omega
  have hEb : -70368744177664 ≤ lnE s.y (t.y + k) ∧ lnE s.y (t.y + k) ≤ 70368745226240 := by unfold lnE; omega
  have hFb := zfG OK.wf.y t.y
  have hFb2 : -70368744177664 ≤ lnF s.y t.y ∧ lnF s.y t.y ≤ 70368744177664 := ⟨hFb.2.1, hFb.2.2⟩
  have hFk : -70368744177664 ≤ lnF s.y (t.y + k) := hl.2.1
  rw [w64 (n := (lineT s.y (t.y + k)).1 + ((lineT s.y (t.y + k)).2.length : Int)) (by omega) (by omega), hEe, hFe]
  have hsplit : leftN d (H - k) (t.y + k) (max last (lnF s.y (t.y + k))) = (lnE s.y (t.y + k) - max last (lnF s.y (t.y + k))).toNat + 1 + leftN d (H - (k + 1)) (t.y + (k + 1 : Nat)) (max (lnE s.y (t.y + k)) (lnF s.y (t.y + (k + 1 : Nat)))) := by
   rw [show H - k = (H - (k + 1)) + 1 by omega]
   rw [leftN, hds, show t.y + (k : Int) + 1 = t.y + ((k + 1 : Nat) : Int) by omega]
  have hlb := hbd (H - (k + 1)) (t.y + (k + 1 : Nat)) (max (lnE s.y (t.y + k)) (lnF s.y (t.y + (k + 1 : Nat)))) (by omega)
  rw [hsplit] at hI
  generalize hld : leftN d (H - (k + 1)) (t.y + (k + 1 : Nat)) (max (lnE s.y (t.y + k)) (lnF s.y (t.y + (k + 1 : Nat)))) = LL at *
  rw [w64 (n := lnE s.y (t.y + k) - max last (lnF s.y (t.y + k))) (by omega) (by omega), w64 (n := n + max 0 (lnE s.y (t.y + k) - max last (lnF s.y (t.y + k)))) (by omega) (by omega), w64 (n := (k : Int) + 1) (by omega) (by omega)]
  refine Hag (n + max 0 (lnE s.y (t.y + k) - max last (lnF s.y (t.y + k))), max last (lnE s.y (t.y + k))) h8 hk' ⟨E6.trans (e7.trans e8), (e7.trans e8).row r16, (e7.trans e8).row r26, ?_, ?_, fun hk2 => ?_⟩
  ·show 0 ≤ n + max 0 (lnE s.y (t.y + k) - max last (lnF s.y (t.y + k))); omega
  ·show n + max 0 (lnE s.y (t.y + k) - max last (lnF s.y (t.y + k))) + (leftN d (H - (k + 1)) (t.y + (k + 1 : Nat)) (max (max last (lnE s.y (t.y + k))) (lnF s.y (t.y + (k + 1 : Nat)))) : Int) - _ = _
   rw [show max last (lnE s.y (t.y + k)) = lnE s.y (t.y + k) by omega, hld]
   omega
  ·have := hmo.e (t.y + k) (t.y + (k + 1 : Nat)) (by omega) (by omega) (by omega)
   show max last (lnE s.y (t.y + k)) ≤ lnE s.y (t.y + (k + 1 : Nat)) ∧ lnF s.y t.y ≤ max last (lnE s.y (t.y + k))
   omega
 ·have hkH : k = H := by omega
  subst hkH
  refine ⟨?_, E6⟩
  rw [Nat.sub_self] at hI
  have : n = znB s t m := by unfold leftN at hI; omega
  rw [this]
end
theorem sum_turn (a b : Nat → Int) (v : Nat → Nat → Int) (n m : Nat) : sumN (fun i => a i * sumN (fun k => b k * v i k) m) n = sumN (fun k => b k * sumN (fun i => a i * v i k) n) m := by
 have e1 : ∀ i, a i * sumN (fun k => b k * v i k) m = sumN (fun k => a i * (b k * v i k)) m := fun i => (zqk (a i) _ m).symm
 have e2 : ∀ k, b k * sumN (fun i => a i * v i k) n = sumN (fun i => a i * (b k * v i k)) n := fun k => by
  rw [← zqk]
  exact ziX fun i _ => by rw [← Int.mul_assoc, ← Int.mul_assoc, Int.mul_comm (b k) (a i)]
 rw [ziX fun i _ => e1 i, sumN_swap, ziX fun k _ => (e2 k).symm]
theorem line_get {t : Tbl} {i : Nat} (hi : i < t.lines.length) : t.lines[i] = lineT t (i : Int) := by
 unfold lineT
 rw [if_pos (by omega)]
 simp [List.getD_eq_getElem?_getD, hi]
theorem c_r15Round {h : Heap} {n most : Int} (hn : I64 n) : FCall prog zhn #[.int .i64 n, .int .i64 most] h fun r h' => r = .int .u16 (zhU n most) ∧ Ext h h' := by
 apply zoY
 unfold zjr
 refine FCall.to (zlB hn (by unfold I64; omega)) fun h1 e1 => ?_
 unfold zhU
 generalize zfo n 28 = v
 refine zau (fun xs h' => xs = [.int .i64 (max 0 most)] ∧ h' = h1) ?_ ?_
 ·simp only [go_sem]
  refine zab (fun h2 => ?_) (fun h2 => ?_)
  ·rw [show max 0 most = 0 by omega]; exact ⟨rfl, trivial⟩
  ·rw [show max 0 most = most by omega]; exact ⟨rfl, trivial⟩
 rintro _ ρ h' ⟨rfl, w⟩
 have w := w.symm
 subst w
 simp only [go_sem]
 refine zab (fun h2 => ?_) (fun h2 => ?_)
 ·refine zab (fun h3 => ?_) (fun h3 => ?_)
  ·rw [show max 0 (min v (max 0 (min most 65535))) = 0 by omega]; exact ⟨rfl, e1⟩
  refine zab (fun h4 => ?_) (fun h4 => ?_)
  ·rw [wu16 (by omega) (by omega), show max 0 (min v (max 0 (min most 65535))) = 65535 by omega]; exact ⟨rfl, e1⟩
  ·rw [wu16 (by omega) (by omega), show max 0 (min v (max 0 (min most 65535))) = v by omega]; exact ⟨rfl, e1⟩
 ·refine zab (fun h3 => ?_) (fun h3 => ?_)
  ·rw [show max 0 (min v (max 0 (min most 65535))) = 0 by omega]; exact ⟨rfl, e1⟩
  refine zab (fun h4 => ?_) (fun h4 => ?_)
  ·rw [wu16 (by omega) (by omega), show max 0 (min v (max 0 (min most 65535))) = max 0 most by omega]; exact ⟨rfl, e1⟩
  ·rw [wu16 (by omega) (by omega), show max 0 (min v (max 0 (min most 65535))) = v by omega]; exact ⟨rfl, e1⟩
theorem c_r15Sum {h : Heap} {Z Z' : Nat → Prop} {cs ds : List Value} {m : Pic} {s : Stg} (H : rPic.R Z h cs m) (W : m.Wf) (K : rStg.R Z' h ds s) (WS : s.Wf) {x y : Nat} (hx : x < s.x.lines.length) (hy : y < s.y.lines.length) {c : Int} :
  FCall prog zkg #[.agg cs.toArray, .agg ds.toArray, .int .i64 (x : Int), .int .i64 (y : Int), .int .i64 c] h fun r h' => r = .int .i64 (IntKind.i64.wrap (totZ m s x y c)) ∧ Ext h h' := by
 apply ok_ref15_Sum
 unfold zmw
 have H0 := H
 obtain ⟨u, rfl, Hu⟩ := H
 obtain ⟨X, Y, rfl, HX, HY⟩ := K
 simp only [zaG]
 refine zai fun b1 h1 r1 e1 n1 => zai fun b2 h2 r2 e2 n2 => ?_
 have E2 := e1.trans e2
 have r1 := e2.row r1
 have k0 : zah h2 ⟨b2, 0, none⟩ = some X := zac r2
 simp only [go_sem, Nat.zero_add, k0]
 obtain ⟨bx, ox, cx, ix1, lx, ax, Rx, _⟩ := HX.atp (show 0 < 2 by omega) (k := .i64) hx
 obtain ⟨ux, rfl, Sx⟩ := Rx
 rw [line_get hx] at ax Sx
 obtain ⟨by', oy, cy, iy1, ly, ay, Ry, _⟩ := HY.atp (show 0 < 2 by omega) (k := .i64) hy
 obtain ⟨uy, rfl, Sy⟩ := Ry
 rw [line_get hy] at ay Sy
 have ix1 : idxV 2 X (.int .i64 (x : Int)) = some (.pointer (some ⟨bx, ox, none⟩)) := ix1
 have iy1 : idxV 2 Y (.int .i64 (y : Int)) = some (.pointer (some ⟨by', oy, none⟩)) := iy1
 have x0 := ax 0 (by simp)
 have x1 := ax 1 (by simp)
 have y0 := ay 0 (by simp)
 have y1 := ay 1 (by simp)
 simp only [Nat.add_zero, List.getElem_cons_zero, List.getElem_cons_succ] at x0 x1 y0 y1
 have hlx := zfG WS.x (x : Int)
 have hly := zfG WS.y (y : Int)
 have hf := zbs W.fits
 have htot : totZ m s x y c = sumN (fun i => (lineT s.x x).2.getD i 0 * sumN (fun k => (lineT s.y y).2.getD k 0 * atP m (atZ s.border ((lineT s.x x).1 + i) m.w) (atZ s.border ((lineT s.y y).1 + k) m.h) c) (lineT s.y y).2.length) (lineT s.x x).2.length := by
  unfold totZ zgy
  exact (sum_turn _ _ (fun i k => atP m (atZ s.border ((lineT s.x x).1 + i) m.w) (atZ s.border ((lineT s.y y).1 + k) m.h) c) _ _).symm
 rw [htot]
 clear htot
 generalize lineT s.x x = Lx at *
 generalize lineT s.y y = Ly at *
 obtain ⟨aux, cux, eux⟩ := Sx.isSl
 have eux2 : zag ux = some (.int .i64 (Lx.2.length : Int)) := by rw [eux]; rfl
 obtain ⟨auy, cuy, euy⟩ := Sy.isSl
 have euy2 : zag uy = some (.int .i64 (Ly.2.length : Int)) := by rw [euy]; rfl
 simp only [go_sem, ix1, E2.cell x1, eux2]
 refine zaD (α := Unit) Lx.2.length 0 (fun i _ => [.int .i64 (IntKind.i64.wrap (sumN (fun i => Lx.2.getD i 0 * sumN (fun k => Ly.2.getD k 0 * atP m (atZ s.border (Lx.1 + i) m.w) (atZ s.border (Ly.1 + k) m.h) c) Ly.2.length) i)), .int .i64 (i : Int)]) (fun i _ h' => Ext h2 h') () rfl (Nat.zero_le _) (Ext.refl _)
  fun i _ h3 again ρ1 _ hi E3 Hag => ?_
 simp only [go_sem]
 refine zab (fun g1 => ?_) (fun g1 => ?_)
 ·have hi' : i < Lx.2.length := by omega
  have E03 := E2.trans E3
  obtain ⟨pi, p1, p2⟩ := (Sx.ext E03).int_at (k' := .i64) hi'
  have ea : Lx.2.getD i 0 = Lx.2[i] := by simp [List.getD_eq_getElem?_getD, hi']
  rw [p1, zaa, p2, zaa, ← ea]
  have r13 := E3.row r1
  have r23 := E3.row r2
  refine zan (fun h' => h' = h3) rfl ?_
  try simp only [go_sem, Nat.zero_add]
  refine zaf (.int .i64 s.border) (fun h' e => by rw [e]; exact zac r23) ?_
  refine zaf X (fun h' e => by rw [e]; exact zac r23) ?_
  simp only [go_sem, ix1]
  refine zaf (.int .i64 Lx.1) (fun h' e => by rw [e]; exact E03.cell x0) ?_
  try simp only [go_sem]
  refine zaf (.int .i64 m.w) (fun h' e => by rw [e]; exact zac r13) ?_
  rw [w64 (n := Lx.1 + (i : Int)) (by omega) (by omega)]
  refine FCall.at (c_r7At (by unfold I64; omega)) ?_
  have k1 : zah h3 ⟨b2, 1, none⟩ = some Y := zac r23
  simp only [go_sem, k1, iy1, E03.cell y1, euy2]
  refine zaD (α := Unit) Ly.2.length 0 (fun k _ => [.int .i64 (IntKind.i64.wrap (sumN (fun k => Ly.2.getD k 0 * atP m (atZ s.border (Lx.1 + i) m.w) (atZ s.border (Ly.1 + k) m.h) c) k)), .int .i64 (k : Int)]) (fun i _ h' => Ext h2 h') () rfl (Nat.zero_le _) E3
   fun k _ h4 again2 ρ2 _ hk E4 Hag2 => ?_
  simp only [go_sem]
  refine zab (fun g2 => ?_) (fun g2 => ?_)
  ·have hk' : k < Ly.2.length := by omega
   have E04 := E2.trans E4
   obtain ⟨pk, q1, q2⟩ := (Sy.ext E04).int_at (k' := .i64) hk'
   have eb : Ly.2.getD k 0 = Ly.2[k] := by simp [List.getD_eq_getElem?_getD, hk']
   rw [q1, zaa, q2, zaa, ← eb]
   have r14 := E4.row r1
   have r24 := E4.row r2
   refine zan (fun h' => h' = h4) rfl ?_
   try simp only [go_sem, Nat.zero_add]
   refine zaf (.int .i64 s.border) (fun h' e => by rw [e]; exact zac r24) ?_
   refine zaf Y (fun h' e => by rw [e]; exact zac r24) ?_
   simp only [go_sem, iy1]
   refine zaf (.int .i64 Ly.1) (fun h' e => by rw [e]; exact E04.cell y0) ?_
   try simp only [go_sem]
   refine zaf (.int .i64 m.h) (fun h' e => by rw [e]; exact zac r14) ?_
   rw [w64 (n := Ly.1 + (k : Int)) (by omega) (by omega)]
   refine FCall.at (c_r7At (by unfold I64; omega)) ?_
   rw [zav (l := [.int .i64 m.w, .int .i64 m.h, .int .i64 m.c, .int .i64 m.most, u]) r14 5 rfl, zaa]
   refine FCall.to (c_r9At (rPic.ext H0 E04) W) fun h5 e5 => ?_
   have hv := atP_bd W (atZ s.border (Lx.1 + (i : Int)) m.w) (atZ s.border (Ly.1 + (k : Int)) m.h) c
   have hm := W.m2
   simp only [go_sem]
   rw [w64 (n := atP m (atZ s.border (Lx.1 + (i : Int)) m.w) (atZ s.border (Ly.1 + (k : Int)) m.h) c) (by omega) (by omega), zkr, w64 (n := (k : Int) + 1) (by omega) (by omega)]
   exact Hag2 () h5 hk' (E4.trans e5)
  ·have hkL : k = Ly.2.length := by omega
   subst hkL
   rw [ziU, zkr, w64 (n := (i : Int) + 1) (by omega) (by omega)]
   exact Hag () h4 hi' E4
 ·have hiL : i = Lx.2.length := by omega
  subst hiL
  exact ⟨rfl, E2.trans E3⟩
def pixL (m : Pic) (s : Stg) (i : Nat) : Int := pixZ m s ((i / m.c.toNat % s.x.lines.length : Nat) : Int) ((i / m.c.toNat / s.x.lines.length : Nat) : Int) ((i % m.c.toNat : Nat) : Int)
def zoP (m : Pic) (s : Stg) : Pic := ⟨s.x.lines.length, s.y.lines.length, m.c, m.most, (List.range (s.y.lines.length * s.x.lines.length * m.c.toNat)).map fun i : Nat => pixL m s i⟩
theorem pixL_at {m : Pic} {s : Stg} {x y c : Nat} (hx : x < s.x.lines.length) (hc : c < m.c.toNat) : pixL m s ((y * s.x.lines.length + x) * m.c.toNat + c) = pixZ m s x y c := by
 unfold pixL
 have e1 : ((y * s.x.lines.length + x) * m.c.toNat + c) / m.c.toNat = y * s.x.lines.length + x := by
  rw [Nat.mul_comm, Nat.mul_add_div (by omega), Nat.div_eq_of_lt hc, Nat.add_zero]
 have e2 : ((y * s.x.lines.length + x) * m.c.toNat + c) % m.c.toNat = c := by
  rw [Nat.mul_comm, Nat.mul_add_mod, Nat.mod_eq_of_lt hc]
 rw [e1, e2]
 have e3 : (y * s.x.lines.length + x) % s.x.lines.length = x := by rw [Nat.mul_comm, Nat.mul_add_mod, Nat.mod_eq_of_lt hx]
 have e4 : (y * s.x.lines.length + x) / s.x.lines.length = y := by rw [Nat.mul_comm, Nat.mul_add_div (by omega), Nat.div_eq_of_lt hx, Nat.add_zero]
 rw [e3, e4]
theorem applyP_at {m : Pic} {s : Stg} {x y c : Int} (hi : inP (zoP m s) x y c) : atP (zoP m s) x y c = pixZ m s x y c := by
 unfold atP
 rw [if_pos hi]
 obtain ⟨x0, x1, y0, y1, c0, c1⟩ := hi
 have x1 : x < s.x.lines.length := x1
 have y1 : y < s.y.lines.length := y1
 have c1 : c < m.c := c1
 obtain ⟨a, rfl⟩ : ∃ a : Nat, x = a := ⟨x.toNat, by omega⟩
 obtain ⟨b, rfl⟩ : ∃ b : Nat, y = b := ⟨y.toNat, by omega⟩
 obtain ⟨e, rfl⟩ : ∃ e : Nat, c = e := ⟨c.toNat, by omega⟩
 have hp : (posP (zoP m s) a b e).toNat = (b * s.x.lines.length + a) * m.c.toNat + e := by
  show (((b : Int) * (s.x.lines.length : Int) + a) * m.c + e).toNat = _
  have : ((((b * s.x.lines.length + a) * m.c.toNat + e : Nat)) : Int) = ((b : Int) * (s.x.lines.length : Int) + a) * m.c + e := by
   rw [Int.natCast_add, Int.natCast_mul, Int.natCast_add, Int.natCast_mul, Int.toNat_of_nonneg (by omega)]
  omega
 rw [hp]
 have h1 : b * s.x.lines.length + a < s.y.lines.length * s.x.lines.length := by
  have : (b + 1) * s.x.lines.length ≤ s.y.lines.length * s.x.lines.length := Nat.mul_le_mul_right _ (by omega)
  rw [Nat.add_mul, Nat.one_mul] at this
  omega
 have h2 : (b * s.x.lines.length + a) * m.c.toNat + e < s.y.lines.length * s.x.lines.length * m.c.toNat := by
  have : (b * s.x.lines.length + a + 1) * m.c.toNat ≤ s.y.lines.length * s.x.lines.length * m.c.toNat := Nat.mul_le_mul_right _ (by omega)
  rw [Nat.add_mul, Nat.one_mul] at this
  omega
 show ((List.range _).map _).getD _ 0 = _
 rw [List.getD_eq_getElem?_getD, List.getElem?_map, List.getElem?_range h2]
 exact pixL_at (by omega) (by omega)
theorem c_r15Apply {h : Heap} {Z Z' : Nat → Prop} {cs ds : List Value} {m : Pic} {s : Stg} (H : rPic.R Z h cs m) (W : m.Wf) (K : rStg.R Z' h ds s) (WS : s.Wf) (hf : fitsZ s.x.lines.length s.y.lines.length m.c) :
  FCall prog zho #[.agg cs.toArray, .agg ds.toArray] h fun r h' => ∃ es, r = .agg es.toArray ∧ rPic.R (Since h h') h' es (zoP m s) ∧ Ext h h' := by
 apply zoZ
 unfold zjs
 have H0 := H
 have K0 := K
 obtain ⟨u, rfl, Hu⟩ := H
 obtain ⟨X, Y, rfl, HX, HY⟩ := K
 simp only [zaG]
 refine zai fun b1 h1 r1 e1 n1 => zai fun b2 h2 r2 e2 n2 => zai fun b3 h3 r3 e3 n3 => ?_
 have r1 := (e2.trans e3).row r1
 have r2 := e3.row r2
 have E3 := e1.trans (e2.trans e3)
 obtain ⟨aX, cX, eX⟩ := HX.isSl
 have eX2 : zag X = some (.int .i64 (s.x.lines.length : Int)) := by rw [eX]; rfl
 obtain ⟨aY, cY, eY⟩ := HY.isSl
 have eY2 : zag Y = some (.int .i64 (s.y.lines.length : Int)) := by rw [eY]; rfl
 have k0 : zah h3 ⟨b2, 0, none⟩ = some X := zac r2
 have k1 : zah h3 ⟨b2, 1, none⟩ = some Y := zac r2
 have k2 : zah h3 ⟨b1, 2, none⟩ = some (.int .i64 m.c) := zac r1
 have k3 : zah h3 ⟨b1, 3, none⟩ = some (.int .i64 m.most) := zac r1
 simp only [go_sem, Nat.zero_add, k0, k1, k2, k3, eX2, eY2]
 have hfl : fillL #[(.int .i64 0), (.int .i64 0), (.int .i64 0), (.int .i64 0), (.slice none 0 0)] [(0, 1, .int .i64 (s.x.lines.length : Int)), (1, 1, .int .i64 (s.y.lines.length : Int)), (2, 1, .int .i64 m.c), (3, 1, .int .i64 m.most)] = some #[.int .i64 (s.x.lines.length : Int), .int .i64 (s.y.lines.length : Int), .int .i64 m.c, .int .i64 m.most, .slice none 0 0] := rfl
 rw [hfl, zaA, zaa]
 refine za1 (cs := [.int .i64 (s.x.lines.length : Int), .int .i64 (s.y.lines.length : Int), .int .i64 m.c, .int .i64 m.most, .slice none 0 0]) rfl (zad rfl (zad rfl (zad rfl (zad rfl (zad rfl zao))))) rfl fun b4 h4 r4 e4 n4 => ?_
 have r1' := r1
 have r2' := r2
 have k1 : zah h4 ⟨b2, 1, none⟩ = some Y := zac (e4.row r2)
 simp only [go_sem, Nat.zero_add, k1, eY2]
 have E4 := E3.trans e4
 have hb := zbs hf
 have E3' : Ext h h3 := E3
 obtain ⟨C, hC⟩ : ∃ C : Nat, m.c = (C : Int) := ⟨m.c.toNat, by omega⟩
 obtain ⟨Xn, hXn⟩ : ∃ Xn, Xn = s.x.lines.length := ⟨_, rfl⟩
 obtain ⟨Yn, hYn⟩ : ∃ Yn, Yn = s.y.lines.length := ⟨_, rfl⟩
 have hCn : m.c.toNat = C := by omega
 have htot : Yn * Xn * C ≤ 268435456 := by
  have h1 : ((Yn * Xn * C : Nat) : Int) = (Xn : Int) * (Yn : Int) * (C : Int) := by rw [Int.natCast_mul, Int.natCast_mul, Int.mul_comm (Yn : Int)]
  have := hb.2.2.2.2.2.2.2.2.2
  rw [← hXn, ← hYn, hC] at this
  omega
 have hpl : zoP m s = ⟨Xn, Yn, m.c, m.most, (List.range (Yn * Xn * C)).map fun i : Nat => pixL m s i⟩ := by unfold zoP; rw [← hXn, ← hYn, hCn]
 rw [← hXn, ← hYn, hC] at r4 hb
 rw [hC] at r1' H0
 rw [← hXn] at eX2
 rw [← hYn] at eY2
 rw [← hYn]
 -- what holds behind so many samples
 obtain ⟨I, hI⟩ : ∃ I : Nat → Value → Heap → Prop, I = fun N v h' => New rU h3 h' v ((List.range N).map fun i : Nat => pixL m s i) ∧ h'[b4]? = some (.cells #[.int .i64 (Xn : Int), .int .i64 (Yn : Int), .int .i64 (C : Int), .int .i64 m.most, v] 113 (0, 0)) ∧ ¬ blk v b4 := ⟨_, rfl⟩
 refine zaD (α := Value) Yn 0 (fun y _ => [.int .i64 (y : Int)]) (fun y v h' => I (y * Xn * C) v h') (.slice none 0 0) rfl (Nat.zero_le _)
  (by rw [hI, Nat.zero_mul, Nat.zero_mul]; exact ⟨New.nil e4, r4, fun hh => hh⟩) fun y v h5 again ρ1 _ hy HI Hag => ?_
 simp only [go_sem]
 refine zab (fun g1 => ?_) (fun g1 => ?_)
 ·have hy' : y < Yn := by omega
  have E5 : Ext h3 h5 := by rw [hI] at HI; exact HI.1.2.1
  have k0 : zah h5 ⟨b2, 0, none⟩ = some X := zac (E5.row r2')
  simp only [go_sem, Nat.zero_add, k0, eX2]
  refine zaD (α := Value) Xn 0 (fun x _ => [.int .i64 (x : Int)]) (fun x v h' => I ((y * Xn + x) * C) v h') v rfl (Nat.zero_le _)
   (by rw [Nat.add_zero]; exact HI) fun x v h6 again2 ρ2 _ hx HI6 Hag2 => ?_
  simp only [go_sem]
  refine zab (fun g2 => ?_) (fun g2 => ?_)
  ·have hx' : x < Xn := by omega
   have E6 : Ext h3 h6 := by rw [hI] at HI6; exact HI6.1.2.1
   have k2 : zah h6 ⟨b1, 2, none⟩ = some (.int .i64 (C : Int)) := zac (E6.row r1')
   simp only [go_sem, Nat.zero_add, k2]
   refine zaD (α := Value) C 0 (fun c _ => [.int .i64 (c : Int)]) (fun c v h' => I ((y * Xn + x) * C + c) v h') v rfl (Nat.zero_le _)
    (by rw [Nat.add_zero]; exact HI6) fun c v h7 again3 ρ3 _ hc HI7 Hag3 => ?_
   simp only [go_sem]
   refine zab (fun g3 => ?_) (fun g3 => ?_)
   ·have hc' : c < C := by omega
    rw [hI] at HI7
    obtain ⟨N7, r47, nb7⟩ := HI7
    have E7 := N7.2.1
    have E07 := E3'.trans E7
    have hlen : (y * Xn + x) * C + c < Yn * Xn * C := by
     have h1 : (y + 1) * Xn ≤ Yn * Xn := Nat.mul_le_mul_right _ (by omega)
     rw [Nat.add_mul, Nat.one_mul] at h1
     have h2 : (y * Xn + x + 1) * C ≤ Yn * Xn * C := Nat.mul_le_mul_right _ (by omega)
     rw [Nat.add_mul, Nat.one_mul] at h2
     omega
    refine zan (Ext h7) (Ext.refl _) ?_
    try simp only [go_sem, Nat.zero_add]
    refine zaf v (fun h' e => zac (e.row r47)) ?_
    refine zaf (.agg #[.int .i64 m.w, .int .i64 m.h, .int .i64 (C : Int), .int .i64 m.most, u]) (fun h' e => zav (l := [.int .i64 m.w, .int .i64 m.h, .int .i64 (C : Int), .int .i64 m.most, u]) ((E7.trans e).row r1') 5 rfl) ?_
    refine zaf (.agg #[X, Y, .int .i64 s.x.n, .int .i64 s.y.n, .int .i64 s.border]) (fun h' e => zav (l := [X, Y, .int .i64 s.x.n, .int .i64 s.y.n, .int .i64 s.border]) ((E7.trans e).row r2') 5 rfl) ?_
    try simp only [go_sem, Nat.zero_add]
    refine zaf (.int .i64 m.most) (fun h' e => zac ((E7.trans e).row r1')) ?_
    refine FCall.to (c_r15Sum (rPic.ext H0 E07) W (rStg.ext K0 E07) WS (x := x) (y := y) (by omega) (by omega)) fun h8 e8 => ?_
    refine ⟨e8, ?_⟩
    refine FCall.to (c_r15Round (zcN _)) fun h9 e9 => ?_
    have e89 := e8.trans e9
    refine ⟨e89, ?_⟩
    have hpx : zhU (IntKind.i64.wrap (totZ m s x y c)) m.most = pixL m s ((y * Xn + x) * C + c) := by
     have := pixL_at (m := m) (s := s) (x := x) (y := y) (c := c) (by omega) (by omega)
     rw [hCn, ← hXn] at this
     rw [this]; rfl
    rw [hpx]
    refine New.pushS (e := rU) (x := pixL m s ((y * Xn + x) * C + c)) rfl (N7.ext e89) rfl rfl (by rw [List.length_map, List.length_range]; omega) (by rw [List.length_map, List.length_range]; omega) (fun h' e => e89.trans e) fun v' h10 N10 f10 n10 => ?_
    have r410 := f10.row (e89.row r47) nb7
    refine zaO r410 (by simp) N10.sl.one fun h11 r11 u11 => ?_
    rw [w64 (by omega) (by omega)]
    have hb4 : h3.size ≤ b4 := n4
    have hnb : ¬ blk v' b4 := fun hv => by
     rcases n10 b4 hv with h | h
     ·exact nb7 h
     ·have := zay r47; have := e89.1; omega
    refine Hag3 v' h11 hc' ?_
    rw [hI]
    refine ⟨?_, r11, hnb⟩
    rw [show (y * Xn + x) * C + (c + 1) = (y * Xn + x) * C + c + 1 by omega, List.range_succ, List.map_append]
    exact N10.fr u11.fr (fun b hb => by rw [hb]; exact hb4) fun b hb he => hnb (he ▸ hb)
   ·have : c = C := by omega
    subst this
    rw [w64 (by omega) (by omega)]
    refine Hag2 v h7 hx' ?_
    rw [show (y * Xn + (x + 1)) * c = (y * Xn + x) * c + c by rw [← Nat.add_assoc, Nat.add_mul (y * Xn + x) 1, Nat.one_mul]]
    exact HI7
  ·have : x = Xn := by omega
   subst this
   rw [w64 (by omega) (by omega)]
   refine Hag v h6 hy' ?_
   rw [show (y + 1) * x = y * x + x by rw [Nat.add_mul, Nat.one_mul]]
   exact HI6
 ·have : y = Yn := by omega
  subst this
  rw [hI] at HI
  obtain ⟨N5, r45, nb5⟩ := HI
  rw [zav (l := [.int .i64 (Xn : Int), .int .i64 (y : Int), .int .i64 (C : Int), .int .i64 m.most, v]) r45 5 rfl, zaa]
  have r35 := N5.2.1.row r3
  refine zb9 (l := [.int .i64 (Xn : Int), .int .i64 (y : Int), .int .i64 (C : Int), .int .i64 m.most, v]) r35 rfl (zad rfl (zad rfl (zad rfl (zad rfl (zad N5.sl.one zao))))) rfl fun h6 r6 u6 => ?_
  rw [zav r6 5 rfl, zaa]
  refine ⟨_, rfl, ⟨v, by rw [hpl]; show _ = [Value.int .i64 (Xn : Int), .int .i64 (y : Int), .int .i64 m.c, .int .i64 m.most, v]; rw [hC], ?_⟩, (E3'.trans N5.2.1).upd (Nat.le_trans (e1.trans e2).1 n3) u6⟩
  rw [hpl]
  have hb3 : b3 < h3.size := zay r3
  refine (N5.sl.fr u6.fr fun c _ hc he => ?_).mono fun c hc hv => ⟨Nat.le_trans E3'.1 (N5.2.2 c hv), hc⟩
  have := N5.2.2 c hc
  omega
end Go.Proofs.YtdbebmafgpdfhaaGreatDoor
namespace Go.Crisp
open Go
def OwnO (w : Nat) (h : Heap) (v : Value) (n : Nat) (cs : List Value) : Prop :=
 (v = .slice none 0 0 ∧ n = 0 ∧ cs = []) ∨ ∃ b cap p r e, v = .slice (some ⟨b, p.length, none⟩) n cap ∧ n ≤ cap ∧ cs.length = n * w ∧ (cs ++ r).length = cap * w ∧ h[b]? = some (.cells (p ++ (cs ++ r)).toArray e (0, 0))
theorem Own.o {w : Nat} {h : Heap} {v : Value} {n : Nat} {cs : List Value} (H : Own w h v n cs) : OwnO w h v n cs := by
 rcases H with H | ⟨b, cap, r, e, rfl, h1, h2, h3, h4⟩
 ·exact .inl H
 ·exact .inr ⟨b, cap, [], r, e, rfl, h1, h2, h3, h4⟩
theorem OwnO.sl {w : Nat} {h : Heap} {v : Value} {n : Nat} {cs : List Value} (H : OwnO w h v n cs) : SlC w h v n cs := by
 rcases H with ⟨rfl, rfl, rfl⟩ | ⟨b, cap, p, r, e, rfl, hc, hl, _, hb⟩
 ·exact ⟨by simp, none, 0, rfl, .inl rfl⟩
 ·refine ⟨hl, _, cap, rfl, .inr ⟨b, p.length, rfl, fun j hj => ?_⟩⟩
  rw [zac hb]
  simp only [List.getElem?_toArray]
  rw [List.getElem?_append_right (Nat.le_add_right _ _), Nat.add_sub_cancel_left, List.getElem?_append_left hj]
  simp [hj]
theorem OwnO.tail {w : Nat} {h : Heap} {v x : Value} {n : Nat} {cs ds : List Value} (H : OwnO w h v (n + 1) (ds ++ cs)) (hd : ds.length = w) (hn : 0 < n) {k : IntKind} :
  ∃ v', slcV w v (some (.int k 1)) none = some v' ∧ OwnO w h v' n cs ∧ ∀ b, blk v' b → blk v b := by
 rcases H with ⟨_, h0, _⟩ | ⟨b, cap, p, r, e, rfl, hc, hl, hr, hb⟩
 ·cases h0
 ·have hne : ¬ cap = 1 := by omega
  refine ⟨.slice (some ⟨b, p.length + w, none⟩) n (cap - 1), ?_, .inr ⟨b, cap - 1, p ++ ds, r, e, by rw [List.length_append, hd], by omega, ?_, ?_, ?_⟩, fun c hc => hc⟩
  ·have e0 : bdV (some (Value.int k 1)) 0 (n + 1) = some 1 := zmg k 1 0 (n + 1) (by omega)
   simp only [slcV, bdV, e0, if_neg hne, Option.map_some, zfL, Nat.one_mul, Nat.add_sub_cancel]
   rw [if_pos (by omega)]
   simp [hne]
  ·rw [List.length_append, hd, Nat.add_mul, Nat.one_mul] at hl; omega
  ·simp only [List.length_append] at hr ⊢
   rw [hd] at hr
   have : cap * w = (cap - 1) * w + w := by rw [← Nat.succ_mul]; congr 1; omega
   omega
  ·rw [hb]; simp
def OwO (k : IntKind) (h : Heap) (v : Value) (l : List Int) : Prop := OwnO 1 h v l.length (l.map fun x => Value.int k x)
theorem OwO.sl {k : IntKind} {h : Heap} {v : Value} {l : List Int} (H : OwO k h v l) : Rp.Sl (Rp.int k) (blk v) h v l := by
 have s := OwnO.sl H
 refine ⟨_, s, fun _ b hb => hb, fun i hi => ?_⟩
 show Rp.el 1 (l.map fun x => Value.int k x) i = [Value.int k l[i]]
 rw [Rp.el_one (by simpa using hi)]
 simp
theorem OwO.tail {k k' : IntKind} {h : Heap} {v : Value} {x : Int} {l : List Int} (H : OwO k h v (x :: l)) (hn : 0 < l.length) :
  ∃ v', slcV 1 v (some (.int k' 1)) none = some v' ∧ OwO k h v' l ∧ ∀ b, blk v' b → blk v b :=
 OwnO.tail (x := v) (ds := [.int k x]) H rfl hn
end Go.Crisp
namespace Go.Proofs.YtdbebmafgpdfhaaGreatDoor
open Go Go.Crisp
attribute [local irreducible] FCall rowK newK stK iteK vK qK drawK gK joinK loopK mkK appK cpyK zni zla bsK clK zhc zfF newmK
open _root_.Go.Proofs.Tryz
theorem move_eq (a b c d : Int) : binV (.st [(0, 1, .i), (1, 1, .i)]) .eql (moveV a b) (moveV c d) = some (.bool (decide (a = c ∧ b = d))) := by
 have e1 : (a == c) = decide (a = c) := rfl
 have e2 : (b == d) = decide (b = d) := rfl
 simp only [binV, eqV, seEqL, seEq, seAgg, cond_false, List.getElem?_toArray, List.getElem?_cons_zero, List.getElem?_cons_succ, if_true, e1, e2]
 by_cases h : a = c <;> by_cases h2 : b = d <;> simp [h, h2]
theorem move_ne (a b c d : Int) : binV (.st [(0, 1, .i), (1, 1, .i)]) .neq (moveV a b) (moveV c d) = some (.bool (!decide (a = c ∧ b = d))) := by
 have e1 : (a == c) = decide (a = c) := rfl
 have e2 : (b == d) = decide (b = d) := rfl
 simp only [binV, eqV, seEqL, seEq, seAgg, cond_false, List.getElem?_toArray, List.getElem?_cons_zero, List.getElem?_cons_succ, if_true, e1, e2]
 by_cases h : a = c <;> by_cases h2 : b = d <;> simp [h, h2]
structure Setup (Z : Nat → Prop) (h : Heap) (bf : Nat) (vf : Value) (bt : Nat) (vt p q : Value) (m n : Pic) (s : Stg) : Prop where
 src : IsImg h bf vf m
 out : IsImg h bt vt n
 ne : bf ≠ bt
 tx : IsTbl Z h p s.x
 ty : IsTbl Z h q s.y
 zf : Z bf ∧ ∀ c, blk vf c → Z c
 zz : ∀ c, Z c → ¬ blk vt c
 zb : ∀ c, Z c → c ≠ bt
 zl : ∀ c, Z c → c < h.size
theorem Setup.ext {Z : Nat → Prop} {h h' : Heap} {bf : Nat} {vf : Value} {bt : Nat} {vt p q : Value} {m n : Pic} {s : Stg} (S : Setup Z h bf vf bt vt p q m n s) (e : Ext h h') : Setup Z h' bf vf bt vt p q m n s :=
 ⟨S.src.ext e, S.out.ext e, S.ne, S.tx.ext e, S.ty.ext e, S.zf, S.zz, S.zb, fun c hc => Nat.lt_of_lt_of_le (S.zl c hc) e.1⟩
theorem Setup.chg {Z Q : Nat → Prop} {h h' : Heap} {bf : Nat} {vf : Value} {bt : Nat} {vt p q : Value} {m n n' : Pic} {s : Stg} (S : Setup Z h bf vf bt vt p q m n s) (f : Fr Q h h') (qz : ∀ c, Z c → ¬ Q c) (I : IsImg h' bt vt n') : Setup Z h' bf vf bt vt p q m n' s :=
 ⟨S.src.fr f (qz _ S.zf.1) fun c hc => qz _ (S.zf.2 c hc), I, S.ne, S.tx.fr f fun c _ hz => qz c hz, S.ty.fr f fun c _ hz => qz c hz, S.zf, S.zz, S.zb, fun c hc => Nat.lt_of_lt_of_le (S.zl c hc) f.1⟩
theorem Setup.mk3 {h0 h1 h2 : Heap} {bf : Nat} {vf : Value} {pn p q : Value} {m n : Pic} {s : Stg} (I : IsImg h1 bf vf m) (nb : h0.size ≤ bf) (nv : ∀ c, blk vf c → h0.size ≤ c) (tx : IsTbl (Since h0 h1) h1 p s.x) (ty : IsTbl (Since h0 h1) h1 q s.y) (N : zlH h1 h2 pn n) :
  ∃ bt vt, pn = ptr bt ∧ Setup (Since h0 h1) h2 bf vf bt vt p q m n s ∧ h1.size ≤ bt ∧ (∀ c, blk vt c → h1.size ≤ c) ∧ Ext h1 h2 := by
 obtain ⟨bt, vt, rfl, O, mb, mv, E⟩ := N
 have l := I.lt
 exact ⟨bt, vt, rfl, ⟨I.ext E, O, by omega, tx.ext E, ty.ext E, ⟨⟨nb, l⟩, fun c hc => ⟨nv c hc, I.ltv hc⟩⟩, fun c hc hv => by have := hc.2; have := mv c hv; omega, fun c hc he => by have := hc.2; omega, fun c hc => Nat.lt_of_lt_of_le hc.2 E.1⟩, mb, mv, E⟩
theorem c_wNewS {Z : Nat → Prop} {h : Heap} (G : GlobB h) {bf : Nat} {vf : Value} {bt : Nat} {vt p q : Value} {m n : Pic} {s : Stg} {t : TileD} (S : Setup Z h bf vf bt vt p q m n s) (W : m.Wf) (WO : n.Wf) (WS : s.Wf) :
  FCall prog zdu #[ptr bf, ptr bt, .agg #[p, q, .int .i64 s.border], .agg (tileC t).toArray] h (WNew Z h bf vf bt vt p q m n s t) :=
 c_wNew G S.src S.out S.ne W WO S.tx S.ty WS S.zf S.zz S.zl
def pic17 : Pic := imgN 3 1 1 255
def op17 : OpD := ⟨1, 0, 0, 1, [], [], 0, 0, 0⟩
def zb2 : TileD := ⟨0, 0, 0, 3, 1, 0, 0, 0, 0, 0⟩
theorem c_l17Lives {h : Heap} (G : GlobB h) : FCall prog zhv #[] h fun r h' => r = .bool true ∧ Ext h h' := by
 apply zpa
 unfold zjD
 have a0 : imgC 3 1 1 255 = 0 := by decide +kernel
 refine zi4.mono fun r h1 ⟨pp, e, e1, _, s1⟩ => ?_
 subst e
 obtain ⟨bm, vm, rfl, I, nbm, nvm, _⟩ := s1 a0
 have I : IsImg h1 bm vm pic17 := I
 have W : pic17.Wf := zl5 a0
 rw [a0]
 simp only [go_sem]
 have hf : (fillL #[(.int .i64 0), (.int .i64 0), (.int .i64 0), (.int .i64 0), (.slice none 0 0), (.slice none 0 0), (.int .i64 0), (.int .i64 0), (.int .i64 0)] [(0, 1, (.int .i64 1)), (3, 1, (.int .i64 1))]) = some #[.int .i64 1, .int .i64 0, .int .i64 0, .int .i64 1, .slice none 0 0, .slice none 0 0, .int .i64 0, .int .i64 0, .int .i64 0] := rfl
 rw [hf, zaA, zaa]
 have wf : op17.Wf := zng (by simp [I64])
 refine (c_Make (Z := fun _ => True) (o := op17) (G.ext e1) znh wf (by simp [op17]) (by simp [op17]) (by unfold I64; omega) (by unfold I64; omega)).mono fun w h2 ⟨sv, e, e2, _, s2⟩ => ?_
 subst e
 have a1 : makeC op17 3 1 = 0 := by decide +kernel
 have HS := s2 a1
 rw [a1]
 obtain ⟨p, q, rfl, hp, hq, ones⟩ := zdB HS
 simp only [go_sem]
 refine za1 (cs := [p, q, .int .i64 _]) rfl ones rfl fun b3 h3 r3 e3 n3 => ?_
 refine zi4.mono fun r h4 ⟨pp, e, e4, _, s4⟩ => ?_
 subst e
 have N4 := s4 a0
 rw [a0]
 have E13 := e2.trans e3
 have up : ∀ c, c < h2.size → Since h1 h2 c → Since h h3 c := fun c hc hz => ⟨Nat.le_trans e1.1 hz.1, Nat.lt_of_lt_of_le hz.2 e3.1⟩
 obtain ⟨bn, vn, rfl, S, nbn, nvn, _⟩ := Setup.mk3 (h0 := h) (I.ext E13) nbm nvm ((hp.mono up).ext e3) ((hq.mono up).ext e3) N4
 simp only [go_sem]
 have E4 := e1.trans (E13.trans e4)
 refine FCall.to (c_l14Lives (G.ext E4)) fun h5 e5 => ?_
 simp only [go_sem]
 refine FCall.to (c_l15Lives (G.ext (E4.trans e5))) fun h6 e6 => ?_
 have E6 := E4.trans (e5.trans e6)
 simp only [go_sem, eqT]
 rw [zav (l := [p, q, .int .i64 _]) ((e4.trans (e5.trans e6)).row r3) 3 rfl, zaa]
 have hf4 : fillL #[(.int .i64 0), (.int .i64 0), (.int .i64 0), (.int .i64 0)] [(2, 1, (.int .i64 3)), (3, 1, (.int .i64 1))] = some #[.int .i64 0, .int .i64 0, .int .i64 3, .int .i64 1] := rfl
 have hf10 : fillL #[(.int .i64 0), (.int .i64 0), (.int .i64 0), (.int .i64 0), (.int .i64 0), (.int .i64 0), (.int .i64 0), (.int .i64 0), (.int .i64 0), (.int .i64 0)] [(1, 4, .agg #[.int .i64 0, .int .i64 0, .int .i64 3, .int .i64 1])] = some (tileC zb2).toArray := rfl
 rw [hf4, zaA, zaa, hf10, zaA, zaa]
 have hN : (imgN 3 1 1 255).Wf := zl5 a0
 have hcc : wnewC pic17 (imgN 3 1 1 255) (makeS op17 3 1) zb2 = 0 := by decide +kernel
 refine (c_wNewS (G.ext E6) (S.ext (e5.trans e6)) W hN (zi0 a1).1).mono fun r h7 ⟨e7, v, er, _, s7⟩ => ?_
 subst er
 obtain ⟨bj, rv, rfl, J⟩ := s7 hcc
 rw [hcc]
 simp only [go_sem, eqT, ptr_en]
 have OK : StgOk (makeS op17 3 1) := makeS_ok a1 (by omega) (by decide +kernel)
 have R := OK.room (m := pic17) (n := imgN 3 1 1 255) (t := zb2) W hcc
 have WJ := job_wf (t := zb2) W OK.wf hcc
 -- the steps, one behind the other
 have f1 : stepK ⟨pic17, makeS op17 3 1, zb2⟩ 0 (-1) = 1 ∧ stepJ ⟨pic17, makeS op17 3 1, zb2⟩ 0 (-1) = -1 ∧ stepY ⟨pic17, makeS op17 3 1, zb2⟩ 0 (-1) = 0 ∧ stepE ⟨pic17, makeS op17 3 1, zb2⟩ 0 (-1) = 0 := by decide +kernel
 have f2 : stepK ⟨pic17, makeS op17 3 1, zb2⟩ 0 0 = 1 ∧ stepJ ⟨pic17, makeS op17 3 1, zb2⟩ 0 0 = 0 ∧ stepY ⟨pic17, makeS op17 3 1, zb2⟩ 0 0 = 0 ∧ stepE ⟨pic17, makeS op17 3 1, zb2⟩ 0 0 = 1 := by decide +kernel
 have f3 : stepK ⟨pic17, makeS op17 3 1, zb2⟩ 0 1 = 1 ∧ stepJ ⟨pic17, makeS op17 3 1, zb2⟩ 0 1 = 1 ∧ stepY ⟨pic17, makeS op17 3 1, zb2⟩ 0 1 = 0 ∧ stepE ⟨pic17, makeS op17 3 1, zb2⟩ 0 1 = 2 := by decide +kernel
 have f4 : stepK ⟨pic17, makeS op17 3 1, zb2⟩ 0 2 = 2 ∧ stepJ ⟨pic17, makeS op17 3 1, zb2⟩ 0 2 = 0 ∧ stepY ⟨pic17, makeS op17 3 1, zb2⟩ 0 2 = 1 := by decide +kernel
 have f5 : ∀ e, stepK ⟨pic17, makeS op17 3 1, zb2⟩ 1 e = 0 ∧ stepJ ⟨pic17, makeS op17 3 1, zb2⟩ 1 e = 0 := fun e => by
  have : zb2.y + zb2.h ≤ 1 := by decide
  unfold stepK stepJ
  exact ⟨if_pos this, if_pos this⟩
 have hF : lnF (makeS op17 3 1).y zb2.y = -1 := by decide +kernel
 rw [hF] at J
 have J : JobSt (Since h h3) (Grow (fun _ => False) h6 h7) h7 bj bm vm bn vn p q rv ⟨pic17, makeS op17 3 1, zb2⟩ 0 (-1) (imgN 3 1 1 255) (roomN (mostL (makeS op17 3 1).y.lines)) (zcy (zb2.w * pic17.c)) := J
 generalize hD : (⟨pic17, makeS op17 3 1, zb2⟩ : JobD) = D at *
 generalize roomN (mostL (makeS op17 3 1).y.lines) = room at *
 generalize zcy (zb2.w * pic17.c) = w at *
 have hB : ∀ c, Grow (fun _ => False) h6 h7 c → h.size ≤ c := fun c hc => by
  rcases hc with hc | hc
  ·exact hc.elim
  ·have := E6.1; omega
 have hbn : ∀ c, blk vn c → h.size ≤ c := fun c hc => by have := nvn c hc; have := e1.1; have := E13.1; omega
 -- from step to step all that was is as it was
 have ExE : ∀ {h' h'' : Heap} {B : Nat → Prop}, Ext h h' → (∀ c, B c → h.size ≤ c) → Fr (fun c => blk vn c ∨ B c) h' h'' → Ext h h'' := fun E hB f => E.then_fr f fun c hc => by
  rcases hc with hc | hc
  ·exact hbn c hc
  ·exact hB c hc
 have GrB : ∀ {h' h'' : Heap} {B : Nat → Prop}, Ext h h' → (∀ c, B c → h.size ≤ c) → ∀ c, Grow B h' h'' c → h.size ≤ c := fun E hB c hc => by
  rcases hc with hc | hc
  ·exact hB c hc
  ·have := E.1; omega
 have hfm : ∀ a b : Int, fillL #[(.int .i64 0), (.int .i64 0)] [(0, 1, (.int .i64 a)), (1, 1, .int .i64 b)] = some #[.int .i64 a, .int .i64 b] := fun _ _ => rfl
 have hfm1 : ∀ a : Int, fillL #[(.int .i64 0), (.int .i64 0)] [(0, 1, (.int .i64 a))] = some #[.int .i64 a, .int .i64 0] := fun _ => rfl
 have E7 := E6.trans e7
 refine zbl (fun k xs h' => ∃ e B n', xs = [.int .i64 e] ∧ (k : Int) = 2 - e ∧ -1 ≤ e ∧ Ext h h' ∧ (∀ c, B c → h.size ≤ c) ∧ JobSt (Since h h3) B h' bj bm vm bn vn p q rv D 0 e n' room w) 3
  ⟨-1, _, _, rfl, by omega, by omega, E7, hB, J⟩ fun k xs ρ1 h8 again ⟨e, B, n', ex, hk, he, E8, hB8, J8⟩ Hag => ?_
 subst ex
 simp only [go_sem]
 refine zab (fun g1 => ?_) (fun g1 => ?_)
 ·refine (c_Step J8 WJ R).mono fun r h9 ⟨er, n9, J9, fr9, _⟩ => ?_
  subst er
  have hs : stepK D 0 e = 1 ∧ stepJ D 0 e = e ∧ stepY D 0 e = 0 ∧ stepE D 0 e = e + 1 := by
   have : e = -1 ∨ e = 0 ∨ e = 1 := by omega
   rcases this with rfl | rfl | rfl
   ·exact f1
   ·exact f2
   ·exact f3
  rw [hs.1, hs.2.1] at *
  rw [hs.2.2.1, hs.2.2.2] at J9
  rw [hfm, zaA, zaa, move_ne]
  simp only [go_sem, eqT, and_self]
  rw [w64 (by omega) (by omega)]
  exact Hag _ _ (k - 1) (by omega) ⟨e + 1, _, n9, rfl, by omega, by omega, ExE E8 hB8 fr9, GrB E8 hB8, J9⟩
 ·have he2 : e = 2 := by omega
  subst he2
  refine (c_Step J8 WJ R).mono fun r h9 ⟨er, n9, J9, fr9, _⟩ => ?_
  subst er
  rw [f4.2.2] at J9
  rw [f4.1, f4.2.1, hfm1, zaA, zaa, move_eq]
  simp only [go_sem, eqT, and_self]
  refine (c_Step J9 WJ R).mono fun r h10 ⟨er, n10, J10, fr10, _⟩ => ?_
  subst er
  rw [(f5 _).1, (f5 _).2]
  have hf0 : fillL #[(.int .i64 0), (.int .i64 0)] [] = some #[.int .i64 0, .int .i64 0] := rfl
  simp only [go_sem, hf0, zaA, move_eq, eqT, and_self]
  exact ⟨by simp, ExE (ExE E8 hB8 fr9) (GrB E8 hB8) fr10⟩
end Go.Proofs.YtdbebmafgpdfhaaGreatDoor
namespace Go.Proofs.YtdbebmafgpdfhaaGreatDoor
open Go Go.Crisp
attribute [local irreducible] FCall rowK newK stK iteK vK qK drawK gK joinK loopK mkK appK cpyK zni zla bsK clK zhc zfF newmK
section
def B8 (n : Int) : Prop := 0 ≤ n ∧ n ≤ 255
def bgS (a : PicA) (o : OpD) : Stg := makeS o (drawA a).w (drawA a).h
def bgN (a : PicA) (o : OpD) : Pic := imgN (bgS a o).x.lines.length (bgS a o).y.lines.length (drawA a).c (drawA a).most
structure BgOk (a : PicA) (o : OpD) : Prop where
 little : ¬ zeF 12 o
 made : makeC o (drawA a).w (drawA a).h = 0
 fit : fitsZ (bgS a o).x.lines.length (bgS a o).y.lines.length (drawA a).c
 sx : 1 ≤ (bgS a o).x.lines.length ∧ (bgS a o).x.lines.length ≤ 12
 sy : 1 ≤ (bgS a o).y.lines.length ∧ (bgS a o).y.lines.length ≤ 12
theorem bg_ok {a : PicA} {o : OpD} (hl : zgW 12 [o]) (hc : opsC [o] (drawA a).w (drawA a).h (drawA a).c = 0) : BgOk a o := by
 have h1 : ¬ zeF 12 o := hl o (by simp)
 have hw := zj9 a
 unfold opsC at hc
 rw [if_neg (by simp)] at hc
 have hf : fitsZ (drawA a).w (drawA a).h (drawA a).c := (zi2 a).fits
 rw [if_neg (by simpa using hf)] at hc
 unfold allC at hc
 by_cases hm : makeC o (drawA a).w (drawA a).h = 0
 ·rw [if_neg (by simpa using hm)] at hc
  have hlen := zol hm
  by_cases hf2 : fitsZ (sizeW o (drawA a).w) (sizeH o (drawA a).h) (drawA a).c
  ·have hb := zbs hf2
   have ⟨b1, b2⟩ : sizeW o (drawA a).w ≤ 12 ∧ sizeH o (drawA a).h ≤ 12 := by
    unfold sizeW sizeH at hb ⊢
    unfold zeF at h1
    split <;> rename_i hk
    ·rw [if_pos hk, if_pos hk] at hb
     omega
    ·omega
   refine ⟨h1, hm, ?_, ?_, ?_⟩
   ·unfold bgS; rw [hlen.1, hlen.2]; exact hf2
   ·unfold bgS; omega
   ·unfold bgS; omega
  ·rw [if_pos hf2] at hc; cases hc
 ·rw [if_pos hm] at hc; exact absurd hc hm
section
variable {a : PicA} {o : OpD}
theorem BgOk.stg (H : BgOk a o) : StgOk (bgS a o) := makeS_ok H.made (by have := zj9 a; omega) (by have := (zol H.made).1; have := H.sx; unfold bgS at this; omega)
theorem BgOk.suits (H : BgOk a o) : zd4 (drawA a) (bgN a o) (bgS a o) := ⟨zok H.made, rfl, rfl, rfl, rfl⟩
theorem BgOk.imgc (H : BgOk a o) : imgC (bgS a o).x.lines.length (bgS a o).y.lines.length (drawA a).c (drawA a).most = 0 := ziC.2 ⟨H.fit, (zi2 a).m1, (zi2 a).m2⟩
theorem BgOk.nwf (H : BgOk a o) : (bgN a o).Wf := zl5 H.imgc
end
end
section
structure Args17 (h : Heap) (cs os : List Value) (a : PicA) (o : OpD) : Prop where
 pic : ∃ Z, rPicA.R Z h cs a
 wa : a.Wf
 op : ∃ Z, rOp.R Z h os o
 wo : OpsWf [o]
theorem most_ge1 {ls : List (Int × List Int)} {x : Int × List Int} (hx : x ∈ ls) (h1 : 1 ≤ x.2.length) : 1 ≤ mostL ls := by
 have := (zq8 ls 0).2 x hx
 unfold mostL
 omega
theorem makeS_most1 {o : OpD} {w h : Int} (hc : makeC o w h = 0) (hy : 1 ≤ (makeS o w h).y.lines.length) : 1 ≤ mostL (makeS o w h).y.lines := by
 have ht : zcz o w h = 0 := by
  unfold makeC at hc
  split at hc
  ·cases hc
  ·exact hc
 have hy : 1 ≤ (zbP o h).lines.length := hy
 show 1 ≤ mostL (zbP o h).lines
 unfold zcz at ht
 by_cases hk : o.kind = 3
 ·rw [if_pos hk] at ht
  have e : zbP o h = zbG o.filter h o.hh := by unfold zbP; rw [if_pos hk]
  by_cases h1 : zbd o.filter w o.w = 0
  ·rw [if_neg (by simpa using h1)] at ht
   have hn0 : ¬ (¬ (0 ≤ o.filter ∧ o.filter < 3) ∨ ¬ zaq h ∨ ¬ zaq o.hh) := fun hh => by unfold zbd at ht; rw [if_pos hh] at ht; cases ht
   have hz := ht
   unfold zbd at hz
   rw [if_neg hn0] at hz
   have hf : 0 ≤ o.filter ∧ o.filter < 3 := Decidable.of_not_not fun h => hn0 (.inl h)
   have hn : zaq h := Decidable.of_not_not fun h => hn0 (.inr (.inl h))
   have hm : zaq o.hh := Decidable.of_not_not fun h => hn0 (.inr (.inr h))
   unfold zaq at hn hm
   have h2 := ze1 hz 0 (by omega)
   have hmay : mayR o.filter h o.hh (0 : Nat) := ⟨hf.1, hf.2, hn.1, hn.2, hm.1, hm.2, by omega, by omega⟩
   have hmem : (zbn o.filter h o.hh (0 : Nat), zaF (za6 o.filter h o.hh (0 : Nat))) ∈ (zbG o.filter h o.hh).lines := List.mem_map.2 ⟨0, List.mem_range.2 (by omega), rfl⟩
   rw [e]
   refine most_ge1 hmem ?_
   show 1 ≤ (zaF (za6 o.filter h o.hh (0 : Nat))).length
   rw [zgX h2]
   unfold za6
   rw [if_pos hmay]
   unfold rowW
   rw [List.length_map, List.length_range]
   have := zql hmay
   omega
  ·rw [if_pos h1] at ht
   exact absurd ht h1
 ·rw [if_neg hk] at ht
  have e : zbP o h = zdi (zaM o) h := by unfold zbP; rw [if_neg hk]
  have hf : zcG (zaM o) h = 0 := by
   split at ht
   ·exact absurd ht (by assumption)
   ·split at ht
    ·exact absurd ht (by assumption)
    ·exact ht
  unfold zcG at hf
  split at hf
  ·cases hf
  ·split at hf
   ·cases hf
   ·rename_i h1 h2
    have h3 : zaq h := Decidable.of_not_not h1
    unfold zaq at h3
    have hmem : (((0 : Nat) : Int) - ((zaM o).length / 2 : Nat), zaF (zaM o)) ∈ (zdi (zaM o) h).lines := List.mem_map.2 ⟨0, List.mem_range.2 (by omega), rfl⟩
    rw [e]
    refine most_ge1 hmem ?_
    show 1 ≤ (zaF (zaM o)).length
    rw [zgX hf]
    omega
theorem BgOk.most1 {a : PicA} {o : OpD} (H : BgOk a o) : 1 ≤ mostL (bgS a o).y.lines := makeS_most1 H.made H.sy.1
structure JobGo (hL : Heap) (B0 Q : Nat → Prop) (Z : Nat → Prop) (h : Heap) (bj bf : Nat) (vf : Value) (bt : Nat) (vt p q rv : Value) (d : JobD) (y e : Int) (n : Pic) (room w : Nat) : Prop where
 st : ∃ B, JobSt Z B h bj bf vf bt vt p q rv d y e n room w ∧ ∀ c, c < hL.size → B c → B0 c
 fr : Fr (fun c => (blk vt c ∨ B0 c) ∨ Q c) hL h
def GoFr (vt : Value) (B Q : Nat → Prop) (h h' : Heap) : Prop := Fr (fun c => (blk vt c ∨ B c) ∨ Q c) h h'
theorem GoFr.row {vt : Value} {B Q : Nat → Prop} {h h' : Heap} (e : GoFr vt B Q h h') {b : Nat} {o : Obj} (r : h[b]? = some o) (hn : ¬ ((blk vt b ∨ B b) ∨ Q b)) : h'[b]? = some o := Go.Crisp.Fr.row e r hn
section
variable {hL : Heap} {B0 Q : Nat → Prop} {Z : Nat → Prop} {h : Heap} {bj bf : Nat} {vf : Value} {bt : Nat} {vt p q rv : Value} {d : JobD} {y e : Int} {n : Pic} {room w : Nat}
theorem JobGo.row {b : Nat} {ob : Obj} (J : JobGo hL B0 Q Z h bj bf vf bt vt p q rv d y e n room w) (r : hL[b]? = some ob) (hv : ¬ blk vt b) (hB : ¬ B0 b) (hQ : ¬ Q b) : h[b]? = some ob := J.fr.row r fun hh => hh.elim (fun hh => hh.elim hv hB) hQ
theorem JobGo.out (J : JobGo hL B0 Q Z h bj bf vf bt vt p q rv d y e n room w) : OutOk d n ∧ IsImg h bt vt n ∧ IsImg h bf vf d.m := by
 obtain ⟨⟨B, S, hb⟩, f⟩ := J
 exact ⟨S.out, S.img, S.src⟩
end
theorem WNew.go {Z : Nat → Prop} {h : Heap} {bf : Nat} {vf : Value} {bt : Nat} {vt p q : Value} {m n : Pic} {s : Stg} {t : TileD} {r : Value} {h' : Heap} (H : WNew Z h bf vf bt vt p q m n s t r h') (hc : wnewC m n s t = 0) :
  ∃ bj rv, r = .tuple #[ptr bj, .int .i64 0] ∧ Ext h h' ∧ JobSt Z (Grow (fun _ => False) h h') h' bj bf vf bt vt p q rv ⟨m, s, t⟩ t.y (lnF s.y t.y) n (roomN (mostL s.y.lines)) (zcy (t.w * m.c)) := by
 obtain ⟨e, v, er, _, H⟩ := H
 obtain ⟨bj, rv, rfl, J⟩ := H hc
 exact ⟨bj, rv, by rw [er, hc], e, J⟩
end
end Go.Proofs.YtdbebmafgpdfhaaGreatDoor
namespace Go.Proofs.YtdbebmafgpdfhaaGreatDoor
open Go Go.Crisp
theorem args17_rd {h : Heap} {ts : List TS} {args : Array Value} (R : zfX (.st tPic :: .st tOp :: ts) h args.toList) : ∃ cs os a o r, args.toList = .agg (List.toArray cs) :: .agg (List.toArray os) :: r ∧ Args17 h cs os a o ∧ zfX ts h r := by
 obtain ⟨v, r, hr, ⟨x, c, rfl, hx⟩, u, r', hr', ⟨y, d, rfl, hy⟩, h0⟩ := R
 have hx : Rd tPic h c.toList x := hx
 have hy : Rd tOp h d.toList y := hy
 obtain ⟨h1, h2⟩ := pic_rd hx
 refine ⟨c.toList, d.toList, picOf x, opOf y, r', by rw [hr, hr', Array.toArray_toList, Array.toArray_toList], ⟨⟨_, h1⟩, h2, ⟨_, (op_rd hy).1⟩, ops1_wf hy⟩, h0⟩
theorem u8_rd {h : Heap} {ts : List TS} {l : List Value} (R : zfX (.int .u8 :: ts) h l) : ∃ n r, l = .int .u8 n :: r ∧ B8 n ∧ zfX ts h r := by
 obtain ⟨v, r, hr, ⟨x, hx1, hx2⟩, h0⟩ := R
 obtain rfl : v = .int .u8 x := by simpa using hx1
 exact ⟨x, r, hr, u8_wf hx2, h0⟩
theorem bool_rd {h : Heap} {ts : List TS} {l : List Value} (R : zfX (.bool :: ts) h l) : ∃ b r, l = .bool b :: r ∧ zfX ts h r := by
 obtain ⟨v, r, hr, ⟨x, hx1⟩, h0⟩ := R
 have hx1 : [v] = [Value.bool x] := hx1
 obtain rfl : v = .bool x := by simpa using hx1
 exact ⟨x, r, hr, h0⟩
end Go.Proofs.YtdbebmafgpdfhaaGreatDoor
namespace Go.Proofs.YtdbebmafgpdfhaaGreatDoor
open Go Go.Crisp
open _root_.Go.Proofs.Tryz
def zoU : Go.Shelf.Ren := ⟨fun n => match n with | 23 => 84 | n => n, fun n => match n with | 0 => 0 | 3 => 3 | 4 => 4 | 22 => 22 | n => n, fun n => n⟩
theorem lay_Delete : Go.Proofs.Lays2.n23 prog zoU where
 mixed := by kernel_rfl
 f23 := by kernel_rfl
 t0 := by kernel_rfl
 a0 := fun w => zaE (by kernel_rfl)
 z0 := fun w => zap (by kernel_rfl)
 v0 := fun w => zam (by kernel_rfl)
 t3 := by kernel_rfl
 a3 := fun w => zaE (by kernel_rfl)
 z3 := fun w => zap (by kernel_rfl)
 v3 := fun w => zam (by kernel_rfl)
 t4 := by kernel_rfl
 a4 := fun w => zaE (by kernel_rfl)
 z4 := fun w => zap (by kernel_rfl)
 v4 := fun w => zam (by kernel_rfl)
 t22 := by kernel_rfl
 a22 := fun w => zaE (by kernel_rfl)
 z22 := fun w => zap (by kernel_rfl)
 v22 := fun w => zam (by kernel_rfl)
 i3 := by kernel_rfl
end Go.Proofs.YtdbebmafgpdfhaaGreatDoor
namespace Go.Proofs.YtdbebmafgpdfhaaGreatDoor
open Go Go.Crisp
attribute [local irreducible] FCall rowK newK stK iteK vK qK drawK gK joinK loopK mkK appK cpyK zni zla bsK clK zhc zfF newmK
structure zbz (n n' : Pic) : Prop where
 w : n'.w = n.w
 h : n'.h = n.h
 c : n'.c = n.c
 m : n'.most = n.most
theorem zbz.refl (n : Pic) : zbz n n := ⟨rfl, rfl, rfl, rfl⟩
theorem zbz.newC {m n n' : Pic} {s : Stg} {t : TileD} (D : zbz n n') (h : wnewC m n s t = 0) : wnewC m n' s t = 0 := by
 obtain ⟨h1, h2⟩ := zfc.1 h
 exact zfc.2 ⟨⟨h1.1, by rw [D.w]; exact h1.2.1, by rw [D.h]; exact h1.2.2.1, by rw [D.c]; exact h1.2.2.2.1, by rw [D.m]; exact h1.2.2.2.2⟩, h2⟩
theorem zbz.inP {n n' : Pic} (D : zbz n n') {x y c : Int} : Go.Proofs.YtdbebmafgpdfhaaGreatDoor.inP n' x y c ↔ Go.Proofs.YtdbebmafgpdfhaaGreatDoor.inP n x y c := by
 unfold Go.Proofs.YtdbebmafgpdfhaaGreatDoor.inP
 rw [D.w, D.h, D.c]
theorem pic_extL {n n' : Pic} (W : n.Wf) (l2 : (n'.l.length : Int) = n'.w * n'.h * n'.c) (D : zbz n n') (H : ∀ x y c, inP n x y c → atP n x y c = atP n' x y c) : n.l = n'.l := by
 have hf := zbs W.fits
 have l1 := W.len
 rw [D.w, D.h, D.c] at l2
 refine zmS (by omega) fun i h1 h2 => ?_
 have hC : 0 < n.c := by omega
 have hW : 0 < n.w := by omega
 have e1 := Int.mul_ediv_add_emod (i : Int) n.c
 have e2 := Int.mul_ediv_add_emod ((i : Int) / n.c) n.w
 have m1 := Int.emod_nonneg (i : Int) (show n.c ≠ 0 by omega)
 have m2 := Int.emod_lt_of_pos (i : Int) hC
 have m3 := Int.emod_nonneg ((i : Int) / n.c) (show n.w ≠ 0 by omega)
 have m4 := Int.emod_lt_of_pos ((i : Int) / n.c) hW
 have q0 : 0 ≤ (i : Int) / n.c := Int.ediv_nonneg (by omega) (by omega)
 have q1 : 0 ≤ (i : Int) / n.c / n.w := Int.ediv_nonneg q0 (by omega)
 have q2 : (i : Int) / n.c < n.w * n.h := by
  rw [Int.ediv_lt_iff_lt_mul hC]; omega
 have q3 : (i : Int) / n.c / n.w < n.h := by
  rw [Int.ediv_lt_iff_lt_mul hW, Int.mul_comm]; exact q2
 have hin : inP n ((i : Int) / n.c % n.w) ((i : Int) / n.c / n.w) ((i : Int) % n.c) := ⟨m3, m4, q1, q3, m1, m2⟩
 have hp : posP n ((i : Int) / n.c % n.w) ((i : Int) / n.c / n.w) ((i : Int) % n.c) = (i : Int) := by
  unfold posP
  rw [Int.mul_comm ((i : Int) / n.c / n.w), e2, Int.mul_comm ((i : Int) / n.c), e1]
 have hp' : posP n' ((i : Int) / n.c % n.w) ((i : Int) / n.c / n.w) ((i : Int) % n.c) = (i : Int) := by
  unfold posP at hp ⊢
  rw [D.w, D.c]; exact hp
 have := H _ _ _ hin
 unfold atP at this
 rw [if_pos hin, if_pos (D.inP.2 hin), hp, hp', Int.toNat_natCast] at this
 simpa [List.getD_eq_getElem?_getD, h1, h2] using this
end Go.Proofs.YtdbebmafgpdfhaaGreatDoor
namespace Go.Crisp
open Go
def CapLe (v : Value) : Prop := ∀ a n c, v = .slice a n c → c ≤ 9223372036854775807
theorem appK_cap {z : Value} {e : TypeId} {w bytes : Nat} {s x : Value} {h : Heap} {K K' : Value → Heap → Prop} (H : appK z e w bytes s x h K) (hs : CapLe s) (m : ∀ s' h', K s' h' → CapLe s' → K' s' h') : appK z e w bytes s x h K' := by
 unfold appK at H ⊢
 split at H
 ·rename_i base sLen sCap n _
  split at H
  ·rename_i h0
   rw [if_pos h0]
   revert H
   cases srcOf w h n x with
   | none => exact fun H => H
   | some news =>
    cases base with
    | none => exact fun H => m _ _ H fun a n c e => by cases e; exact hs _ _ _ rfl
    | some a =>
     dsimp only
     cases zde h (a.add (sLen * w)) 0 news with
     | none => exact fun H => H
     | some h' => exact fun H => m _ _ H fun a n c e => by cases e; exact hs _ _ _ rfl
  ·rename_i h0
   rw [if_neg h0]
   refine ⟨H.1, H.2.1, ?_⟩
   have H := H.2.2
   revert H
   cases srcOf w h sLen (.slice base sLen sCap) <;> cases srcOf w h n x
   ·exact fun H => H
   ·exact fun H => H
   ·exact fun H => H
   ·exact fun H c h1 h2 => m _ _ (H c h1 h2) fun a n c' e => by cases e; omega
 ·exact H
theorem SlC.isSl_one {w : Nat} {h : Heap} {v : Value} {n : Nat} {cs : List Value} (H : SlC w h v n cs) : zar v = true := by obtain ⟨a, c, e⟩ := H.isSl; rw [e]; rfl
theorem capLe_nil : CapLe (.slice none 0 0) := fun a n c e => by cases e; omega
end Go.Crisp
namespace Go.Proofs.YtdbebmafgpdfhaaGreatDoor
open Go Go.Crisp
attribute [local irreducible] FCall rowK newK stK iteK vK qK drawK gK joinK loopK mkK cpyK zni zla bsK clK zhc zfF newmK
open _root_.Go.Proofs.Tryz
section
theorem putCells_get {α : Type} [Inhabited α] (enc : α → Value) (off : Nat) (d : Array α) (c : Array Value) (i : Nat) : (Go.Sort.putCells enc off d c)[i]? = c[i]?.map fun x => if off ≤ i ∧ i < off + d.size then enc d[i - off]! else x := by
 unfold Go.Sort.putCells
 rw [Array.getElem?_mapIdx]
theorem c_Delete {h : Heap} {v : Value} {x : Int} {l : List Int} (H : Own 1 h v (l.length + 1) ((x :: l).map fun n => Value.int .i64 n)) (hc : CapLe v) :
  FCall prog zc0 #[v, .int .i64 0, .int .i64 1] h fun r h' => Own 1 h' r l.length (l.map fun n => Value.int .i64 n) ∧ CapLe r ∧ Fr (blk v) h h' ∧ (∀ b, blk r b → blk v b) := by
 refine FCall.ofCalls (by kernel_rfl) fun w hh => ?_
 subst hh
 rcases H with ⟨_, h0, _⟩ | ⟨b, cap, r, e, rfl, hcap, hl, hr, hb⟩
 ·cases h0
 have hcm := hc _ _ _ rfl
 have hget : ∀ j, (hj : j < (x :: l).length) → w.heap[b]? = some (.cells ((x :: l).map (fun n => Value.int .i64 n) ++ r).toArray e (0, 0)) → zah w.heap ⟨b, 0 + j, none⟩ = some (.int .i64 (x :: l)[j]) := fun j hj hb => by
  rw [zac hb, Nat.zero_add]
  simp only [List.getElem?_toArray]
  rw [List.getElem?_append_left (by simpa using hj), List.getElem?_map, List.getElem?_eq_getElem hj]
  rfl
 have hH : Go.Sort.Holds (Value.int .i64) w b 0 (x :: l).toArray := fun j hj => by
  have hj' : j < (x :: l).length := by simpa using hj
  refine ⟨?_, ?_⟩
  ·rw [getElem!_pos (x :: l).toArray j hj]
   exact hget j hj' hb
  ·show zhe w.heap ⟨b, 0 + j, none⟩ = false
   unfold zhe
   simp [hb]
 have := Any.slices_Delete_int lay_Delete b 0 cap 0 1 (x :: l) w hH hcap hcm (by omega) (by simp)
 refine this.mono fun e' w' ⟨h1, q, h2⟩ => ⟨_, h1, ?_⟩
 subst h2
 have hlt : b < w.heap.size := (Array.getElem?_eq_some_iff.1 hb).1
 have hrow : (Go.Sort.putRow (Value.int .i64) (Go.Sort.ahead w q) b 0 ((x :: l).take 0 ++ (x :: l).drop 1 ++ List.replicate (1 - 0) 0).toArray).heap[b]? = some (.cells (l.map (fun n => Value.int .i64 n) ++ (Value.int .i64 0 :: r)).toArray e (0, 0)) := by
  show (w.heap.modify b (Go.Sort.onCells _))[b]? = _
  rw [Array.getElem?_modify, if_pos rfl, hb]
  show some (Obj.cells (Go.Sort.putCells _ 0 _ _) e (0, 0)) = _
  congr 2
  apply Array.ext_getElem?
  intro i
  rw [putCells_get]
  simp only [List.take_zero, List.nil_append, List.drop_succ_cons, List.drop_zero, Nat.sub_zero, List.replicate_one, Nat.zero_le, true_and, Nat.zero_add, List.size_toArray, List.length_append, List.length_singleton, List.getElem?_toArray]
  by_cases h3 : i < l.length + 1
  ·rw [List.getElem?_append_left (by simpa using h3), List.getElem?_map, List.getElem?_eq_getElem (show i < (x :: l).length by simpa using h3), Option.map_some, Option.map_some, if_pos h3, getElem!_pos _ i (by simpa using h3)]
   by_cases h4 : i < l.length
   ·rw [List.getElem?_append_left (by simpa using h4), List.getElem?_map, List.getElem?_eq_getElem h4]
    simp [List.getElem_append_left, h4]
   ·have : i = l.length := by omega
    subst this
    rw [List.getElem?_append_right (by simp)]
    simp
  ·have e1 : ((x :: l).map (fun n => Value.int .i64 n) ++ r)[i]? = r[i - (l.length + 1)]? := by
    rw [List.getElem?_append_right (by simp; omega)]
    simp
   have e2 : (l.map (fun n => Value.int .i64 n) ++ Value.int .i64 0 :: r)[i]? = r[i - (l.length + 1)]? := by
    rw [List.getElem?_append_right (by simp; omega), List.length_map, show i - l.length = (i - (l.length + 1)) + 1 by omega, List.getElem?_cons_succ]
   rw [e1, e2]
   cases r[i - (l.length + 1)]? <;> simp [h3]
 refine ⟨⟨rfl, rfl, rfl⟩, ?_, fun a n c e => ?_, ⟨?_, fun k hk hm => ?_⟩, fun k hk => hk⟩
 ·refine .inr ⟨b, cap, Value.int .i64 0 :: r, e, ?_, by omega, by simp, ?_, hrow⟩
  ·simp
  ·simp at hr ⊢; omega
 ·cases e; exact hcm
 ·show w.heap.size ≤ (w.heap.modify b _).size
  simp
 ·show (w.heap.modify b _)[k]? = _
  rw [Array.getElem?_modify, if_neg (fun h => hm h.symm)]
structure QD where
 room : Int
 l : List Int
 closed : Bool
structure QD.Wf (d : QD) : Prop where
 r1 : 1 ≤ d.room
 r2 : d.room ≤ 4096
 l : (d.l.length : Int) ≤ d.room
structure IsQ (Q : Nat → Prop) (h : Heap) (b : Nat) (d : QD) : Prop where
 at_ : ∃ v, h[b]? = some (.cells #[.int .i64 d.room, v, .bool d.closed] 119 (0, 0)) ∧ Own 1 h v d.l.length (d.l.map fun n => Value.int .i64 n) ∧ CapLe v ∧ ¬ blk v b ∧ ∀ c, blk v c → Q c
 qb : Q b
 ql : ∀ c, Q c → c < h.size
 wf : d.Wf
theorem IsQ.fr {Q M : Nat → Prop} {h h' : Heap} {b : Nat} {d : QD} (H : IsQ Q h b d) (f : Fr M h h') (q : ∀ c, Q c → ¬ M c) : IsQ Q h' b d := by
 obtain ⟨⟨v, r, o, c, n, s⟩, qb, ql, w⟩ := H
 exact ⟨⟨v, f.row r (q b qb), o.fr f fun k hk => q k (s k hk), c, n, s⟩, qb, fun k hk => Nat.lt_of_lt_of_le (ql k hk) f.1, w⟩
theorem IsQ.ext {Q : Nat → Prop} {h h' : Heap} {b : Nat} {d : QD} (H : IsQ Q h b d) (e : Ext h h') : IsQ Q h' b d := H.fr (M := fun _ => False) e.fr fun _ _ => id
def sendQ (d : QD) (x : Int) : QD := if d.closed then d else if d.room ≤ d.l.length then d else { d with l := d.l ++ [x] }
def sendR (d : QD) : Int := if d.closed then 2 else if d.room ≤ d.l.length then 1 else 0
def recvQ (d : QD) : QD := { d with l := d.l.tail }
def recvX (d : QD) : Int := d.l.headD 0
def recvR (d : QD) : Int := if d.l = [] then (if d.closed then 2 else 1) else 0
theorem zrm {B : Nat → Prop} {h h' : Heap} (hb : ∀ c, B c → c < h.size) (hs : h.size ≤ h'.size) : ∀ c, Grow B h h' c → c < h'.size := fun c hc => hc.elim (fun h => Nat.lt_of_lt_of_le (hb c h) hs) fun h => h.2
section
variable {Q : Nat → Prop} {h : Heap} {b : Nat} {d : QD}
theorem c_qNew {h : Heap} {n : Int} : FCall prog zee #[.int .i64 n] h fun r h' => ∃ b, r = ptr b ∧ IsQ (fun c => c = b) h' b ⟨min (max 1 n) 4096, [], false⟩ ∧ Ext h h' ∧ h.size ≤ b := by
 apply ok_queue_New
 unfold zmG
 have hf : ∀ v : Int, fillL #[(.int .i64 0), (.slice none 0 0), (.bool false)] [(0, 1, .int .i64 v)] = some #[.int .i64 v, .slice none 0 0, .bool false] := fun _ => rfl
 simp only [go_sem, hf, zaA]
 refine zai fun b h1 r1 e1 n1 => ?_
 exact ⟨b, rfl, ⟨⟨_, r1, .inl ⟨rfl, rfl, rfl⟩, capLe_nil, id, fun c hc => hc.elim⟩, rfl, fun c hc => by rw [hc]; exact zay r1, ⟨by show 1 ≤ min (max 1 n) 4096; omega, by show min (max 1 n) 4096 ≤ 4096; omega, by show (0 : Int) ≤ min (max 1 n) 4096; omega⟩⟩, e1, n1⟩
theorem c_CanSend (H : IsQ Q h b d) : FCall prog zcL #[ptr b] h fun r h' => r = .bool (decide (sendR d ≠ 1)) ∧ h' = h := by
 apply zh0
 unfold zd0 sendR
 obtain ⟨⟨v, r, o, c, n, s⟩, qb, ql, w⟩ := H
 have c0 : zah h ⟨b, 0, none⟩ = some (.int .i64 d.room) := zac r
 have c1 : zah h ⟨b, 1, none⟩ = some v := zac r
 have c2 : zah h ⟨b, 2, none⟩ = some (.bool d.closed) := zac r
 obtain ⟨a, cp, e⟩ := o.isSl
 have e2 : zag v = some (.int .i64 (d.l.length : Int)) := by rw [e]; rfl
 cases hc : d.closed with
 | true =>
  rw [hc] at c2
  simp only [go_sem, c0, c1, c2, e2]
  exact ⟨by simp, trivial⟩
 | false =>
  rw [hc] at c2
  simp only [go_sem, c0, c1, c2, e2, Nat.zero_add]
  refine ⟨?_, trivial⟩
  congr 1
  rw [decide_eq_decide]
  by_cases hr : d.room ≤ d.l.length
  ·simp [hr]
  ·simp [hr]; omega
theorem c_CanReceive (H : IsQ Q h b d) : FCall prog zch #[ptr b] h fun r h' => r = .bool (decide (recvR d ≠ 1)) ∧ h' = h := by
 apply zgw
 unfold zc7 recvR
 obtain ⟨⟨v, r, o, c, n, s⟩, qb, ql, w⟩ := H
 have c1 : zah h ⟨b, 1, none⟩ = some v := zac r
 have c2 : zah h ⟨b, 2, none⟩ = some (.bool d.closed) := zac r
 obtain ⟨a, cp, e⟩ := o.isSl
 have e2 : zag v = some (.int .i64 (d.l.length : Int)) := by rw [e]; rfl
 cases hc : d.closed with
 | true =>
  rw [hc] at c2
  simp only [go_sem, c1, c2, e2]
  refine ⟨?_, trivial⟩
  cases d.l <;> simp
 | false =>
  rw [hc] at c2
  simp only [go_sem, c1, c2, e2, Nat.zero_add]
  refine ⟨?_, trivial⟩
  cases d.l <;> simp
theorem c_qSend (H : IsQ Q h b d) {x : Int} : FCall prog zbr #[ptr b, .int .i64 x] h fun r h' => r = .int .i64 (sendR d) ∧ IsQ (Grow Q h h') h' b (sendQ d x) ∧ Fr Q h h' := by
 apply zj5
 unfold zfv
 have H0 := H
 obtain ⟨⟨v, r, o, c, n, s⟩, qb, ql, w⟩ := H
 have c1 : zah h ⟨b, 1, none⟩ = some v := zac r
 have c2 : zah h ⟨b, 2, none⟩ = some (.bool d.closed) := zac r
 cases hc : d.closed with
 | true =>
  rw [hc] at c2
  simp only [go_sem, c2]
  unfold sendR sendQ
  rw [if_pos hc, if_pos hc, zlu]
  exact ⟨rfl, H0, Fr.refl _ _⟩
 | false =>
  have hcf : ¬ d.closed = true := by rw [hc]; simp
  rw [hc] at c2
  simp only [go_sem, c2]
  refine FCall.at (c_CanSend H0) ?_
  by_cases hr : d.room ≤ d.l.length
  ·have hs : sendR d = 1 := by unfold sendR; rw [if_neg hcf, if_pos hr]
   have hq : sendQ d x = d := by unfold sendQ; rw [if_neg hcf, if_pos hr]
   rw [hs, hq, zlu, decide_eq_false (by decide)]
   simp only [go_sem]
   exact ⟨trivial, H0, Fr.refl _ _⟩
  ·have hs : sendR d = 0 := by unfold sendR; rw [if_neg hcf, if_neg hr]
   have hq : sendQ d x = { d with l := d.l ++ [x] } := by unfold sendQ; rw [if_neg hcf, if_neg hr]
   rw [hs, hq, decide_eq_true (by decide)]
   simp only [go_sem, c1]
   have w1 := w.r2
   refine zb5 (Rp.fill_one rfl) fun b1 h1 r1 e1 n1 => ?_
   refine appK_cap (zlF (o.fr (M := fun _ => False) e1.fr fun _ _ => id) (Rp.SlC.single (cs := [.int .i64 x]) r1) (zad rfl zao) rfl (by omega) (by omega) fun s' h2 o2 f2 n2 => (⟨o2, f2, n2⟩ : Own 1 h2 s' (d.l.length + 1) (d.l.map (fun n => Value.int .i64 n) ++ [.int .i64 x]) ∧ Fr (blk v) h1 h2 ∧ ∀ b, blk s' b → blk v b ∨ h1.size ≤ b)) c fun v2 h2 ⟨o2, f2, n2⟩ c2' => ?_
   have rb := f2.row (e1.row r) n
   have hbl := zay (e1.row r)
   have hn2 : ¬ blk v2 b := fun hv => (n2 b hv).elim n fun hh => by omega
   try simp only [go_sem]
   refine zaO rb (by simp) o2.sl.isSl_one fun h3 r3 u3 => ?_
   have hs1 := e1.1
   have hs2 := f2.1
   have hs3 := u3.1
   refine ⟨trivial, ⟨⟨v2, r3, ?_, c2', hn2, fun k hk => ?_⟩, .inl qb, zrm ql (by omega), ⟨w.r1, w.r2, by show ((d.l ++ [x]).length : Int) ≤ d.room; simp; omega⟩⟩, ?_⟩
   ·show Own 1 h3 v2 (d.l ++ [x]).length ((d.l ++ [x]).map fun n => Value.int .i64 n)
    rw [List.length_append, List.map_append]
    exact o2.fr u3.fr fun k hk he => hn2 (he ▸ hk)
   ·rcases n2 k hk with h5 | h5
    ·exact .inl (s k h5)
    ·have := o2.lt hk
     exact .inr ⟨by omega, by omega⟩
   ·exact ((e1.fr (M := Q)).after f2 fun k _ hk => s k hk).after u3.fr fun k _ hk => hk ▸ qb
theorem c_qReceive (H : IsQ Q h b d) : FCall prog zcK #[ptr b] h fun r h' => r = .tuple #[.int .i64 (recvX d), .int .i64 (recvR d)] ∧ IsQ (Grow Q h h') h' b (recvQ d) ∧ Fr Q h h' := by
 apply zhZ
 unfold zdZ
 have H0 := H
 obtain ⟨⟨v, r, o, c, n, s⟩, qb, ql, w⟩ := H
 have c1 : zah h ⟨b, 1, none⟩ = some v := zac r
 have c2 : zah h ⟨b, 2, none⟩ = some (.bool d.closed) := zac r
 obtain ⟨a, cp, e⟩ := o.isSl
 have e2 : zag v = some (.int .i64 (d.l.length : Int)) := by rw [e]; rfl
 cases hl : d.l with
 | nil =>
  have hx : recvX d = 0 := by unfold recvX; rw [hl]; rfl
  have hq : recvQ d = d := by unfold recvQ; rw [hl]; cases d; simp_all
  rw [hx, hq]
  rw [hl] at e2
  have z00 : ¬ (0 : Int) < ((0 : Nat) : Int) := by omega
  simp only [go_sem, c1, e2, List.length_nil, decide_eq_false z00, c2]
  have hr : recvR d = if d.closed then 2 else 1 := by unfold recvR; rw [if_pos hl]
  rw [hr]
  cases d.closed with
  | true => rw [zc9]; exact ⟨rfl, by rw [zlu]; exact H0, Fr.refl _ _⟩
  | false => rw [zbc]; exact ⟨rfl, by rw [zlu]; exact H0, Fr.refl _ _⟩
 | cons x t =>
  have hx : recvX d = x := by unfold recvX; rw [hl]; rfl
  have hq : recvQ d = { d with l := t } := by unfold recvQ; rw [hl]; rfl
  have hr : recvR d = 0 := by unfold recvR; rw [if_neg (by rw [hl]; simp)]
  rw [hx, hq, hr]
  rw [hl] at e2 o
  have o' : Own 1 h v (t.length + 1) ((x :: t).map fun n => Value.int .i64 n) := o
  have zp : (0 : Int) < (((x :: t).length : Nat) : Int) := by simp
  obtain ⟨pp, p1, p2⟩ := (zpI (k := .i64) (l := x :: t) o).int_at (k' := .i64) (i := 0) (by simp)
  have p1 : idxV 1 v (.int .i64 0) = some pp := p1
  simp only [go_sem, c1, e2, decide_eq_true zp, p1, p2]
  refine (c_Delete o' c).mono fun v2 h2 ⟨o2, c2', f2, n2⟩ => ?_
  have rb := f2.row r n
  have hn2 : ¬ blk v2 b := fun hv => n (n2 b hv)
  try simp only [go_sem]
  refine zaO rb (by simp) o2.sl.isSl_one fun h3 r3 u3 => ?_
  have hs2 := f2.1
  have hs3 := u3.1
  have wl := w.l
  rw [hl] at wl
  refine ⟨rfl, ⟨⟨v2, r3, o2.fr u3.fr fun k hk he => hn2 (he ▸ hk), c2', hn2, fun k hk => .inl (s k (n2 k hk))⟩, .inl qb, zrm ql (by omega), ⟨w.r1, w.r2, by show (t.length : Int) ≤ d.room; simp at wl; omega⟩⟩, ?_⟩
  exact (f2.mono fun k _ hk => s k hk).trans (u3.fr.mono fun k _ hk => hk ▸ qb)
theorem znt (H : IsQ Q h b d) : FCall prog zbh #[ptr b] h fun r h' => r = .bool (!d.closed) ∧ IsQ Q h' b { d with closed := true } ∧ Fr Q h h' := by
 apply zji
 unfold zeU
 obtain ⟨⟨v, r, o, c, n, s⟩, qb, ql, w⟩ := H
 have c2 : zah h ⟨b, 2, none⟩ = some (.bool d.closed) := zac r
 simp only [go_sem, c2]
 refine zaO r (by simp) rfl fun h3 r3 u3 => ?_
 try simp only [go_sem]
 exact ⟨trivial, ⟨⟨v, r3, o.fr u3.fr fun k hk he => n (he ▸ hk), c, n, s⟩, qb, fun c hc => by rw [u3.1]; exact ql c hc, ⟨w.r1, w.r2, w.l⟩⟩, u3.fr.mono fun k _ hk => hk ▸ qb⟩
end
end
end Go.Proofs.YtdbebmafgpdfhaaGreatDoor
namespace Go.Proofs.YtdbebmafgpdfhaaGreatDoor
open Go Go.Crisp
attribute [local irreducible] FCall rowK newK stK iteK vK qK drawK gK joinK loopK mkK appK cpyK zni zla bsK clK zhc zfF newmK
open _root_.Go.Proofs.Tryz
section
structure WE where
 bf : Nat
 vf : Value
 bt : Nat
 vt : Value
 p : Value
 q : Value
 m : Pic
 s : Stg
structure WE.Ok (E : WE) : Prop where
 m : E.m.Wf
 s : StgOk E.s
abbrev WE.d (E : WE) (t : TileD) : JobD := ⟨E.m, E.s, t⟩
def zdL (Z B : Nat → Prop) (h : Heap) (E : Option WE) (n : Pic) (jv : Value) : Option (TileD × Int × Int) → Prop
 | none => jv = .pointer none
 | some (t, y, e) => ∃ E', E = some E' ∧ E'.Ok ∧ wnewC E'.m n E'.s t = 0 ∧ ∃ bj rv, jv = ptr bj ∧ JobSt Z B h bj E'.bf E'.vf E'.bt E'.vt E'.p E'.q rv (E'.d t) y e n (roomN (mostL E'.s.y.lines)) (zcy (t.w * E'.m.c))
def outB (E : Option WE) : Nat → Prop := match E with | none => fun _ => False | some E => blk E.vt
def outV (E : Option WE) (b : Nat) : Prop := match E with | none => True | some E => b ≠ E.bt
theorem zdL.one {Z B : Nat → Prop} {h : Heap} {E : Option WE} {n : Pic} {jv : Value} {jo : Option (TileD × Int × Int)} (H : zdL Z B h E n jv jo) : zar jv = true := by
 cases jo with
 | none => rw [show jv = _ from H]; rfl
 | some x => obtain ⟨t, y, e⟩ := x; obtain ⟨_, _, _, _, bj, rv, rfl, _⟩ := H; rfl
def OutAt (h : Heap) (E : Option WE) (n : Pic) : Prop := ∀ E', E = some E' → IsImg h E'.bt E'.vt n ∧ n.Wf
theorem zdL.other {Z B Q : Nat → Prop} {h h' : Heap} {E : Option WE} {n n' : Pic} {jv : Value} {jo : Option (TileD × Int × Int)} (H : zdL Z B h E n jv jo) (f : Fr Q h h') (qz : ∀ c, Z c → ¬ Q c) (qb : ∀ c, B c → ¬ Q c) (I : OutAt h' E n') (D : zbz n n') : zdL Z B h' E n' jv jo := by
 cases jo with
 | none => exact H
 | some x =>
  obtain ⟨t, y, e⟩ := x
  obtain ⟨E', rfl, ok, hc, bj, rv, rfl, S⟩ := H
  obtain ⟨I1, I2⟩ := I E' rfl
  exact ⟨E', rfl, ok, D.newC hc, bj, rv, rfl, S.other f qz qb I1 (job_out I2 (D.newC hc))⟩
structure WD where
 state : Int
 tiles : List Int
 job : Option (TileD × Int × Int)
 words : Int
def zou (E : Option WE) (jo : Option (TileD × Int × Int)) : Prop := match jo, E with | some (t, y, e), some E => stepK (E.d t) y e ≠ 0 | _, _ => False
structure IsW (Z B : Nat → Prop) (h : Heap) (bw : Nat) (E : Option WE) (n : Pic) (w : WD) : Prop where
 at_ : ∃ tv jv Bj, h[bw]? = some (.cells #[.int .i64 w.state, tv, jv, .int .i64 w.words] 117 (0, 0)) ∧ Own 1 h tv w.tiles.length (w.tiles.map fun n => Value.int .i64 n) ∧ zdL Z Bj h E n jv w.job ∧
  (∀ c, blk tv c → B c ∧ ¬ Bj c ∧ c ≠ bw) ∧ (∀ c, Bj c → B c) ∧ ¬ Bj bw
 bw0 : B bw
 bl : ∀ c, B c → c < h.size
 bz : ∀ c, B c → ¬ Z c ∧ outV E c ∧ ¬ outB E c
 zl : ∀ c, Z c → c < h.size
 out : OutAt h E n
 st : (w.state = 1 ∧ zou E w.job ∧ w.tiles ≠ []) ∨ ((w.state = 0 ∨ w.state = 2) ∧ w.job = none)
theorem IsW.other {Z B Q : Nat → Prop} {h h' : Heap} {bw : Nat} {E : Option WE} {n n' : Pic} {w : WD} (H : IsW Z B h bw E n w) (f : Fr Q h h') (qz : ∀ c, Z c → ¬ Q c) (qb : ∀ c, B c → ¬ Q c) (I : OutAt h' E n') (D : zbz n n') : IsW Z B h' bw E n' w := by
 obtain ⟨⟨tv, jv, Bj, r, o, J, a1, a2, a3⟩, b1, b2, b3, bz, b4, b5⟩ := H
 exact ⟨⟨tv, jv, Bj, f.row r (qb _ b1), o.fr f fun c hc => qb c (a1 c hc).1, J.other f qz (fun c hc => qb c (a2 c hc)) I D, a1, a2, a3⟩, b1, fun c hc => Nat.lt_of_lt_of_le (b2 c hc) f.1, b3, fun c hc => Nat.lt_of_lt_of_le (bz c hc) f.1, I, b5⟩
theorem IsW.ext {Z B : Nat → Prop} {h h' : Heap} {bw : Nat} {E : Option WE} {n : Pic} {w : WD} (H : IsW Z B h bw E n w) (e : Ext h h') : IsW Z B h' bw E n w :=
 H.other (Q := fun _ => False) e.fr (fun _ _ h => h) (fun _ _ h => h) (fun E' hE => ⟨(H.out E' hE).1.ext e, (H.out E' hE).2⟩) (zbz.refl n)
section
variable {Z B : Nat → Prop} {h : Heap} {bw : Nat} {E : Option WE} {n : Pic} {w : WD}
theorem zhg {h : Heap} : FCall prog zdt #[] h fun r h' => ∃ b, r = ptr b ∧ h'[b]? = some (.cells #[.int .i64 0, .slice none 0 0, .pointer none, .int .i64 0] 117 (0, 0)) ∧ Ext h h' ∧ h.size ≤ b := by
 apply zqy
 unfold zkx
 have hf : fillL #[(.int .i64 0), (.slice none 0 0), (.pointer none), (.int .i64 0)] [] = some #[.int .i64 0, .slice none 0 0, .pointer none, .int .i64 0] := rfl
 simp only [go_sem, hf, zaA]
 refine zai fun b h1 r1 e1 n1 => ?_
 exact ⟨b, rfl, r1, e1, n1⟩
theorem IsW.new {h : Heap} {b : Nat} (r : h[b]? = some (.cells #[.int .i64 0, .slice none 0 0, .pointer none, .int .i64 0] 117 (0, 0))) (hz : ¬ Z b) (h1 : outV E b) (h2 : ¬ outB E b) (zl : ∀ c, Z c → c < h.size) (I : OutAt h E n) : IsW Z (fun c => c = b) h b E n ⟨0, [], none, 0⟩ :=
 ⟨⟨_, _, fun _ => False, r, .inl ⟨rfl, rfl, rfl⟩, rfl, fun c hc => hc.elim, fun c hc => hc.elim, id⟩, rfl, fun c hc => by rw [hc]; exact zay r, fun c hc => by rw [hc]; exact ⟨hz, h1, h2⟩, zl, I, .inr ⟨.inl rfl, rfl⟩⟩
theorem c_State (H : IsW Z B h bw E n w) : FCall prog zaQ #[ptr bw] h fun r h' => r = .int .i64 w.state ∧ h' = h := by
 apply zhX
 unfold zdX
 obtain ⟨⟨tv, jv, Bj, r, _⟩, _⟩ := H
 have c0 : zah h ⟨bw, 0, none⟩ = some (.int .i64 w.state) := zac r
 simp only [go_sem, c0]
 exact ⟨trivial, trivial⟩
theorem zoJ (H : IsW Z B h bw E n w) : FCall prog zaI #[ptr bw] h fun r h' => r = .int .i64 w.words ∧ h' = h := by
 apply zgU
 unfold zdo
 obtain ⟨⟨tv, jv, Bj, r, _⟩, _⟩ := H
 have c0 : zah h ⟨bw, 3, none⟩ = some (.int .i64 w.words) := zac r
 simp only [go_sem, c0]
 exact ⟨trivial, trivial⟩
theorem zp7 {Q : Nat → Prop} {bq : Nat} {d : QD} (H : IsW Z B h bw E n w) (HQ : IsQ Q h bq d) : FCall prog zbo #[ptr bw, ptr bq] h fun r h' => r = .bool (decide (w.state = 1 ∨ (w.state = 0 ∧ recvR d ≠ 1))) ∧ h' = h := by
 apply zgv
 unfold zc6
 have hst := H.st
 obtain ⟨⟨tv, jv, Bj, r, _⟩, _⟩ := H
 have c0 : zah h ⟨bw, 0, none⟩ = some (.int .i64 w.state) := zac r
 simp only [go_sem, c0]
 refine zab (fun g => ?_) (fun g => ?_)
 ·refine FCall.at (c_CanReceive HQ) ?_
  refine ⟨?_, rfl⟩
  congr 1
  rw [decide_eq_decide]
  constructor
  ·exact fun hh => .inr ⟨g, hh⟩
  ·rintro (hh | hh)
   ·omega
   ·exact hh.2
 ·refine zab (fun g1 => ?_) (fun g1 => ?_)
  ·exact ⟨by rw [decide_eq_true (.inl g1)], trivial⟩
  ·exact ⟨by rw [decide_eq_false]; omega, trivial⟩
def zaJ (E : Option WE) (jo : Option (TileD × Int × Int)) : Option (TileD × Int × Int) := match jo, E with | some (t, y, e), some E => if stepK (E.d t) y e = 0 then none else some (t, y, e) | _, _ => none
theorem settle_st (E : Option WE) (jo : Option (TileD × Int × Int)) : (zaJ E jo ≠ none ∧ zou E (zaJ E jo) ∧ zaJ E jo = jo) ∨ zaJ E jo = none := by
 unfold zaJ zou
 cases jo with
 | none => exact .inr rfl
 | some x =>
  obtain ⟨t, y, e⟩ := x
  cases E with
  | none => exact .inr rfl
  | some E =>
   dsimp only
   by_cases hk : stepK (E.d t) y e = 0
   ·rw [if_pos hk]; exact .inr rfl
   ·rw [if_neg hk]; exact .inl ⟨by simp, hk, rfl⟩
end
end
section
theorem OutAt.fr {Q : Nat → Prop} {h h' : Heap} {E : Option WE} {n : Pic} (I : OutAt h E n) (f : Fr Q h h') (hq : ∀ c, Q c → c < h.size → outV E c ∧ ¬ outB E c) : OutAt h' E n := fun E' hE => by
 subst hE
 have I1 := (I E' rfl).1
 exact ⟨I1.fr f (fun hc => (hq _ hc I1.lt).1 rfl) (fun c hv hc => (hq c hc (I1.ltv hv)).2 hv), (I E' rfl).2⟩
theorem OutAt.ext {h h' : Heap} {E : Option WE} {n : Pic} (I : OutAt h E n) (e : Ext h h') : OutAt h' E n := I.fr (Q := fun _ => False) e.fr fun _ h => h.elim
theorem OutAt.new {h : Heap} {E : Option WE} {n : Pic} (I : OutAt h E n) {c : Nat} (hc : h.size ≤ c) : outV E c ∧ ¬ outB E c := by
 cases E with
 | none => exact ⟨trivial, id⟩
 | some E => exact ⟨fun he => by have := (I E rfl).1.lt; rw [he] at hc; omega, fun hv => by have := (I E rfl).1.ltv hv; omega⟩
def stJ : Option (TileD × Int × Int) → Int
 | none => 0
 | some _ => 1
theorem zdL.upd {Z B : Nat → Prop} {h h' : Heap} {bw : Nat} {E : Option WE} {n : Pic} {jv : Value} {jo : Option (TileD × Int × Int)} (H : zdL Z B h E n jv jo) (u : Upd bw h h') (hz : ¬ Z bw) (hb : ¬ B bw) (h1 : outV E bw) (h2 : ¬ outB E bw) (I : OutAt h E n) : zdL Z B h' E n jv jo :=
 H.other u.fr (fun c hc he => hz (he ▸ hc)) (fun c hc he => hb (he ▸ hc)) (I.fr u.fr fun c hc _ => by rw [show c = bw from hc]; exact ⟨h1, h2⟩) (zbz.refl n)
section
variable {Z B : Nat → Prop} {h : Heap} {bw : Nat} {E : Option WE} {n : Pic} {w : WD}
theorem c_settle {Bj : Nat → Prop} {st wd : Int} {tv jv : Value} {jo : Option (TileD × Int × Int)} (r : h[bw]? = some (.cells #[.int .i64 st, tv, jv, .int .i64 wd] 117 (0, 0))) (J : zdL Z Bj h E n jv jo) (hz : ¬ Z bw) (hb : ¬ Bj bw) (ho1 : outV E bw) (ho2 : ¬ outB E bw) (I : OutAt h E n) :
  FCall prog zaV #[ptr bw] h fun r h' => ∃ jv', h'[bw]? = some (.cells #[.int .i64 (stJ (zaJ E jo)), tv, jv', .int .i64 wd] 117 (0, 0)) ∧ zdL Z Bj h' E n jv' (zaJ E jo) ∧ Fr (fun c => c = bw) h h' := by
 apply zg7
 unfold zdC
 simp only [go_sem]
 refine zaO r (by simp) rfl fun h1 r1 u1 => ?_
 have r1 : h1[bw]? = some (.cells #[.int .i64 1, tv, jv, .int .i64 wd] 117 (0, 0)) := r1
 have J1 := J.upd u1 hz hb ho1 ho2 I
 have I1 := I.fr u1.fr fun c hc _ => by rw [show c = bw from hc]; exact ⟨ho1, ho2⟩
 have c2 : zah h1 ⟨bw, 2, none⟩ = some jv := zac r1
 simp only [go_sem, Nat.zero_add, c2]
 -- it goes
 have gone : ∀ {h2 : Heap}, Ext h1 h2 → zaJ E jo = none → stK 1 (.pointer (some ⟨bw, 0, none⟩)) (.int .i64 0) h2 fun v20 h21 => stK 1 (.pointer (some ⟨bw, 2, none⟩)) (.pointer none) h21 fun _ h' => ∃ jv', h'[bw]? = some (.cells #[.int .i64 (stJ (zaJ E jo)), tv, jv', .int .i64 wd] 117 (0, 0)) ∧ zdL Z Bj h' E n jv' (zaJ E jo) ∧ Fr (fun c => c = bw) h h' := by
  intro h2 e2 hs
  refine zaO (e2.row r1) (by simp) rfl fun h3 r3 u3 => ?_
  refine zaO r3 (by simp) rfl fun h4 r4 u4 => ?_
  rw [hs]
  exact ⟨_, r4, rfl, ((u1.fr.ext_r e2).trans u3.fr).trans u4.fr⟩
 cases jo with
 | none =>
  have hj : jv = .pointer none := J
  subst hj
  simp only [go_sem, c2, nil_en]
  exact gone (Ext.refl _) rfl
 | some x =>
  obtain ⟨t, y, e⟩ := x
  obtain ⟨E', rfl, ok, hc, bj, rv, rfl, S⟩ := J1
  simp only [go_sem, c2, ptr_en]
  refine FCall.to (zp5 S (job_wf ok.m ok.s.wf hc)) fun h2 e2 => ?_
  have hp : partV false 1 0 (moveV (stepK (E'.d t) y e) (stepJ (E'.d t) y e)) = some (.int .i64 (stepK (E'.d t) y e)) := rfl
  simp only [go_sem, hp]
  refine zab (fun hk => ?_) (fun hk => ?_)
  ·exact gone e2 (if_pos hk)
  ·have hs : zaJ (some E') (some (t, y, e)) = some (t, y, e) := if_neg hk
   rw [hs]
   exact ⟨_, e2.row r1, ⟨E', rfl, ok, hc, bj, rv, rfl, S.ext e2⟩, u1.fr.ext_r e2⟩
def zks (E : Option WE) (jo : Option (TileD × Int × Int)) (k : Int) : Int := match jo, E with | some (t, _, _), some E => max k ((roomN (mostL E.s.y.lines) : Int) * (zcy (t.w * E.m.c) : Int)) | _, _ => k
def tookW (E : Option WE) (w : WD) (x : Int) (jo : Option (TileD × Int × Int)) : WD := ⟨stJ (zaJ E jo), w.tiles ++ [x], zaJ E jo, zks E jo w.words⟩
def Opens (Z : Nat → Prop) (E : Option WE) (n : Pic) (ov : Value) (x : Int) (jo : Option (TileD × Int × Int)) (Qo M : Nat → Prop) (P0 P1 : Heap → Prop) (h : Heap) : Prop :=
 (ov = .nilFunc ∧ jo = none ∧ ∀ g, P0 g → P1 g) ∨ (binV .f .neq ov .nilFunc = some (.bool true) ∧ ∀ h1, Fr M h h1 → P0 h1 → clK prog ov #[.int .i64 x] h1 fun r h2 => ∃ Bj, (∀ c, Bj c → h1.size ≤ c ∧ c < h2.size) ∧ zdL Z Bj h2 E n r jo ∧ Fr Qo h1 h2 ∧ P1 h2)
abbrev eventV (k t mk mr : Int) : Value := .agg #[.int .i64 k, .int .i64 t, .int .i64 mk, .int .i64 mr]
theorem clK_mono {v : Value} {args : Array Value} {h : Heap} {K K' : Value → Heap → Prop} (H : clK prog v args h K) (k : ∀ r h', K r h' → K' r h') : clK prog v args h K' := by
 unfold clK at H ⊢
 split at H
 ·exact H.mono k
 ·exact H.elim
theorem znO {E : Option WE} {jo : Option (TileD × Int × Int)} : (stJ (zaJ E jo) = 1 ∧ zou E (zaJ E jo)) ∨ ((stJ (zaJ E jo) = 0 ∨ stJ (zaJ E jo) = 2) ∧ zaJ E jo = none) := by
 rcases settle_st E jo with ⟨h1, h2, h3⟩ | h
 ·left
  refine ⟨?_, h2⟩
  revert h1
  cases zaJ E jo with
  | none => exact fun h => absurd rfl h
  | some x => exact fun _ => rfl
 ·rw [h]; exact .inr ⟨.inl rfl, rfl⟩
theorem c_take {x : Int} {ov : Value} {jo : Option (TileD × Int × Int)} {Qo : Nat → Prop} {P0 P1 : Heap → Prop} (H : IsW Z B h bw E n w) (hw : w.state = 0) (ht : w.tiles.length ≤ 1000000) (HO : Opens Z E n ov x jo Qo B P0 P1 h)
  (qo : ∀ c, Qo c → c < h.size ∧ ¬ B c ∧ ¬ Z c ∧ outV E c ∧ ¬ outB E c) (hP : ∀ g g', Fr (fun c => B c ∨ h.size ≤ c) g g' → (P0 g → P0 g') ∧ (P1 g → P1 g')) (p0 : P0 h) :
  FCall prog zc3 #[ptr bw, .int .i64 x, ov] h fun r h' => r = eventV 1 x 0 0 ∧ IsW Z (Grow B h h') h' bw E n (tookW E w x jo) ∧ Fr (fun c => B c ∨ Qo c) h h' ∧ P1 h' := by
 apply ziu
 unfold zet
 have H0 := H
 obtain ⟨⟨tv, jv, Bj, r, o, J, a1, a2, a3⟩, w0, bl, bz, zl, I, st⟩ := H
 have hjn : w.job = none := by
  rcases st with h | h
  ·omega
  ·exact h.2
 rw [hjn] at J
 have hj : jv = .pointer none := J
 subst hj
 refine zai fun b1 h1 r1 e1 n1 => ?_
 have c1 : zah h1 ⟨bw, 1, none⟩ = some tv := zac (e1.row r)
 simp only [go_sem, Nat.zero_add, c1]
 refine zb5 (Rp.fill_one rfl) fun b2 h2 r2 e2 n2 => ?_
 have E2 := e1.trans e2
 refine zlF (m := 1) (o.fr (M := fun _ => False) E2.fr fun _ _ => id) (Rp.SlC.single (cs := [.int .i64 x]) r2) (zad rfl zao) rfl (by omega) (by omega) fun v3 h3 o3 f3 n3 => ?_
 have hbw := zay r
 have hs2 := E2.1
 have hs3 := f3.1
 have r3 := f3.row (E2.row r) fun hc => (a1 _ hc).2.2 rfl
 have hv3 : ∀ c, blk v3 c → (B c ∧ c ≠ bw) ∨ h.size ≤ c := fun c hc => (n3 c hc).imp (fun h => ⟨(a1 c h).1, (a1 c h).2.2⟩) fun h => by omega
 have hv3w : ¬ blk v3 bw := fun hc => (hv3 _ hc).elim (fun h => h.2 rfl) fun h => by omega
 try simp only [go_sem]
 refine zaO r3 (by simp) o3.sl.isSl_one fun h4 r4 u4 => ?_
 have r4 : h4[bw]? = some (.cells #[.int .i64 w.state, v3, .pointer none, .int .i64 w.words] 117 (0, 0)) := r4
 have o4 := o3.fr u4.fr fun c hc he => hv3w (he ▸ hc)
 have hs4 := u4.1
 have F4 : Fr B h h4 := (E2.fr.after f3 fun c _ hc => (a1 c hc).1).after u4.fr fun c _ hc => hc ▸ w0
 have I4 : OutAt h4 E n := I.fr F4 fun c hc _ => (bz c hc).2
 have hq4 : P0 h4 := (hP h h4 (F4.mono fun c _ hc => .inl hc)).1 p0
 have hs1 := e1.1
 have hs21 := e2.1
 have lb1 := zay r1
 have nb1 : h.size ≤ b1 := n1
 have e4 : h4[b1]? = some (.cells #[.int .i64 0, .int .i64 0, .int .i64 0, .int .i64 0] 37 (0, 0)) := u4.row (by omega) (f3.row (e2.row r1) fun hc => by have := bl _ (a1 _ hc).1; omega)
 -- with a job, or with none
 refine zau (fun xs h5 => ∃ jv Bj, h5[bw]? = some (.cells #[.int .i64 w.state, v3, jv, .int .i64 w.words] 117 (0, 0)) ∧ zdL Z Bj h5 E n jv jo ∧ (∀ c, Bj c → h4.size ≤ c) ∧ (∀ c, Bj c → c < h5.size) ∧ Fr (fun c => B c ∨ Qo c) h h5 ∧ h4.size ≤ h5.size ∧ Own 1 h5 v3 (w.tiles.length + 1) (w.tiles.map (fun n => Value.int .i64 n) ++ [.int .i64 x]) ∧ P1 h5 ∧ h5[b1]? = some (.cells #[.int .i64 0, .int .i64 0, .int .i64 0, .int .i64 0] 37 (0, 0))) ?_ ?_
 ·rcases HO with ⟨rfl, rfl, hp⟩ | ⟨hov, hop⟩
  ·have e0 : binV .f .neq Value.nilFunc Value.nilFunc = some (.bool false) := rfl
   simp only [go_sem, e0]
   exact ⟨_, fun _ => False, r4, rfl, fun c hc => hc.elim, fun c hc => hc.elim, F4.mono fun c _ hc => .inl hc, Nat.le_refl _, o4, hp _ hq4, e4⟩
  ·simp only [go_sem, hov]
   refine clK_mono (hop h4 F4 hq4) fun v5 h5 ⟨Bj, k1, k2, k3, k4⟩ => ?_
   have r5 := k3.row r4 fun hc => (qo _ hc).2.1 w0
   have o5 := o4.fr k3 fun c hc hq => (hv3 c hc).elim (fun h => (qo c hq).2.1 h.1) fun h => by have := (qo c hq).1; omega
   have hs5 := k3.1
   try simp only [go_sem]
   refine zaO r5 (by simp) k2.one fun h6 r6 u6 => ?_
   have hs6 := u6.1
   have hbj : ¬ Bj bw := fun hc => by have := (k1 _ hc).1; omega
   have I5 : OutAt h5 E n := I4.fr k3 fun c hc _ => (qo c hc).2.2.2
   refine ⟨v5, Bj, r6, k2.upd u6 (bz _ w0).1 hbj (bz _ w0).2.1 (bz _ w0).2.2 I5, fun c hc => (k1 c hc).1, fun c hc => by rw [hs6]; exact (k1 c hc).2, ?_, by omega, o5.fr u6.fr fun c hc he => hv3w (he ▸ hc), ?_⟩
   ·exact ((F4.mono fun c _ hc => .inl hc).after k3 fun c _ hc => .inr hc).after u6.fr fun c _ hc => .inl (hc ▸ w0)
   ·exact ⟨(hP h5 h6 (u6.fr.mono fun c _ hc => .inl (hc ▸ w0))).2 k4, u6.row (by omega) (k3.row e4 fun hc => by have := (qo _ hc).1; omega)⟩
 ·rintro xs ρ h5 ⟨jv, Bj, r5, J5, k1, k2, F5, hs5, o5, p5, e5⟩
  have hbj : ¬ Bj bw := fun hc => by have := k1 _ hc; omega
  have I5 : OutAt h5 E n := I.fr F5 fun c hc _ => hc.elim (fun h => (bz c h).2) fun h => (qo c h).2.2.2
  have c2 : zah h5 ⟨bw, 2, none⟩ = some jv := zac r5
  have c3 : zah h5 ⟨bw, 3, none⟩ = some (.int .i64 w.words) := zac r5
  -- the end: settled, and told
  have fin : ∀ {h6 : Heap}, h6[bw]? = some (.cells #[.int .i64 w.state, v3, jv, .int .i64 (zks E jo w.words)] 117 (0, 0)) → zdL Z Bj h6 E n jv jo → Fr (fun c => B c ∨ Qo c) h h6 → h5.size ≤ h6.size → OutAt h6 E n → P1 h6 →
    Own 1 h6 v3 (w.tiles.length + 1) (w.tiles.map (fun n => Value.int .i64 n) ++ [.int .i64 x]) → h6[b1]? = some (.cells #[.int .i64 0, .int .i64 0, .int .i64 0, .int .i64 0] 37 (0, 0)) →
    FCall prog zaV #[ptr bw] h6 fun v48 h49 => vK ((fillL #[(.int .i64 0), (.int .i64 0), (.int .i64 0), (.int .i64 0)] [(0, 1, (.int .i64 1)), (1, 1, .int .i64 x)]).map .agg) fun v50 => stK 4 (ptr b1) v50 h49 fun v51 h52 => vK (ldsV 4 h52 (ptr b1)) fun v53 =>
     v53 = eventV 1 x 0 0 ∧ IsW Z (Grow B h h52) h52 bw E n (tookW E w x jo) ∧ Fr (fun c => B c ∨ Qo c) h h52 ∧ P1 h52 := by
   intro h6 r6 J6 F6 hs6 I6 p6 o6 e6
   refine (c_settle r6 J6 (bz _ w0).1 hbj (bz _ w0).2.1 (bz _ w0).2.2 I6).mono fun _ h7 ⟨jv', r7, J7, f7⟩ => ?_
   have hf : ∀ z : Int, fillL #[(.int .i64 0), (.int .i64 0), (.int .i64 0), (.int .i64 0)] [(0, 1, .int .i64 1), (1, 1, .int .i64 z)] = some #[.int .i64 1, .int .i64 z, .int .i64 0, .int .i64 0] := fun _ => rfl
   have hs7 := f7.1
   simp only [go_sem, hf, zaA]
   refine zb9 (l := [.int .i64 1, .int .i64 x, .int .i64 0, .int .i64 0]) (f7.row e6 fun hc => by omega) rfl (zad rfl (zad rfl (zad rfl (zad rfl zao)))) rfl fun h8 r8 u8 => ?_
   rw [zav (l := [.int .i64 1, .int .i64 x, .int .i64 0, .int .i64 0]) r8 4 rfl, zaa]
   have hs8 := u8.1
   have I7 : OutAt h7 E n := I6.fr f7 fun c hc _ => by rw [show c = bw from hc]; exact (bz _ w0).2
   have F7 : Fr (fun c => B c ∨ Qo c) h h7 := F6.after f7 fun c _ hc => .inl (hc ▸ w0)
   have F8 : Fr (fun c => B c ∨ Qo c) h h8 := F7.upd_new u8 nb1
   have ob1 := I.new nb1
   have zb1 : ¬ Z b1 := fun hz => by have := zl _ hz; omega
   have hbb : ¬ Bj b1 := fun hc => by have := k1 _ hc; omega
   have o8 := (o6.fr f7 fun c hc he => hv3w (he ▸ hc)).fr u8.fr fun c hc he => by
    have he : c = b1 := he
    rcases n3 c hc with h9 | h9
    ·have := bl _ (a1 c h9).1; omega
    ·omega
   have ho : OutAt h8 E n := I7.fr u8.fr fun c hc _ => by rw [show c = b1 from hc]; exact ob1
   refine ⟨rfl, ⟨⟨v3, jv', Bj, u8.row (by omega) r7, ?_, J7.upd u8 zb1 hbb ob1.1 ob1.2 I7, fun c hc => ⟨?_, fun hj => ?_, fun he => hv3w (he ▸ hc)⟩, fun c hc => .inr ⟨?_, ?_⟩, hbj⟩, .inl w0, zrm bl (by omega), fun c hc => ?_, fun c hc => Nat.lt_of_lt_of_le (zl c hc) F8.1, ho, ?_⟩, F8, ?_⟩
   ·show Own 1 h8 v3 (w.tiles ++ [x]).length ((w.tiles ++ [x]).map fun n => Value.int .i64 n)
    rw [List.length_append, List.map_append]
    exact o8
   ·rcases hv3 c hc with h9 | h9
    ·exact .inl h9.1
    ·exact .inr ⟨h9, o8.lt hc⟩
   ·have := k1 c hj
    rcases n3 c hc with h9 | h9
    ·have := bl _ (a1 c h9).1; omega
    ·have := o3.lt hc; omega
   ·have := k1 c hc; omega
   ·have := k2 c hc; omega
   ·rcases hc with h9 | h9
    ·exact bz c h9
    ·exact ⟨fun hz => by have := zl c hz; omega, I.new h9.1⟩
   ·rcases znO (E := E) (jo := jo) with ⟨h9, h10⟩ | h9
    ·exact .inl ⟨h9, h10, by simp [tookW]⟩
    ·exact .inr h9
   ·exact (hP h7 h8 (u8.fr.mono fun c _ hc => .inr (by have hc : c = b1 := hc; omega))).2 ((hP h6 h7 (f7.mono fun c _ hc => .inl (hc ▸ w0))).2 p6)
  cases jo with
  | none =>
   have hj : jv = .pointer none := J5
   subst hj
   simp only [go_sem, c2, nil_nn]
   exact fin r5 rfl F5 (Nat.le_refl _) I5 p5 o5 e5
  | some y =>
   obtain ⟨t, yy, e⟩ := y
   have J5' := J5
   obtain ⟨E', rfl, ok, hc, bj, rv, rfl, S⟩ := J5
   simp only [go_sem, c2, ptr_nn]
   refine zan (fun g => g = h5) rfl ?_
   refine zaf (.int .i64 w.words) (fun g e => by rw [e]; exact c3) ?_
   try simp only [go_sem]
   refine zaf (ptr bj) (fun g e => by rw [e]; exact c2) ?_
   refine FCall.at (zp4 S) ⟨rfl, ?_⟩
   refine zaf (.int .i64 (max w.words ((roomN (mostL E'.s.y.lines) : Int) * (zcy (t.w * E'.m.c) : Int)))) (fun _ _ => znm _ _ _) ?_
   try simp only [go_sem]
   refine zaO r5 (by simp) rfl fun h6 r6 u6 => ?_
   exact fin r6 (J5'.upd u6 (bz _ w0).1 hbj (bz _ w0).2.1 (bz _ w0).2.2 I5) (F5.after u6.fr fun c _ hc => .inl (hc ▸ w0)) (by rw [u6.1]; exact Nat.le_refl _) (I5.fr u6.fr fun c hc _ => by rw [show c = bw from hc]; exact (bz _ w0).2) ((hP h5 h6 (u6.fr.mono fun c _ hc => .inl (hc ▸ w0))).2 p5)
    (o5.fr u6.fr fun c hc he => hv3w (he ▸ hc)) (u6.row (by omega) e5)
abbrev EvD := Int × Int × Int × Int
abbrev evV (e : EvD) : Value := eventV e.1 e.2.1 e.2.2.1 e.2.2.2
def stepW (E : Option WE) (jo : Option (TileD × Int × Int)) (w : WD) (d : QD) : WD × QD × EvD :=
 if w.state = 1 then
  match w.job, E with
  | some (t, y, e), some E' =>
   let j := zaJ E (some (t, stepY (E'.d t) y e, stepE (E'.d t) y e))
   (⟨stJ j, w.tiles, j, w.words⟩, d, (2, w.tiles.getLast?.getD 0, stepK (E'.d t) y e, stepJ (E'.d t) y e))
  | _, _ => (w, d, (0, 0, 0, 0))
 else if w.state = 2 then (w, d, (0, 0, 0, 0))
 else if recvR d = 0 then (tookW E w (recvX d) jo, recvQ d, (1, recvX d, 0, 0))
 else if recvR d = 2 then ({ w with state := 2 }, recvQ d, (3, 0, 0, 0))
 else (w, recvQ d, (0, 0, 0, 0))
def takes (w : WD) (d : QD) : Prop := w.state = 0 ∧ recvR d = 0
def Drew (E : Option WE) (w : WD) (n n' : Pic) : Prop :=
 zbz n n' ∧ match w.job, E with
  | some (t, y, e), some E => OutOk (E.d t) n ∧ OutOk (E.d t) n' ∧ (stepK (E.d t) y e ≠ 2 → n' = n) ∧ (stepK (E.d t) y e = 2 → ∀ x' y' c', inP n x' y' c' → atP n' x' y' c' = if wrote (E.d t) y (zcy (t.w * E.m.c)) x' y' c' then pixZ E.m E.s x' y' c' else atP n x' y' c')
  | _, _ => n' = n
theorem Drew.same {E : Option WE} {w : WD} {n : Pic} (h : w.job = none) : Drew E w n n := ⟨zbz.refl n, by rw [h]⟩
structure Stepped (Z B Q Qo : Nat → Prop) (h h' : Heap) (bw bq : Nat) (E : Option WE) (n : Pic) (w w' : WD) (d' : QD) : Prop where
 ex : ∃ n' B' Q', IsW Z B' h' bw E n' w' ∧ IsQ Q' h' bq d' ∧ (∀ c, B' c → B c ∨ h.size ≤ c) ∧ (∀ c, Q' c → Q c ∨ h.size ≤ c) ∧ (∀ c, B' c → ¬ Q' c) ∧ Drew E w n n'
 fr : Fr (fun c => outB E c ∨ B c ∨ Q c ∨ Qo c) h h'
theorem c_wStep {Q : Nat → Prop} {bq : Nat} {d : QD} {ov : Value} {jo : Option (TileD × Int × Int)} {Qo : Nat → Prop} {P0 P1 : Heap → Prop} (H : IsW Z B h bw E n w) (HQ : IsQ Q h bq d) (ht : w.tiles.length ≤ 1000000)
  (HO : takes w d → Opens Z E n ov (recvX d) jo Qo (fun c => B c ∨ Q c) P0 P1 h) (bq' : ∀ c, B c → ¬ Q c) (qz : ∀ c, Q c → ¬ Z c ∧ outV E c ∧ ¬ outB E c) (qo : ∀ c, Qo c → c < h.size ∧ ¬ B c ∧ ¬ Q c ∧ ¬ Z c ∧ outV E c ∧ ¬ outB E c)
  (hP : ∀ g g', Fr (fun c => outB E c ∨ B c ∨ Q c ∨ h.size ≤ c) g g' → (P0 g → P0 g') ∧ (P1 g → P1 g')) (p0 : P0 h) :
  FCall prog zas #[ptr bw, ptr bq, ov] h fun r h' => r = evV (stepW E jo w d).2.2 ∧ Stepped Z B Q Qo h h' bw bq E n w (stepW E jo w d).1 (stepW E jo w d).2.1 ∧ (takes w d → P1 h') ∧ (¬ takes w d → P0 h') := by
 apply ziv
 unfold zeu
 have H0 := H
 obtain ⟨⟨tv, jv, Bj, r, o, J, a1, a2, a3⟩, w0, bl, bz, zl, I, st⟩ := H
 refine zai fun b1 h1 r1 e1 n1 => ?_
 have hs1 := e1.1
 have lb1 := zay r1
 have nb1 : h.size ≤ b1 := n1
 have lbw := zay r
 have r' := e1.row r
 have H1 := H0.ext e1
 have HQ1 := HQ.ext e1
 have I1 := I.ext e1
 have ob1 := I.new nb1
 have hQb : ∀ c, Q c → c < h.size := HQ.ql
 have c0 : zah h1 ⟨bw, 0, none⟩ = some (.int .i64 w.state) := zac r'
 simp only [go_sem, Nat.zero_add, c0]
 have tell : ∀ {h2 : Heap} {ev : EvD} {w' : WD} {d' : QD} {n' : Pic} {B' Q' : Nat → Prop}, h2[b1]? = some (.cells #[.int .i64 0, .int .i64 0, .int .i64 0, .int .i64 0] 37 (0, 0)) → Fr (fun c => outB E c ∨ B c ∨ Q c ∨ Qo c) h h2 → IsW Z B' h2 bw E n' w' → IsQ Q' h2 bq d' → (∀ c, B' c → (B c ∨ h.size ≤ c) ∧ c ≠ b1) → (∀ c, Q' c → (Q c ∨ h.size ≤ c) ∧ c ≠ b1) → (∀ c, B' c → ¬ Q' c) → Drew E w n n' →
   (takes w d → P1 h2) → (¬ takes w d → P0 h2) → stepW E jo w d = (w', d', ev) →
   stK 4 (ptr b1) (evV ev) h2 fun _ h3 => vK (ldsV 4 h3 (ptr b1)) fun v => v = evV (stepW E jo w d).2.2 ∧ Stepped Z B Q Qo h h3 bw bq E n w (stepW E jo w d).1 (stepW E jo w d).2.1 ∧ (takes w d → P1 h3) ∧ (¬ takes w d → P0 h3) := by
  intro h2 ev w' d' n' B' Q' e2 F2 W2 Q2 k1 k2 k3 D p1 p0 he
  refine zb9 (l := [.int .i64 ev.1, .int .i64 ev.2.1, .int .i64 ev.2.2.1, .int .i64 ev.2.2.2]) e2 rfl (zad rfl (zad rfl (zad rfl (zad rfl zao)))) rfl fun h3 r3 u3 => ?_
  rw [zav (l := [.int .i64 ev.1, .int .i64 ev.2.1, .int .i64 ev.2.2.1, .int .i64 ev.2.2.2]) r3 4 rfl, zaa, he]
  have zb1 : ∀ c, Z c → ¬ c = b1 := fun c hz he => by have := zl _ hz; omega
  have hp := hP h2 h3 (u3.fr.mono fun c _ hc => .inr (.inr (.inr (by have hc : c = b1 := hc; omega))))
  refine ⟨rfl, ⟨⟨n', B', Q', W2.other u3.fr zb1 (fun c hc => (k1 c hc).2) (W2.out.fr u3.fr fun c hc _ => by rw [show c = b1 from hc]; exact ob1) (zbz.refl n'), Q2.fr u3.fr fun c hc => (k2 c hc).2, fun c hc => (k1 c hc).1, fun c hc => (k2 c hc).1, k3, D⟩, F2.upd_new u3 nb1⟩, fun h => hp.2 (p1 h), fun h => hp.1 (p0 h)⟩
 have fE : fillL #[(.int .i64 0), (.int .i64 0), (.int .i64 0), (.int .i64 0)] [] = some #[.int .i64 0, .int .i64 0, .int .i64 0, .int .i64 0] := rfl
 have fL : fillL #[(.int .i64 0), (.int .i64 0), (.int .i64 0), (.int .i64 0)] [(0, 1, .int .i64 3)] = some #[.int .i64 3, .int .i64 0, .int .i64 0, .int .i64 0] := rfl
 have hB1 : ∀ c, B c → (B c ∨ h.size ≤ c) ∧ c ≠ b1 := fun c hc => ⟨.inl hc, fun he => by have := bl c hc; omega⟩
 have hQ1 : ∀ c, Q c → (Q c ∨ h.size ≤ c) ∧ c ≠ b1 := fun c hc => ⟨.inl hc, fun he => by have := hQb c hc; omega⟩
 by_cases s1 : w.state = 1
 ·-- a job goes on
  have hnt : ¬ takes w d := fun h => by have := h.1; omega
  obtain ⟨hg, htl⟩ : zou E w.job ∧ w.tiles ≠ [] := by
   rcases st with h | h
   ·exact h.2
   ·have := h.1; omega
  cases hjo : w.job with
  | none => rw [hjo] at hg; exact hg.elim
  | some q =>
   obtain ⟨t, y, e⟩ := q
   rw [hjo] at J hg
   obtain ⟨E', rfl, ok, hc, bj, rv, rfl, S⟩ := J
   have hg : stepK (E'.d t) y e ≠ 0 := hg
   have hds := job_wf ok.m ok.s.wf hc
   have c2 : zah h1 ⟨bw, 2, none⟩ = some (ptr bj) := zac r'
   simp only [go_sem, decide_eq_true s1, c2]
   refine (c_Step (S.ext e1) hds (ok.s.room ok.m hc)).mono fun rm h2 ⟨er, n', S2, f2, dr1, dr2⟩ => ?_
   subst er
   have hs2 := f2.1
   refine za1 (cs := [.int .i64 (stepK (E'.d t) y e), .int .i64 (stepJ (E'.d t) y e)]) rfl (zad rfl (zad rfl zao)) rfl fun b3 h3 r3 e3 n3 => ?_
   have S3 := S2.ext e3
   have hs3 := e3.1
   have OO := S3.out
   have D : zbz n n' := ⟨by rw [OO.w, S.out.w], by rw [OO.h, S.out.h], by rw [OO.c, S.out.c], by rw [OO.m, S.out.m]⟩
   have fq : ∀ c, (blk E'.vt c ∨ Bj c) → outB (some E') c ∨ B c := fun c hc => hc.imp id fun h => a2 c h
   have nw : ¬ (blk E'.vt bw ∨ Bj bw) := fun hc => hc.elim (bz _ w0).2.2 a3
   have r3w := e3.row (f2.row r' nw)
   have I3 : OutAt h3 (some E') n' := fun E2 hE => by cases hE; exact ⟨S3.img, OO.wf⟩
   have hb3 : ¬ Grow Bj h1 h2 bw := fun hc => hc.elim a3 fun h => by omega
   have J3 : zdL Z (Grow Bj h1 h2) h3 (some E') n' (ptr bj) (some (t, stepY (E'.d t) y e, stepE (E'.d t) y e)) := ⟨E', rfl, ok, D.newC hc, bj, rv, rfl, S3⟩
   refine (c_settle r3w J3 (bz _ w0).1 hb3 (bz _ w0).2.1 (bz _ w0).2.2 I3).mono fun _ h4 ⟨jv', r4, J4, f4⟩ => ?_
   have hs4 := f4.1
   have I4 : OutAt h4 (some E') n' := I3.fr f4 fun c hc _ => by rw [show c = bw from hc]; exact (bz _ w0).2
   have hv2 : ∀ c, blk tv c → ¬ (blk E'.vt c ∨ Bj c) := fun c hc h => h.elim (bz c (a1 c hc).1).2.2 (a1 c hc).2.1
   have o4 := (((o.fr (M := fun _ => False) e1.fr fun _ _ => id).fr f2 hv2).fr (M := fun _ => False) e3.fr fun _ _ => id).fr f4 fun c hc he => (a1 c hc).2.2 he
   have lb3 := zay r3
   have b13 : ¬ (blk E'.vt b1 ∨ Bj b1) := fun hc => hc.elim ob1.2 fun h => by have := bl _ (a2 _ h); omega
   have e4 := f4.row (e3.row (f2.row r1 b13)) fun hc => by omega
   have r34 := f4.row r3 fun hc => by omega
   have c1 : zah h4 ⟨bw, 1, none⟩ = some tv := zac r4
   obtain ⟨a, cp, et⟩ := o4.isSl
   have el : zag tv = some (.int .i64 (w.tiles.length : Int)) := by rw [et]; rfl
   have hl1 : 0 < w.tiles.length := List.length_pos_iff.2 htl
   obtain ⟨pp, p1, p2⟩ := (zpI (k := .i64) (l := w.tiles) o4).int_at (k' := .i64) (i := w.tiles.length - 1) (by omega)
   have p1 : idxV 1 tv (.int .i64 ((w.tiles.length : Int) - 1)) = some pp := by rw [show (w.tiles.length : Int) - 1 = ((w.tiles.length - 1 : Nat) : Int) by omega]; exact p1
   refine zan (fun g => g = h4) rfl ?_
   try simp only [go_sem, Nat.zero_add]
   refine zaf tv (fun g e => by rw [e]; exact c1) ?_
   try simp only [go_sem]
   refine zaf tv (fun g e => by rw [e]; exact c1) ?_
   refine zaf (.int .i64 (w.tiles.length : Int)) (fun _ _ => el) ?_
   simp only [go_sem]
   rw [w64 (n := (w.tiles.length : Int) - 1) (by omega) (by omega), p1, zaa]
   refine zaf (.int .i64 (w.tiles.getLast?.getD 0)) (fun g e => by rw [e, p2, List.getLast?_eq_getElem?, List.getElem?_eq_getElem]; rfl) ?_
   refine zaf (moveV (stepK (E'.d t) y e) (stepJ (E'.d t) y e)) (fun g e => by rw [e]; exact zav (l := [_, _]) r34 2 rfl) ?_
   have hf : ∀ z a b : Int, fillL #[(.int .i64 0), (.int .i64 0), (.int .i64 0), (.int .i64 0)] [(0, 1, .int .i64 2), (1, 1, .int .i64 z), (2, 2, moveV a b)] = some #[.int .i64 2, .int .i64 z, .int .i64 a, .int .i64 b] := fun _ _ _ => rfl
   simp only [go_sem, hf, zaA]
   have F4 : Fr (fun c => outB (some E') c ∨ B c) h h4 := ((e1.fr.trans (f2.mono fun c _ hc => fq c hc)).ext_r e3).trans (f4.mono fun c _ hc => .inr (hc ▸ w0))
   have hp := (hP h h4 (F4.mono fun c _ hc => hc.imp id .inl)).1 p0
   have nq : ∀ c, Q c → ¬ (outB (some E') c ∨ B c) := fun c hc h => h.elim (qz c hc).2.2 fun h => bq' c h hc
   refine tell (ev := (2, w.tiles.getLast?.getD 0, stepK (E'.d t) y e, stepJ (E'.d t) y e)) (w' := ⟨stJ (zaJ (some E') (some (t, stepY (E'.d t) y e, stepE (E'.d t) y e))), w.tiles, zaJ (some E') (some (t, stepY (E'.d t) y e, stepE (E'.d t) y e)), w.words⟩) (B' := Grow B h1 h4) (Q' := Q) e4 (F4.mono fun c _ hc => hc.imp id .inl)
    ⟨⟨tv, jv', Grow Bj h1 h2, r4, o4, J4, fun c hc => ⟨.inl (a1 c hc).1, fun h9 => ?_, (a1 c hc).2.2⟩, fun c hc => hc.imp (a2 c) fun h => ⟨h.1, by omega⟩, hb3⟩, .inl w0, zrm (fun c hc => Nat.lt_of_lt_of_le (bl c hc) hs1) (by omega), fun c hc => ?_, fun c hc => Nat.lt_of_lt_of_le (zl c hc) F4.1, I4, ?_⟩
    (HQ.fr F4 nq) (fun c hc => ⟨?_, fun he => ?_⟩) hQ1 (fun c hc hq => ?_) ⟨D, ?_⟩ (fun h => absurd h hnt) (fun _ => hp) ?_
   ·rcases h9 with h9 | h9
    ·exact (a1 c hc).2.1 h9
    ·have := bl c (a1 c hc).1; omega
   ·rcases hc with h9 | h9
    ·exact bz c h9
    ·exact ⟨fun hz => by have := zl c hz; omega, I.new (by omega)⟩
   ·rcases znO (E := some E') (jo := some (t, stepY (E'.d t) y e, stepE (E'.d t) y e)) with ⟨h9, h10⟩ | h9
    ·exact .inl ⟨h9, h10, htl⟩
    ·exact .inr h9
   ·exact hc.imp id fun h => by omega
   ·rcases hc with h9 | h9
    ·exact (hB1 c h9).2 he
    ·omega
   ·rcases hc with h9 | h9
    ·exact bq' c h9 hq
    ·have := hQb c hq; omega
   ·rw [hjo]
    exact ⟨S.out, OO, dr1, dr2⟩
   ·unfold stepW
    rw [if_pos s1, hjo]
 ·have hjn : w.job = none := by
   rcases st with h | h
   ·exact absurd h.1 s1
   ·exact h.2
  simp only [go_sem, decide_eq_false s1]
  refine zab (fun s2 => ?_) (fun s2 => ?_)
  ·-- it is gone
   simp only [go_sem, fE, zaA]
   have hnt : ¬ takes w d := fun h => by have := h.1; omega
   exact tell (ev := (0, 0, 0, 0)) (r1) e1.fr H1 HQ1 hB1 hQ1 bq' (Drew.same hjn) (fun h => absurd h hnt) (fun _ => (hP h h1 e1.fr).1 p0) (by unfold stepW; rw [if_neg s1, if_pos s2])
  ·have s0 : w.state = 0 := by
    rcases st with h | h
    ·exact absurd h.1 s1
    ·exact h.1.resolve_right s2
   refine (c_qReceive HQ1).mono fun rr h2 ⟨er, Q2, f2⟩ => ?_
   subst er
   have hs2 := f2.1
   have x0 : extV (.tuple #[.int .i64 (recvX d), .int .i64 (recvR d)]) 0 = some (.int .i64 (recvX d)) := rfl
   have x1 : extV (.tuple #[.int .i64 (recvX d), .int .i64 (recvR d)]) 1 = some (.int .i64 (recvR d)) := rfl
   have H2 : IsW Z B h2 bw E n w := H1.other f2 (fun c hz hq => (qz c hq).1 hz) bq' (I1.fr f2 fun c hc _ => (qz c hc).2) (zbz.refl n)
   have e2 := f2.row r1 fun hc => by have := hQb _ hc; omega
   have F2 : Fr (fun c => outB E c ∨ B c ∨ Q c ∨ h.size ≤ c) h h2 := e1.fr.trans (f2.mono fun c _ hc => .inr (.inr (.inl hc)))
   have F2' : Fr (fun c => outB E c ∨ B c ∨ Q c ∨ Qo c) h h2 := e1.fr.trans (f2.mono fun c _ hc => .inr (.inr (.inl hc)))
   have hg2 : ∀ c, Grow Q h1 h2 c → (Q c ∨ h.size ≤ c) ∧ c ≠ b1 := fun c hc => hc.elim (fun h => hQ1 c h) fun h => ⟨.inr (by omega), by omega⟩
   have bg : ∀ c, B c → ¬ Grow Q h1 h2 c := fun c hc hq => hq.elim (bq' c hc) fun h => by have := bl c hc; omega
   simp only [go_sem, x0, x1]
   refine zab (fun g0 => ?_) (fun g0 => ?_)
   ·have ht0 : takes w d := ⟨s0, g0⟩
    refine (c_take H2 s0 ht (jo := jo) (Qo := Qo) (P0 := P0) (P1 := P1) ?_ ?_ ?_ ((hP h h2 F2).1 p0)).mono fun rr h3 ⟨er, W3, f3, p3⟩ => ?_
    ·rcases HO ht0 with ho | ⟨ho1, ho2⟩
     ·exact .inl ho
     ·refine .inr ⟨ho1, fun h3 f3 p3 => ho2 h3 ?_ p3⟩
      exact (e1.fr.trans (f2.mono fun c _ hc => .inr hc)).after f3 fun c _ hc => .inl hc
    ·exact fun c hc => by have := qo c hc; exact ⟨by omega, this.2.1, this.2.2.2⟩
    ·exact fun g g' f => hP g g' (f.mono fun c _ hc => hc.elim (fun h => .inr (.inl h)) fun h => .inr (.inr (.inr (by omega))))
    ·subst er
     have hs3 := f3.1
     have q3 : ∀ c, Grow Q h1 h2 c → ¬ (B c ∨ Qo c) := fun c hc hb => hc.elim (fun h => hb.elim (fun hb => bq' c hb h) fun hb => (qo c hb).2.2.1 h) fun h => hb.elim (fun hb => by have := bl c hb; omega) fun hb => by have := (qo c hb).1; omega
     refine tell (ev := (1, recvX d, 0, 0)) (f3.row e2 fun hc => hc.elim (fun h => (hB1 _ h).2 rfl) fun h => by have := (qo _ h).1; omega) (F2'.trans (f3.mono fun c _ hc => hc.elim (fun h => .inr (.inl h)) fun h => .inr (.inr (.inr h)))) W3 (Q2.fr f3 q3)
      (fun c hc => hc.elim (fun h => hB1 c h) fun h => ⟨.inr (by omega), by omega⟩) hg2 (fun c hc hq => ?_) (Drew.same hjn) (fun _ => p3) (fun h => absurd ht0 h) (by unfold stepW; rw [if_neg s1, if_neg s2, if_pos g0])
     rcases hc with h9 | h9
     ·exact bg c h9 hq
     ·rcases hq with h8 | h8
      ·have := hQb c h8; omega
      ·omega
   ·have hnt : ¬ takes w d := fun h => g0 h.2
    refine zab (fun g2 => ?_) (fun g2 => ?_)
    ·obtain ⟨⟨tv2, jv2, Bj2, r2, o2, J2, k1, k2, k3⟩, _, l2, z2, zl2, I2, _⟩ := H2
     rw [hjn] at J2
     have hj2 : jv2 = .pointer none := J2
     subst hj2
     try simp only [go_sem]
     refine zaO r2 (by simp) rfl fun h3 r3 u3 => ?_
     have r3 : h3[bw]? = some (.cells #[.int .i64 2, tv2, .pointer none, .int .i64 w.words] 117 (0, 0)) := r3
     have hs3 := u3.1
     simp only [go_sem, fL, zaA]
     refine tell (ev := (3, 0, 0, 0)) (w' := { w with state := 2 }) (B' := B) (u3.row (by omega) e2) (F2'.after u3.fr fun c _ hc => .inr (.inl (hc ▸ w0))) ⟨⟨tv2, .pointer none, Bj2, r3, o2.fr u3.fr fun c hc he => (k1 c hc).2.2 he, ?_, k1, k2, k3⟩, w0, fun c hc => by rw [hs3]; exact l2 c hc, bz, fun c hc => by rw [hs3]; exact zl2 c hc, I2.fr u3.fr fun c hc _ => by rw [show c = bw from hc]; exact (bz _ w0).2, .inr ⟨.inr rfl, hjn⟩⟩
      (Q2.fr u3.fr fun c hc he => bg bw w0 (he ▸ hc)) hB1 hg2 bg (Drew.same hjn) (fun h => absurd h hnt) (fun _ => (hP h2 h3 (u3.fr.mono fun c _ hc => .inr (.inl (hc ▸ w0)))).1 ((hP h h2 F2).1 p0)) (by unfold stepW; rw [if_neg s1, if_neg s2, if_neg g0, if_pos g2])
     show zdL Z Bj2 h3 E n (.pointer none) w.job
     rw [hjn]; rfl
    ·simp only [go_sem, fE, zaA]
     exact tell (ev := (0, 0, 0, 0)) e2 F2' H2 Q2 hB1 hg2 bg (Drew.same hjn) (fun h => absurd h hnt) (fun _ => (hP h h2 F2).1 p0) (by unfold stepW; rw [if_neg s1, if_neg s2, if_neg g0, if_neg g2])
theorem c_CloneI {h : Heap} {Z : Nat → Prop} {v : Value} {l : List Int} (H : Rp.Sl (Rp.int .i64) Z h v l) (hl : l.length ≤ 1000000000) :
  FCall prog zb0 #[v] h fun r h' => New (Rp.int .i64) h h' r l := by
 apply zfY
 unfold zcZ
 obtain ⟨ds, ⟨hl1, a, cap, rfl, hs⟩, hz, he⟩ := H
 rw [zoM, zaa]
 cases a with
 | none =>
  have : l = [] := by
   rcases hs with hs | ⟨b, o, h0, _⟩
   ·subst hs
    have h2 : ([] : List Value).length = l.length * 1 := hl1
    exact List.eq_nil_of_length_eq_zero (by simpa using h2.symm)
   ·cases h0
  subst this
  simp only [Option.isNone_none, go_sem]
  exact New.nil (Ext.refl _)
 | some a =>
  simp only [Option.isNone_some, go_sem]
  refine zb5 (c' := #[]) rfl fun b h1 r1 e1 n1 => ?_
  have O : Rp.Ow (Rp.int .i64) (fun _ => False) h1 (.slice (some ⟨b, 0, none⟩) 0 0) [] := ⟨[], .inr ⟨b, 0, [], _, rfl, Nat.le_refl _, rfl, rfl, r1⟩, fun b hb hb' => hb', fun i hi => absurd hi (by simp)⟩
  have S1 : SlC 1 h1 (.slice (some a) l.length cap) l.length ds := SlC.ext ⟨hl1, some a, cap, rfl, hs⟩ e1
  refine Rp.app_ow (e := (Rp.int .i64)) (l := []) (l2 := l) O S1 (fun i hi => he i hi) rfl (by simp; omega) (by simp; omega) (fun b hb => hb.elim) fun v2 h2 O2 f2 n2 => ?_
  rw [List.nil_append] at O2
  have nb : ∀ k, blk (.slice (some ⟨b, 0, none⟩) 0 0) k → h.size ≤ k := fun k hk => by have : k = b := hk; omega
  refine ⟨O2, e1.then_fr f2 nb, fun k hk => ?_⟩
  rcases n2 k hk with h3 | h3
  ·exact nb k h3
  ·exact Nat.le_trans e1.1 h3
theorem c_Tiles (H : IsW Z B h bw E n w) (ht : w.tiles.length ≤ 1000000) : FCall prog zaP #[ptr bw] h fun r h' => New (Rp.int .i64) h h' r w.tiles := by
 apply zhW
 unfold zdW
 obtain ⟨⟨tv, jv, Bj, r, o, J, a1, a2, a3⟩, w0, bl, bz, zl, I, st⟩ := H
 have c1 : zah h ⟨bw, 1, none⟩ = some tv := zac r
 simp only [go_sem, c1]
 exact c_CloneI (zpI (k := .i64) (l := w.tiles) o) (by omega)
end
end
end Go.Proofs.YtdbebmafgpdfhaaGreatDoor
namespace Go.Proofs.YtdbebmafgpdfhaaGreatDoor
open Go Go.Crisp
open _root_.Go.Proofs.Tryz
section
theorem clK_1 {f : FuncId} {a c : Value} {h : Heap} {K : Value → Heap → Prop} : clK prog (.func (.func f) #[] #[c]) #[a] h K = FCall prog f #[a, c] h K := rfl
theorem clK_4 {f : FuncId} {a c1 c2 c3 c4 : Value} {h : Heap} {K : Value → Heap → Prop} : clK prog (.func (.func f) #[] #[c1, c2, c3, c4]) #[a] h K = FCall prog f #[a, c1, c2, c3, c4] h K := rfl
theorem clK_5 {f : FuncId} {a c1 c2 c3 c4 c5 : Value} {h : Heap} {K : Value → Heap → Prop} : clK prog (.func (.func f) #[] #[c1, c2, c3, c4, c5]) #[a] h K = FCall prog f #[a, c1, c2, c3, c4, c5] h K := rfl
attribute [local irreducible] FCall rowK newK stK iteK vK qK drawK gK joinK loopK mkK appK cpyK zni zla bsK clK zhc zfF newmK
theorem ev_ne (a b : EvD) : binV (.st [(0, 1, .i), (1, 1, .i), (2, 2, (.st [(0, 1, .i), (1, 1, .i)]))]) .neq (evV a) (evV b) = some (.bool (decide (a ≠ b))) := by
 obtain ⟨a1, a2, a3, a4⟩ := a
 obtain ⟨b1, b2, b3, b4⟩ := b
 have e1 : (a1 == b1) = decide (a1 = b1) := rfl
 have e2 : (a2 == b2) = decide (a2 = b2) := rfl
 have e3 : (a3 == b3) = decide (a3 = b3) := rfl
 have e4 : (a4 == b4) = decide (a4 = b4) := rfl
 simp only [binV, eqV, seEqL, seEq, seAgg, partV, cond_false, cond_true, List.getElem?_toArray, List.getElem?_cons_zero, List.getElem?_cons_succ, if_true, e1, e2, Prod.mk.injEq, ne_eq]
 by_cases h1 : a1 = b1 <;> by_cases h2 : a2 = b2 <;> by_cases h3 : a3 = b3 <;> by_cases h4 : a4 = b4 <;> simp [h1, h2, h3, h4, e3, e4]
theorem ev_eq (a b : EvD) : binV (.st [(0, 1, .i), (1, 1, .i), (2, 2, (.st [(0, 1, .i), (1, 1, .i)]))]) .eql (evV a) (evV b) = some (.bool (decide (a = b))) := by
 obtain ⟨a1, a2, a3, a4⟩ := a
 obtain ⟨b1, b2, b3, b4⟩ := b
 have e1 : (a1 == b1) = decide (a1 = b1) := rfl
 have e2 : (a2 == b2) = decide (a2 = b2) := rfl
 have e3 : (a3 == b3) = decide (a3 = b3) := rfl
 have e4 : (a4 == b4) = decide (a4 = b4) := rfl
 simp only [binV, eqV, seEqL, seEq, seAgg, partV, cond_false, cond_true, List.getElem?_toArray, List.getElem?_cons_zero, List.getElem?_cons_succ, if_true, e1, e2, Prod.mk.injEq, ne_eq]
 by_cases h1 : a1 = b1 <;> by_cases h2 : a2 = b2 <;> by_cases h3 : a3 = b3 <;> by_cases h4 : a4 = b4 <;> simp [h1, h2, h3, h4, e3, e4]
abbrev noPic : Pic := ⟨0, 0, 0, 0, []⟩
abbrev noZ : Nat → Prop := fun _ => False
theorem Drew.none {w : WD} {n n' : Pic} (D : Drew none w n n') : n' = n := by
 have := D.2
 cases h : w.job <;> simp only [h] at this <;> exact this
def StepN (B Q : Nat → Prop) (M : Nat → Prop) (h h' : Heap) (bw bq : Nat) (w : WD) (d : QD) : Prop :=
 ∃ B' Q', IsW noZ B' h' bw none noPic w ∧ IsQ Q' h' bq d ∧ (∀ c, B' c → B c ∨ h.size ≤ c) ∧ (∀ c, Q' c → Q c ∨ h.size ≤ c) ∧ (∀ c, B' c → ¬ Q' c) ∧ Fr (fun c => B c ∨ Q c ∨ M c) h h'
section
variable {B Q : Nat → Prop} {h : Heap} {bw bq : Nat} {w : WD} {d : QD}
theorem zly (H : IsW noZ B h bw none noPic w) (HQ : IsQ Q h bq d) (ht : w.tiles.length ≤ 1000000) (bq' : ∀ c, B c → ¬ Q c) :
  FCall prog zas #[ptr bw, ptr bq, .nilFunc] h fun r h' => r = evV (stepW none none w d).2.2 ∧ StepN B Q noZ h h' bw bq (stepW none none w d).1 (stepW none none w d).2.1 :=
 (c_wStep (Z := noZ) (ov := .nilFunc) (jo := none) (Qo := noZ) (P0 := fun _ => True) (P1 := fun _ => True) H HQ ht (fun _ => .inl ⟨rfl, rfl, fun _ h => h⟩) bq' (fun _ _ => ⟨id, trivial, id⟩) (fun _ h => h.elim) (fun _ _ _ => ⟨id, id⟩) trivial).mono
  fun r h' ⟨e, ⟨⟨n', B', Q', W, q, k1, k2, k3, D⟩, f⟩, _⟩ => by
   have := D.none
   subst this
   exact ⟨e, B', Q', W, q, k1, k2, k3, f.mono fun c _ hc => hc.elim (fun h => h.elim) id⟩
theorem zoF {ba : Nat} {k : Int} (H : IsW noZ B h bw none noPic w) (HQ : IsQ Q h bq d) (ht : w.tiles.length ≤ 1000000) (bq' : ∀ c, B c → ¬ Q c) (ra : h[ba]? = some (.cells #[.int .i64 k] 3 (0, 0))) (hk : 0 ≤ k ∧ k ≤ 1000000) (hab : ¬ B ba) (haq : ¬ Q ba) :
  FCall prog zas #[ptr bw, ptr bq, .func (.func zbY) #[] #[ptr ba]] h fun r h' => r = evV (stepW none none w d).2.2 ∧ StepN B Q (fun c => c = ba) h h' bw bq (stepW none none w d).1 (stepW none none w d).2.1 ∧ (takes w d → h'[ba]? = some (.cells #[.int .i64 (k + 1)] 3 (0, 0))) ∧ (¬ takes w d → h'[ba]? = some (.cells #[.int .i64 k] 3 (0, 0))) := by
 have la := zay ra
 refine (c_wStep (Z := noZ) (jo := none) (Qo := fun c => c = ba) (P0 := fun g => g[ba]? = some (.cells #[.int .i64 k] 3 (0, 0))) (P1 := fun g => g[ba]? = some (.cells #[.int .i64 (k + 1)] 3 (0, 0))) H HQ ht (fun _ => .inr ⟨rfl, fun h1 f1 r1 => ?_⟩) bq' (fun _ _ => ⟨id, trivial, id⟩) (fun c hc => by subst hc; exact ⟨la, hab, haq, id, trivial, id⟩) (fun g g' f => ?_) ra).mono
  fun r h' ⟨e, ⟨⟨n', B', Q', W, q, k1, k2, k3, D⟩, f⟩, p1, p0⟩ => by
   have := D.none
   subst this
   exact ⟨e, ⟨B', Q', W, q, k1, k2, k3, f.mono fun c _ hc => hc.elim (fun h => h.elim) id⟩, p1, p0⟩
 ·rw [clK_1]
  apply zh2
  unfold zd2
  have c0 : zah h1 ⟨ba, 0, none⟩ = some (.int .i64 k) := zac r1
  simp only [go_sem, c0]
  rw [w64 (n := k + 1) (by omega) (by omega)]
  refine zaO r1 (by simp) rfl fun h2 r2 u2 => ?_
  exact ⟨noZ, fun c hc => hc.elim, rfl, u2.fr, r2⟩
 ·have hm : ¬ ((fun c => outB none c ∨ B c ∨ Q c ∨ h.size ≤ c) ba) := fun hc => hc.elim id fun hc => hc.elim hab fun hc => hc.elim haq fun hc => by omega
  exact ⟨fun h => f.row h hm, fun h => f.row h hm⟩
end
theorem zi3 {h : Heap} (G : GlobB h) : FCall prog zcV #[] h fun r h' => r = .bool true ∧ Ext h h' := by
 apply zo9
 unfold zjC
 refine zhg.mono fun r h1 ⟨bw, er, r1, e1, n1⟩ => ?_
 subst er
 refine c_qNew.mono fun r h2 ⟨bq, er, Q2, e2, n2⟩ => ?_
 subst er
 have E2 := e1.trans e2
 refine FCall.to (c_l17Lives (G.ext E2)) fun h3 e3 => ?_
 have E3 := E2.trans e3
 have lw := zay r1
 have W3 : IsW noZ (fun c => c = bw) h3 bw none noPic ⟨0, [], none, 0⟩ := IsW.new ((e2.trans e3).row r1) id trivial id (fun _ h => h.elim) fun _ h => by cases h
 have Q3 := Q2.ext e3
 simp only [go_sem, ptr_en]
 refine (zly W3 Q3 (by simp) fun c hc hq => by have hq : c = bq := hq; have hc : c = bw := hc; omega).mono fun r h4 ⟨er, B4, q4, W4, Q4, k1, k2, k3, f4⟩ => ?_
 subst er
 have s1 : stepW none none ⟨0, [], none, 0⟩ ⟨min (max 1 1) 4096, [], false⟩ = (⟨0, [], none, 0⟩, ⟨1, [], false⟩, (0, 0, 0, 0)) := rfl
 rw [s1] at W4 Q4 ⊢
 have E4 : Ext h h4 := E3.then_fr f4 fun c hc => by
  rcases hc with hc | hc | hc
  ·rw [show c = bw from hc]; exact n1
  ·rw [show c = bq from hc]; exact Nat.le_trans e1.1 n2
  ·exact hc.elim
 have hB4 : ∀ c, B4 c → h.size ≤ c := fun c hc => (k1 c hc).elim (fun h => by rw [h]; exact n1) fun h => Nat.le_trans E3.1 h
 have hq4 : ∀ c, q4 c → h.size ≤ c := fun c hc => (k2 c hc).elim (fun h => by rw [h]; exact Nat.le_trans e1.1 n2) fun h => Nat.le_trans E3.1 h
 have f0 : fillL #[(.int .i64 0), (.int .i64 0), (.int .i64 0), (.int .i64 0)] [] = some #[.int .i64 0, .int .i64 0, .int .i64 0, .int .i64 0] := rfl
 have f3 : fillL #[(.int .i64 0), (.int .i64 0), (.int .i64 0), (.int .i64 0)] [(0, 1, .int .i64 3)] = some #[.int .i64 3, .int .i64 0, .int .i64 0, .int .i64 0] := rfl
 have n0 := ev_ne (0, 0, 0, 0) (0, 0, 0, 0)
 have q0 := ev_eq (0, 0, 0, 0) (0, 0, 0, 0)
 have q3 := ev_eq (3, 0, 0, 0) (3, 0, 0, 0)
 simp only [go_sem, f0, zaA, n0, ne_eq, not_true, decide_false]
 refine FCall.at (zp7 W4 Q4) ?_
 have d1 : decide ((0 : Int) = 1 ∨ ((0 : Int) = 0 ∧ recvR ⟨1, [], false⟩ ≠ 1)) = false := rfl
 rw [d1]
 simp only [go_sem]
 refine (znt Q4).mono fun _ h5 ⟨_, Q5, f5⟩ => ?_
 have W5 := W4.other f5 (fun c h => h.elim) k3 (fun _ h => by cases h) (zbz.refl _)
 have E5 := E4.then_fr f5 hq4
 refine FCall.at (zp7 W5 Q5) ?_
 have d2 : decide ((0 : Int) = 1 ∨ ((0 : Int) = 0 ∧ recvR ⟨1, [], true⟩ ≠ 1)) = true := rfl
 rw [d2]
 simp only [go_sem]
 refine (zly W5 Q5 (by simp) k3).mono fun r h6 ⟨er, B6, q6, W6, Q6, l1, l2, l3, f6⟩ => ?_
 subst er
 have s2 : stepW none none ⟨0, [], none, 0⟩ ⟨1, [], true⟩ = (⟨2, [], none, 0⟩, ⟨1, [], true⟩, (3, 0, 0, 0)) := rfl
 rw [s2] at W6 Q6 ⊢
 have E6 : Ext h h6 := E5.then_fr f6 fun c hc => hc.elim (hB4 c) fun hc => hc.elim (hq4 c) fun hc => hc.elim
 simp only [go_sem, f3, zaA, q3, decide_true]
 refine (zly W6 Q6 (by simp) l3).mono fun r h7 ⟨er, B7, q7, W7, Q7, m1, m2, m3, f7⟩ => ?_
 subst er
 have s3 : stepW none none ⟨2, [], none, 0⟩ ⟨1, [], true⟩ = (⟨2, [], none, 0⟩, ⟨1, [], true⟩, (0, 0, 0, 0)) := rfl
 rw [s3] at W7 Q7 ⊢
 have E7 : Ext h h7 := E6.then_fr f7 fun c hc => by
  have hs := E5.1
  rcases hc with hc | hc | hc
  ·exact (l1 c hc).elim (hB4 c) fun h => by omega
  ·exact (l2 c hc).elim (hq4 c) fun h => by omega
  ·exact hc.elim
 simp only [go_sem, f0, zaA, q0, decide_true]
 refine FCall.at (c_State W7) ?_
 simp only [go_sem]
 exact ⟨trivial, E7⟩
theorem zrp {l : List Int} {i : Nat} (hi : i < l.length) : l.drop i = l[i] :: l.drop (i + 1) := (List.drop_eq_getElem_cons hi)
theorem c_WorkerNone {h : Heap} (G : GlobB h) {v : Value} {l : List Int} {Z : Nat → Prop} (H : Rp.Sl (Rp.int .i64) Z h v l) (hl : l.length ≤ 1000000000000000) {nb : Bool} :
  FCall prog zdT #[v, .bool nb] h fun r h' => r = .bool true ∧ Ext h h' := by
 apply zj6
 unfold zfw
 refine FCall.to (zi3 G) fun h1 e1 => ?_
 obtain ⟨a, cp, ev⟩ := H.isSl
 have el : zag v = some (.int .i64 (l.length : Int)) := by rw [ev]; rfl
 simp only [go_sem, el]
 refine zab (fun g => ?_) (fun g => ?_)
 ·refine FCall.to (zi3 (G.ext e1)) fun h2 e2 => ?_
  exact ⟨rfl, e1.trans e2⟩
 have hl60 : l.length ≤ 60 := by omega
 refine zhg.mono fun r h2 ⟨bw, er, r2, e2, n2⟩ => ?_
 subst er
 refine c_qNew.mono fun r h3 ⟨bq, er, Q3, e3, n3⟩ => ?_
 subst er
 have E2 := e1.trans e2
 have E3 := E2.trans e3
 have lw := zay r2
 have hs1 := e1.1
 have hs2 := e2.1
 have hs3 := e3.1
 refine zaD (α := Unit) l.length 0 (fun i _ => [.int .i64 (i : Int)]) (fun i _ g => ∃ Q', IsQ Q' g bq ⟨60, l.take i, false⟩ ∧ Ext h g ∧ (∀ c, Q' c → h2.size ≤ c) ∧ g[bw]? = some (.cells #[.int .i64 0, .slice none 0 0, .pointer none, .int .i64 0] 117 (0, 0)) ∧ h3.size ≤ g.size) () rfl (Nat.zero_le _)
  ⟨_, Q3, E3, fun c hc => by rw [hc]; exact n3, e3.row r2, Nat.le_refl _⟩ fun i _ g again ρ _ hi ⟨Q', q, E, hq, rw', hg⟩ Hag => ?_
 simp only [ix_0]
 rw [zbM, zaa]
 refine zab (fun g1 => ?_) (fun g1 => ?_)
 ·have hi' : i < l.length := by omega
  obtain ⟨pp, p1, p2⟩ := (H.ext E).int_at (k' := .i64) hi'
  have p1 : idxV 1 v (.int .i64 (i : Int)) = some pp := p1
  simp only [go_sem, p1, p2]
  refine (c_qSend q).mono fun _ g2 ⟨_, q2, f2⟩ => ?_
  have hs : sendQ ⟨60, l.take i, false⟩ l[i] = ⟨60, l.take (i + 1), false⟩ := by
   unfold sendQ
   rw [if_neg (by simp), if_neg (by simp; omega)]
   show QD.mk 60 (l.take i ++ [l[i]]) false = _
   rw [List.take_succ_eq_append_getElem hi']
  rw [hs] at q2
  have hw' : (i : Int) + 1 = ((i + 1 : Nat) : Int) := by omega
  try simp only [go_sem]
  rw [w64 (n := (i : Int) + 1) (by omega) (by omega), hw']
  have hgs := f2.1
  exact Hag () g2 hi' ⟨_, q2, E.then_fr f2 fun c hc => by have := hq c hc; omega, fun c hc => hc.elim (hq c) fun h => by omega, f2.row rw' fun hc => by have := hq _ hc; omega, by omega⟩
 have hil : i = l.length := by omega
 subst hil
 rw [List.take_length] at q
 refine (znt q).mono fun _ h4 ⟨_, q4, f4⟩ => ?_
 have hs4 := f4.1
 refine zai fun ba h5 r5 e5 n5 => ?_
 refine zaO r5 (by simp) rfl fun h6 r6 u6 => ?_
 have r6 : h6[ba]? = some (.cells #[.int .i64 0] 3 (0, 0)) := r6
 have E4 := E.then_fr f4 fun c hc => by have := hq c hc; omega
 have E6 : Ext h h6 := (E4.trans e5).upd (Nat.le_trans E4.1 n5) u6
 have hs5 := e5.1
 have hs6 := u6.1
 have lq : ∀ c, Q' c → c < h4.size := q4.ql
 have W4 : IsW noZ (fun c => c = bw) h4 bw none noPic ⟨0, [], none, 0⟩ := IsW.new (f4.row rw' fun hc => by have := hq _ hc; omega) id trivial id (fun _ h => h.elim) fun _ h => by cases h
 have W6 := (W4.ext e5).other u6.fr (fun _ h => h.elim) (fun c hc he => by have hc : c = bw := hc; have he : c = ba := he; omega) (fun _ h => by cases h) (zbz.refl _)
 have q6 := (q4.ext e5).fr u6.fr fun c hc he => by have := lq c hc; have he : c = ba := he; omega
 simp only [go_sem, el]
 refine zaD (α := Unit) l.length 0 (fun i _ => [.int .i64 (i : Int)]) (fun i _ g => ∃ B' Q', IsW noZ B' g bw none noPic ⟨0, l.take i, none, 0⟩ ∧ IsQ Q' g bq ⟨60, l.drop i, true⟩ ∧ (∀ c, B' c → ¬ Q' c) ∧ g[ba]? = some (.cells #[.int .i64 (if nb then 0 else (i : Int))] 3 (0, 0)) ∧ ¬ B' ba ∧ ¬ Q' ba ∧ (∀ c, B' c → h.size ≤ c) ∧ (∀ c, Q' c → h.size ≤ c) ∧ Ext h g ∧ h6.size ≤ g.size) () rfl (Nat.zero_le _) ?_ fun i _ g again ρ _ hi ⟨B', Q', W, q, hbq, ra, ab, aq, hb, hq, E, hg⟩ Hag => ?_
 ·refine ⟨_, _, W6, q6, fun c hc hqc => ?_, by simpa using r6, fun hc => ?_, fun hc => ?_, fun c hc => ?_, fun c hc => ?_, E6, Nat.le_refl _⟩
  ·have hc : c = bw := hc
   have := hq c hqc; omega
  ·have hc : ba = bw := hc; omega
  ·have := lq _ hc; omega
  ·have hc : c = bw := hc; omega
  ·have := hq c hc; omega
 have lba := zay r6
 have hba : h.size ≤ ba := Nat.le_trans E4.1 n5
 simp only [ix_0]
 rw [zbM, zaa]
 refine zab (fun g1 => ?_) (fun g1 => ?_)
 ·have hi' : i < l.length := by omega
  obtain ⟨pp, p1, p2⟩ := (H.ext E).int_at (k' := .i64) hi'
  have p1 : idxV 1 v (.int .i64 (i : Int)) = some pp := p1
  have hd := zrp hi'
  have htk : takes ⟨0, l.take i, none, 0⟩ ⟨60, l.drop i, true⟩ := ⟨rfl, by rw [hd]; rfl⟩
  have hst : stepW none none ⟨0, l.take i, none, 0⟩ ⟨60, l.drop i, true⟩ = (⟨0, l.take (i + 1), none, 0⟩, ⟨60, l.drop (i + 1), true⟩, (1, l[i], 0, 0)) := by
   rw [hd, List.take_succ_eq_append_getElem hi']; rfl
  simp only [go_sem, p1, p2]
  refine zai fun be g2 re ee ne => ?_
  have W2 := W.ext ee
  have q2 := q.ext ee
  have hse := ee.1
  have lbe := zay re
  have hle : ∀ c, B' c → c < g.size := W.bl
  have hlq : ∀ c, Q' c → c < g.size := q.ql
  have lag := zay ra
  have nbe : g.size ≤ be := ne
  have hgh := E.1
  refine zau (fun xs g3 => ∃ B3 Q3, IsW noZ B3 g3 bw none noPic ⟨0, l.take (i + 1), none, 0⟩ ∧ IsQ Q3 g3 bq ⟨60, l.drop (i + 1), true⟩ ∧ (∀ c, B3 c → ¬ Q3 c) ∧ g3[ba]? = some (.cells #[.int .i64 (if nb then 0 else ((i + 1 : Nat) : Int))] 3 (0, 0)) ∧ ¬ B3 ba ∧ ¬ Q3 ba ∧ (∀ c, B3 c → h.size ≤ c) ∧ (∀ c, Q3 c → h.size ≤ c) ∧ Ext h g3 ∧ h6.size ≤ g3.size ∧ g3[be]? = some (.cells #[.int .i64 1, .int .i64 l[i], .int .i64 0, .int .i64 0] 37 (0, 0))) ?_ ?_
  ·-- the step, either way
   have fin : ∀ {g3 : Heap}, StepN B' Q' (fun c => c = ba) g2 g3 bw bq ⟨0, l.take (i + 1), none, 0⟩ ⟨60, l.drop (i + 1), true⟩ → g3[ba]? = some (.cells #[.int .i64 (if nb then 0 else ((i + 1 : Nat) : Int))] 3 (0, 0)) →
     stK 4 (ptr be) (evV (1, l[i], 0, 0)) g3 fun _ g3 => ∃ B3 Q3, IsW noZ B3 g3 bw none noPic ⟨0, l.take (i + 1), none, 0⟩ ∧ IsQ Q3 g3 bq ⟨60, l.drop (i + 1), true⟩ ∧ (∀ c, B3 c → ¬ Q3 c) ∧ g3[ba]? = some (.cells #[.int .i64 (if nb then 0 else ((i + 1 : Nat) : Int))] 3 (0, 0)) ∧ ¬ B3 ba ∧ ¬ Q3 ba ∧ (∀ c, B3 c → h.size ≤ c) ∧ (∀ c, Q3 c → h.size ≤ c) ∧ Ext h g3 ∧ h6.size ≤ g3.size ∧ g3[be]? = some (.cells #[.int .i64 1, .int .i64 l[i], .int .i64 0, .int .i64 0] 37 (0, 0)) := by
    intro g3 ⟨B3, Q3, W3, q3, k1, k2, k3, f3⟩ ra3
    have hs3 := f3.1
    have re3 := f3.row re fun hc => hc.elim (fun h => by have := hle _ h; omega) fun hc => hc.elim (fun h => by have := hlq _ h; omega) fun hc => by have hc : be = ba := hc; omega
    refine zb9 (l := [.int .i64 1, .int .i64 l[i], .int .i64 0, .int .i64 0]) re3 rfl (zad rfl (zad rfl (zad rfl (zad rfl zao)))) rfl fun g4 r4 u4 => ?_
    have hs4 := u4.1
    refine ⟨B3, Q3, W3.other u4.fr (fun _ h => h.elim) (fun c hc he => ?_) (fun _ h => by cases h) (zbz.refl _), q3.fr u4.fr fun c hc he => ?_, k3, u4.row (by omega) ra3, fun hc => ?_, fun hc => ?_, fun c hc => (k1 c hc).elim (hb c) fun h => by omega, fun c hc => (k2 c hc).elim (hq c) fun h => by omega, ?_, by omega, r4⟩
    ·have he : c = be := he
     rcases k1 c hc with h9 | h9
     ·have := hle c h9; omega
     ·omega
    ·have he : c = be := he
     rcases k2 c hc with h9 | h9
     ·have := hlq c h9; omega
     ·omega
    ·rcases k1 _ hc with h9 | h9
     ·exact ab h9
     ·omega
    ·rcases k2 _ hc with h9 | h9
     ·exact aq h9
     ·omega
    ·exact ((E.trans ee).then_fr f3 fun c hc => hc.elim (hb c) fun hc => hc.elim (hq c) fun hc => by rw [hc]; exact hba).upd (by omega) u4
   cases nb with
   | true =>
    simp only [go_sem]
    refine (zly W2 q2 (by simp; omega) hbq).mono fun r g3 ⟨er, B3, Q3, W3, q3, k1, k2, k3, f3⟩ => ?_
    rw [hst] at er W3 q3
    subst er
    exact fin ⟨B3, Q3, W3, q3, k1, k2, k3, f3.mono fun c _ hc => hc.elim .inl fun hc => hc.elim (fun h => .inr (.inl h)) fun h => h.elim⟩ (f3.row (ee.row ra) fun hc => hc.elim ab fun hc => hc.elim aq id)
   | false =>
    simp only [go_sem]
    refine (zoF W2 q2 (by simp; omega) hbq (ee.row ra) (by simp; omega) ab aq).mono fun r g3 ⟨er, S3, p1, p0⟩ => ?_
    rw [hst] at er S3
    subst er
    exact fin S3 (p1 htk)
  ·rintro xs ρ g3 ⟨B3, Q3, W3, q3, k3, ra3, ab3, aq3, hb3, hq3, E3, hg3, re3⟩
   rw [zav (l := [.int .i64 1, .int .i64 l[i], .int .i64 0, .int .i64 0]) re3 4 rfl, zaa]
   have hf : ∀ z : Int, fillL #[(.int .i64 0), (.int .i64 0), (.int .i64 0), (.int .i64 0)] [(0, 1, .int .i64 1), (1, 1, .int .i64 z)] = some #[.int .i64 1, .int .i64 z, .int .i64 0, .int .i64 0] := fun _ => rfl
   have hne := ev_ne (1, l[i], 0, 0) (1, l[i], 0, 0)
   simp only [go_sem, hf, zaA]
   rw [show binV (.st [(0, 1, .i), (1, 1, .i), (2, 2, (.st [(0, 1, .i), (1, 1, .i)]))]) .neq (.agg [.int .i64 1, .int .i64 l[i], .int .i64 0, .int .i64 0].toArray) (.agg #[.int .i64 1, .int .i64 l[i], .int .i64 0, .int .i64 0]) = _ from hne, decide_eq_false (by simp), zaa]
   simp only [go_sem]
   refine FCall.at (c_State W3) ?_
   simp only [go_sem]
   refine FCall.at (zoJ W3) ?_
   simp only [go_sem]
   have hw' : (i : Int) + 1 = ((i + 1 : Nat) : Int) := by omega
   rw [w64 (n := (i : Int) + 1) (by omega) (by omega), hw']
   exact Hag () g3 hi' ⟨B3, Q3, W3, q3, k3, ra3, ab3, aq3, hb3, hq3, E3, hg3⟩
 have hil : i = l.length := by omega
 subst hil
 rw [List.take_length] at W
 rw [List.drop_length] at q
 refine (zoF W q (by simp; omega) hbq ra (by cases nb <;> simp; omega) ab aq).mono fun r h7 ⟨er, ⟨B7, Q7, W7, q7, k1, k2, k3, f7⟩, p1, p0⟩ => ?_
 have hst : stepW none none ⟨0, l, none, 0⟩ ⟨60, [], true⟩ = (⟨2, l, none, 0⟩, ⟨60, [], true⟩, (3, 0, 0, 0)) := rfl
 rw [hst] at er W7 q7
 subst er
 have r7 := p0 (by rintro ⟨_, hh⟩; cases hh)
 have E7 : Ext h h7 := E.then_fr f7 fun c hc => hc.elim (hb c) fun hc => hc.elim (hq c) fun hc => by rw [hc]; exact hba
 have ht := c_Tiles W7 (by simp; omega)
 have c0 : zah h7 ⟨ba, 0, none⟩ = some (.int .i64 (if nb then 0 else (l.length : Int))) := zac r7
 have hp : partV false 1 0 (evV (3, 0, 0, 0)) = some (.int .i64 3) := rfl
 have fin : ∀ tv h8, New (Rp.int .i64) h7 h8 tv l → zag tv = some (.int .i64 (l.length : Int)) := fun tv h8 N => by
  obtain ⟨a, cp, e⟩ := N.sl.isSl
  rw [e]; rfl
 cases nb with
 | true =>
  have c0 : zah h7 ⟨ba, 0, none⟩ = some (.int .i64 0) := c0
  simp only [go_sem, hp, c0, eqT, decide_true]
  refine ht.mono fun tv h8 N => ?_
  simp only [go_sem, fin tv h8 N, el, eqT, decide_true]
  exact ⟨trivial, E7.trans N.2.1⟩
 | false =>
  have c0 : zah h7 ⟨ba, 0, none⟩ = some (.int .i64 (l.length : Int)) := c0
  simp only [go_sem, hp, c0, el, eqT, decide_true]
  refine ht.mono fun tv h8 N => ?_
  simp only [go_sem, fin tv h8 N, el, eqT, decide_true]
  exact ⟨trivial, E7.trans N.2.1⟩
end
end Go.Proofs.YtdbebmafgpdfhaaGreatDoor
namespace Go.Proofs.YtdbebmafgpdfhaaGreatDoor
open Go Go.Crisp
attribute [local irreducible] FCall rowK newK stK iteK vK qK drawK gK joinK loopK mkK appK cpyK zni zla bsK clK zhc zfF newmK
open _root_.Go.Proofs.Tryz
structure NwMk (h0 : Heap) (T : TypeId) (N : Pic) (im : Option (Nat × Value)) (va : Option (Nat × Bool)) (g : Heap) : Prop where
 ext : Ext h0 g
 mi : ∀ p, im = some p → IsImg g p.1 p.2 N ∧ h0.size ≤ p.1 ∧ ∀ c, blk p.2 c → h0.size ≤ c
 av : ∀ q, va = some q → h0.size ≤ q.1 ∧ g[q.1]? = some (.cells #[if q.2 then (match im with | some p => ptr p.1 | none => .pointer none) else .pointer none] T (0, 0))
 dis : ∀ p q, im = some p → va = some q → p.1 ≠ q.1 ∧ ¬ blk p.2 q.1
theorem NwMk.start (h : Heap) (T : TypeId) (N : Pic) : NwMk h T N none none h := ⟨Ext.refl _, by simp, by simp, by simp⟩
theorem NwMk.new {h0 g : Heap} {T : TypeId} {N : Pic} {im : Option (Nat × Value)} {K : Value → Heap → Prop} (M : NwMk h0 T N im none g) (H : ∀ b g', NwMk h0 T N im (some (b, false)) g' → K (ptr b) g') : newK #[.pointer none] T g K := by
 have hs := M.ext.1
 refine zai fun b g' r e n => H b g' ⟨M.ext.trans e, fun p hp => ⟨(M.mi p hp).1.ext e, (M.mi p hp).2⟩, fun q hq => ?_, fun p q hp hq => ?_⟩
 ·cases hq; exact ⟨Nat.le_trans hs n, r⟩
 ·cases hq
  have I := (M.mi p hp).1
  exact ⟨fun he => by have := I.lt; show False; have he : p.1 = b := he; omega, fun hv => by have := I.ltv hv; have : b < g.size := this; omega⟩
theorem NwMk.image {h0 g : Heap} {T : TypeId} {va : Option (Nat × Bool)} {w hh c most : Int} {K : Value → Heap → Prop} (M : NwMk h0 T (imgN w hh c most) none va g) (hc : imgC w hh c most = 0) (hv : ∀ q, va = some q → q.2 = false) (H : ∀ b v g', NwMk h0 T (imgN w hh c most) (some (b, v)) va g' → K (.tuple #[ptr b, .int .i64 0]) g') :
  FCall prog zat #[.int .i64 w, .int .i64 hh, .int .i64 c, .int .i64 most] g K := by
 refine zi4.mono fun r g' ⟨pn, er, e, _, s⟩ => ?_
 subst er
 obtain ⟨b, v, rfl, I, nb, nv, _⟩ := s hc
 have hs := M.ext.1
 rw [hc]
 refine H b v g' ⟨M.ext.trans e, fun p hp => by cases hp; exact ⟨I, Nat.le_trans hs nb, fun c hc => Nat.le_trans hs (nv c hc)⟩, fun q hq => ?_, fun p q hp hq => ?_⟩
 ·obtain ⟨a1, a2⟩ := M.av q hq
  rw [hv q hq] at a2 ⊢
  exact ⟨a1, e.row a2⟩
 ·cases hp
  have := zay (M.av q hq).2
  exact ⟨fun he => by have he : b = q.1 := he; omega, fun hb => by have := nv _ hb; omega⟩
theorem NwMk.st {h0 g : Heap} {T : TypeId} {N : Pic} {b bt : Nat} {vt : Value} {K : Value → Heap → Prop} (M : NwMk h0 T N (some (bt, vt)) (some (b, false)) g) (H : ∀ g', NwMk h0 T N (some (bt, vt)) (some (b, true)) g' → K undef g') : stK 1 (ptr b) (ptr bt) g K := by
 obtain ⟨a1, a2⟩ := M.av _ rfl
 obtain ⟨d1, d2⟩ := M.dis _ _ rfl rfl
 refine zaO a2 (by simp) rfl fun g' r u => H g' ⟨M.ext.upd a1 u, fun p hp => ?_, fun q hq => ?_, fun p q hp hq => ?_⟩
 ·cases hp
  obtain ⟨i1, i2⟩ := M.mi _ rfl
  exact ⟨i1.fr u.fr d1 fun c hv he => d2 (he ▸ hv), i2⟩
 ·cases hq; exact ⟨a1, r⟩
 ·cases hp; cases hq; exact ⟨d1, d2⟩
theorem NwMk.fin {h0 g : Heap} {T : TypeId} {N : Pic} {b bt : Nat} {vt : Value} (M : NwMk h0 T N (some (bt, vt)) (some (b, true)) g) : ∃ bt vt b', [ptr b, Value.int .i64 0] = [ptr b', .int .i64 0] ∧ NwMk h0 T N (some (bt, vt)) (some (b', true)) g := ⟨bt, vt, b, rfl, M⟩
structure Env21 (Z : Nat → Prop) (h : Heap) (bm bn bs bp bf : Nat) (vf : Value) (bt : Nat) (vt p q rv : Value) (bl : Nat) (pp pq : Value) (m n : Pic) (d : PlanD) : Prop where
 set : Setup Z h bf vf bt vt p q m n d.s
 ref : Rp.Sl rStg Z h rv [d.s]
 vm : ∃ t, h[bm]? = some (.cells #[ptr bf] t (0, 0))
 vn : ∃ t, h[bn]? = some (.cells #[ptr bt] t (0, 0))
 vs : ∃ t sv, h[bs]? = some (.cells #[sv] t (0, 0)) ∧ SlC 3 h sv 1 [p, q, .int .i64 d.s.border] ∧ ∀ c, blk sv c → Z c
 vp : ∃ t, h[bp]? = some (.cells #[ptr bl] t (0, 0))
 plan : zhV Z h bl d pp pq
 z : Z bm ∧ Z bn ∧ Z bs ∧ Z bp ∧ Z bl
theorem Env21.chg {Z Q : Nat → Prop} {h h' : Heap} {bm bn bs bp bf : Nat} {vf : Value} {bt : Nat} {vt p q rv : Value} {bl : Nat} {pp pq : Value} {m n n' : Pic} {d : PlanD} (H : Env21 Z h bm bn bs bp bf vf bt vt p q rv bl pp pq m n d) (f : Fr Q h h') (qz : ∀ c, Z c → ¬ Q c) (I : IsImg h' bt vt n') : Env21 Z h' bm bn bs bp bf vf bt vt p q rv bl pp pq m n' d := by
 obtain ⟨S, r, ⟨t1, m1⟩, ⟨t2, m2⟩, ⟨t3, sv, m3, c3, z3⟩, ⟨t4, m4⟩, ⟨p1, p2, p3⟩, z1, z2, z4, z5, z6⟩ := H
 exact ⟨S.chg f qz I, r.fr f (fun c _ h => qz c h), ⟨t1, f.row m1 (qz _ z1)⟩, ⟨t2, f.row m2 (qz _ z2)⟩, ⟨t3, sv, f.row m3 (qz _ z4), c3.fr f (fun c _ h => qz c (z3 c h)), z3⟩, ⟨t4, f.row m4 (qz _ z5)⟩, ⟨f.row p1 (qz _ z6), p2.fr f (fun c _ h => qz c h), p3.fr f (fun c _ h => qz c h)⟩, z1, z2, z4, z5, z6⟩
theorem Env21.ext {Z : Nat → Prop} {h h' : Heap} {bm bn bs bp bf : Nat} {vf : Value} {bt : Nat} {vt p q rv : Value} {bl : Nat} {pp pq : Value} {m n : Pic} {d : PlanD} (H : Env21 Z h bm bn bs bp bf vf bt vt p q rv bl pp pq m n d) (e : Ext h h') : Env21 Z h' bm bn bs bp bf vf bt vt p q rv bl pp pq m n d :=
 H.chg (Q := fun _ => False) e.fr (fun _ _ => id) (H.set.out.ext e)
theorem stg_row {Z : Nat → Prop} {h : Heap} {sv : Value} {s : Stg} (H : Rp.Sl rStgP Z h sv [s]) : ∃ p q b o, idxV 3 sv (.int .i64 0) = some (.pointer (some ⟨b, o, none⟩)) ∧ zah h ⟨b, o, none⟩ = some p ∧ zah h ⟨b, o + 1, none⟩ = some q ∧ SlC 3 h sv 1 [p, q, .int .i64 s.border] ∧ (∀ c, blk sv c → Z c) ∧ IsTbl Z h p s.x ∧ IsTbl Z h q s.y := by
 obtain ⟨ds, ⟨hl, a, cap, rfl, hs⟩, hz, he⟩ := H
 have hl : ds.length = 3 := hl
 have H0 : rStgP.R Z h (Rp.el 3 ds 0) s := he 0 (by simp)
 rw [Rp.el_self hl] at H0
 obtain ⟨p, q, rfl, hp, hq⟩ := H0
 rcases hs with h0 | ⟨b, o, rfl, hs⟩
 ·cases h0
 ·exact ⟨p, q, b, o, rfl, hs 0 (by simp), hs 1 (by simp), ⟨rfl, _, cap, rfl, .inr ⟨b, o, rfl, hs⟩⟩, fun c hc => hz (by simp) c hc, hp, hq⟩
abbrev znX (a : PicA) (o : OpD) (tw th : Int) : PlanD := ⟨bgS a o, 1 + tw % 13, 1 + th % 13⟩
def newTree (tM : TypeId) (v11 v24 : Value) (h27 : Heap) (J31 : List Value → Heap → Prop) : Prop :=
 drawK h27 fun S =>
 qK S (fun h27 => ldV h27 v24) fun v35 =>
 vK (idxV 3 v35 (.int .i64 0)) fun v36 =>
 vK (fldV 0 v36) fun v37 =>
 qK S (fun h27 => ldV h27 v37) fun v38 =>
 qK S (fun h27 => ldV h27 v24) fun v39 =>
 vK (idxV 3 v39 (.int .i64 0)) fun v40 =>
 vK (fldV 1 v40) fun v41 =>
 qK S (fun h27 => ldV h27 v41) fun v42 =>
 qK S (fun h27 => ldV h27 v11) fun v43 =>
 qK S (fun h27 => ldV h27 v11) fun v44 =>
 (FCall prog zaj #[v38] h27 fun v45 h46 =>
 S h46 ∧ ((FCall prog zaj #[v42] h46 fun v47 h48 =>
 S h48 ∧ ((FCall prog zae #[v43] h48 fun v49 h50 =>
 S h50 ∧ ((FCall prog zal #[v44] h50 fun v51 h52 =>
 S h52 ∧ ((FCall prog zat #[v45, v47, v49, v51] h52 fun v53 h54 =>
 S h54 ∧ (vK (extV v53 0) fun v55 =>
 vK (extV v53 1) fun v56 =>
 newK #[(.pointer none)] tM h54 fun v57 h58 =>
 S h58 ∧ (stK 1 v57 v55 h58 fun v59 h60 =>
 S h60 ∧ (J31 [v57, v56] h60)))) ∧ (newK #[(.pointer none)] tM h52 fun v61 h62 =>
 S h62 ∧ (FCall prog zat #[v45, v47, v49, v51] h62 fun v63 h64 =>
 S h64 ∧ (vK (extV v63 0) fun v65 =>
 vK (extV v63 1) fun v66 =>
 stK 1 v61 v65 h64 fun v67 h68 =>
 S h68 ∧ (J31 [v61, v66] h68)))))) ∧ (newK #[(.pointer none)] tM h50 fun v69 h70 =>
 S h70 ∧ (FCall prog zal #[v44] h70 fun v71 h72 =>
 S h72 ∧ (FCall prog zat #[v45, v47, v49, v71] h72 fun v73 h74 =>
 S h74 ∧ (vK (extV v73 0) fun v75 =>
 vK (extV v73 1) fun v76 =>
 stK 1 v69 v75 h74 fun v77 h78 =>
 S h78 ∧ (J31 [v69, v76] h78))))))) ∧ (newK #[(.pointer none)] tM h48 fun v79 h80 =>
 S h80 ∧ (FCall prog zae #[v43] h80 fun v81 h82 =>
 S h82 ∧ (FCall prog zal #[v44] h82 fun v83 h84 =>
 S h84 ∧ (FCall prog zat #[v45, v47, v81, v83] h84 fun v85 h86 =>
 S h86 ∧ (vK (extV v85 0) fun v87 =>
 vK (extV v85 1) fun v88 =>
 stK 1 v79 v87 h86 fun v89 h90 =>
 S h90 ∧ (J31 [v79, v88] h90)))))))) ∧ (newK #[(.pointer none)] tM h46 fun v91 h92 =>
 S h92 ∧ (FCall prog zaj #[v42] h92 fun v93 h94 =>
 S h94 ∧ (FCall prog zae #[v43] h94 fun v95 h96 =>
 S h96 ∧ (FCall prog zal #[v44] h96 fun v97 h98 =>
 S h98 ∧ (FCall prog zat #[v45, v93, v95, v97] h98 fun v99 h100 =>
 S h100 ∧ (vK (extV v99 0) fun v101 =>
 vK (extV v99 1) fun v102 =>
 stK 1 v91 v101 h100 fun v103 h104 =>
 S h104 ∧ (J31 [v91, v102] h104))))))))) ∧ (newK #[(.pointer none)] tM h27 fun v105 h106 =>
 S h106 ∧ (FCall prog zaj #[v38] h106 fun v107 h108 =>
 S h108 ∧ (FCall prog zaj #[v42] h108 fun v109 h110 =>
 S h110 ∧ (FCall prog zae #[v43] h110 fun v111 h112 =>
 S h112 ∧ (FCall prog zal #[v44] h112 fun v113 h114 =>
 S h114 ∧ (FCall prog zat #[v107, v109, v111, v113] h114 fun v115 h116 =>
 S h116 ∧ (vK (extV v115 0) fun v117 =>
 vK (extV v115 1) fun v118 =>
 stK 1 v105 v117 h116 fun v119 h120 =>
 S h120 ∧ (J31 [v105, v118] h120))))))))
theorem open21 {h6 : Heap} (G : GlobB h6) {Z1 Z2 : Nat → Prop} {cs os : List Value} {a : PicA} {o : OpD} {b1 b3 : Nat} {t1 t3 tM tS tP : TypeId} (r1 : h6[b1]? = some (.cells cs.toArray t1 (0, 0))) (r3 : h6[b3]? = some (.cells os.toArray t3 (0, 0))) (H : rPicA.R Z1 h6 cs a) (WA : a.Wf) (HO : rOp.R Z2 h6 os o) (WO : OpsWf [o]) {tw th : Int} (hw : B8 tw) (hh : B8 th)
    {XR : Value → Heap → Prop} {X3 : Heap → Prop} {F : Value → Value → Value → List Value → Value → Heap → Prop} (hX : ∀ h', Ext h6 h' → XR (.bool true) h')
    (hF : ∀ h' Z bm bn bs bp bf vf bt vt p q rv bl pp pq, BgOk a o → Ext h6 h' → Env21 Z h' bm bn bs bp bf vf bt vt p q rv bl pp pq (drawA a) (bgN a o) (znX a o tw th) → (∀ c, Z c → h6.size ≤ c) → h6.size ≤ bt → (∀ c, blk vt c → h6.size ≤ c) → F rv (ptr bm) (ptr bs) [ptr bn, .int .i64 0] (ptr bp) h') :
    vK (ldsV 5 h6 (ptr b1)) fun v8 => FCall prog zbx #[v8] h6 fun v9 h10 => newK #[(.pointer none)] tM h10 fun v11 h12 => stK 1 v11 v9 h12 fun v13 h14 => vK (ldsV 9 h14 (ptr b3)) fun v15 =>
    rowK #[(.int .i64 0), (.int .i64 0), (.int .i64 0), (.int .i64 0), (.slice none 0 0), (.slice none 0 0), (.int .i64 0), (.int .i64 0), (.int .i64 0)] 53 1 [(0, 9, v15)] h14 fun v16 h17 => vK (ldV h17 v11) fun v18 => FCall prog zdc #[v16, v18] h17 fun v19 h20 =>
    vK (extV v19 0) fun v21 => vK (extV v19 1) fun v22 => vK (extV v19 2) fun v23 => newK #[(.slice none 0 0)] tS h20 fun v24 h25 => stK 1 v24 v21 h25 fun v26 h27 => vK (unV .not v23) fun v28 => iteK v28 (vK (ldV h27 v11) fun v29 => vK (binV .p .neq v29 (.pointer none)) fun v30 => XR v30 h27)
    (joinK (fun J31 => newTree tM v11 v24 h27 J31) fun x32 j33 h34 =>
 vK (ldV h34 v24) fun v121 =>
 vK (idxV 3 v121 (.int .i64 0)) fun v122 =>
 vK (ldsV 3 h34 v122) fun v123 =>
 vK (binV .i .rem (.int .u8 tw) (.int .u8 13)) fun v124 =>
 vK (cviV .i64 v124) fun v125 =>
 vK (binV .i .add (.int .i64 1) v125) fun v126 =>
 vK (binV .i .rem (.int .u8 th) (.int .u8 13)) fun v127 =>
 vK (cviV .i64 v127) fun v128 =>
 vK (binV .i .add (.int .i64 1) v128) fun v129 =>
 FCall prog zfj #[v123, v126, v129] h34 fun v130 h131 =>
 vK (extV v130 0) fun v132 =>
 vK (extV v130 1) fun v133 =>
 newK #[(.pointer none)] tP h131 fun v134 h135 =>
 stK 1 v134 v132 h135 fun v136 h137 =>
 vK (binV .i .neq (ix x32 1) (.int .i64 0)) fun v138 =>
 vK (gV v138 false (some v133)) fun v139 =>
 vK (gV v138 false (binV .i .neq v139 (.int .i64 0))) fun v140 =>
 vK (pickV v138 (.bool true) v140) fun v141 =>
 vK (gV v141 false (ldV h137 (ix x32 0))) fun v142 =>
 vK (gV v141 false (binV .p .eql v142 (.pointer none))) fun v143 =>
 vK (pickV v141 (.bool true) v143) fun v144 =>
 vK (gV v144 false (ldV h137 v134)) fun v145 =>
 vK (gV v144 false (binV .p .eql v145 (.pointer none))) fun v146 =>
 vK (pickV v144 (.bool true) v146) fun v147 =>
 iteK v147 (X3 h137) (F v22 v11 v24 x32 v134 h137)) := by
  have lc := rPicA.len H
  have lo := rOp.len HO
  rw [zav r1 5 lc, zaa]
  refine (c_l15Draw (rPicA.mono H fun _ _ h => h) WA).mono fun pm h7 N7 => ?_
  obtain ⟨bf, vf, rfl, I7, nbf, nvf, e7⟩ := N7
  have hs7 := e7.1
  refine zai fun bm h8 r8 e8 n8 => ?_
  have hs8 := e8.1
  refine zaO r8 (by simp) rfl fun h9 r9 u9 => ?_
  have r9 : h9[bm]? = some (.cells #[ptr bf] tM (0, 0)) := r9
  have hs9 := u9.1
  have E9 : Ext h6 h9 := (e7.trans e8).upd (Nat.le_trans hs7 n8) u9
  have I9 := (I7.ext e8).fr u9.fr (fun he => by have := I7.lt; have he : bf = bm := he; omega) fun c hv he => by have := I7.ltv hv; have he : c = bm := he; omega
  rw [zav (E9.row r3) 9 lo, zaa]
  refine zb5 (Rp.fill_whole (by rfl) lo) fun b5 h10 r10 e10 n10 => ?_
  have E10 := E9.trans e10
  have hs10 := e10.1
  have S10 : Rp.Sl rOp (fun c => Z2 c ∨ c = b5) h10 (.slice (some ⟨b5, 0, none⟩) 1 1) [o] := by
    refine ⟨os, ?_, fun _ b hb => .inr hb, fun i hi => ?_⟩
    · have := Rp.SlC.single (cs := os) r10
      rw [lo] at this
      exact this
    · have : i = 0 := by simpa using hi
      subst this
      rw [Rp.el_self lo]
      exact rOp.mono (rOp.ext HO E10) fun b _ hb => .inl hb
  have c9 : zah h10 ⟨bm, 0, none⟩ = some (ptr bf) := zac (e10.row r9)
  simp only [go_sem, c9]
  refine (c_Stages (G.ext E10) S10 (by simp) WO (I9.ext e10) (zi2 a)).mono fun r h11 ⟨e11, sv, rv, ok, er, osv, hok, hS⟩ => ?_
  subst er
  have hs11 := e11.1
  have E11 := E10.trans e11
  have x0 : extV (.tuple #[sv, rv, .bool ok]) 0 = some sv := rfl
  have x1 : extV (.tuple #[sv, rv, .bool ok]) 1 = some rv := rfl
  have x2 : extV (.tuple #[sv, rv, .bool ok]) 2 = some (.bool ok) := rfl
  simp only [go_sem, x0, x1, x2]
  refine zai fun bs h12 r12 e12 n12 => ?_
  have hs12 := e12.1
  refine zaO r12 (by simp) osv fun h13 r13 u13 => ?_
  have r13 : h13[bs]? = some (.cells #[sv] tS (0, 0)) := r13
  have hs13 := u13.1
  have E12 := E11.trans e12
  have E13 : Ext h6 h13 := E12.upd (Nat.le_trans E11.1 n12) u13
  have lbm := zay r9
  have r9' : h13[bm]? = some (.cells #[ptr bf] tM (0, 0)) := u13.row (by omega) ((e10.trans (e11.trans e12)).row r9)
  have I13 := ((I9.ext e10).ext (e11.trans e12)).fr u13.fr (fun he => by have := I9.lt; have he : bf = bs := he; omega) fun c hv he => by have := I9.ltv hv; have he : c = bs := he; omega
  have c13 : zah h13 ⟨bm, 0, none⟩ = some (ptr bf) := zac r9'
  have c13s : zah h13 ⟨bs, 0, none⟩ = some sv := zac r13
  cases hk : ok with
  | false =>
    simp only [go_sem, c13, ptr_nn]
    exact hX h13 E13
  | true =>
    subst hk
    have B : BgOk a o := bg_ok (hok.1 rfl).1 (hok.1 rfl).2
    obtain ⟨T1, T2⟩ := hS rfl
    have nbs : ∀ c, Since h10 h11 c → ¬ c = bs := fun c hc he => by have := hc.2; omega
    have T1 : Rp.Sl rStgP (Since h10 h11) h13 sv [bgS a o] := (Rp.Sl.ext T1 e12).fr u13.fr fun c _ hc => nbs c hc
    have T2 : Rp.Sl rStg (Since h10 h11) h13 rv [bgS a o] := (Rp.Sl.ext T2 e12).fr u13.fr fun c _ hc => nbs c hc
    obtain ⟨p, q, bp, op, q1, k0, k1, sl1, zz1, hp, hq⟩ := stg_row T1
    have hsx := B.sx
    have hsy := B.sy
    simp only [go_sem]
    refine zau (fun xs g => ∃ bt vt b', xs = [ptr b', .int .i64 0] ∧ NwMk h13 tM (bgN a o) (some (bt, vt)) (some (b', true)) g) ?_ ?_
    · unfold newTree
      refine zan (Ext h13) (Ext.refl _) ?_
      refine zaf sv (fun g e => by rw [show ldV g (ptr bs) = zah g ⟨bs, 0, none⟩ from rfl]; exact e.cell c13s) ?_
      simp only [go_sem, q1, Nat.zero_add]
      refine zaf p (fun g e => e.cell k0) ?_
      refine zaf sv (fun g e => e.cell c13s) ?_
      simp only [go_sem, q1, Nat.zero_add]
      refine zaf q (fun g e => e.cell k1) ?_
      refine zaf (ptr bf) (fun g e => e.cell c13) ?_
      refine zaf (ptr bf) (fun g e => e.cell c13) ?_
      have M0 : NwMk h13 tM (bgN a o) none none h13 := NwMk.start _ _ _
      have hc := B.imgc
      have hcv : ∀ q : Nat × Bool, (none : Option (Nat × Bool)) = some q → q.2 = false := fun q h => by cases h
      have hcw : ∀ (b : Nat) (q : Nat × Bool), some (b, false) = some q → q.2 = false := fun b q h => by cases h; rfl
      repeat' first
        | exact NwMk.fin ‹NwMk _ _ _ _ _ _›
        | exact NwMk.ext ‹NwMk _ _ _ _ _ _›
        | refine And.intro ?_ ?_
        | refine FCall.at (c_To (hp.ext (NwMk.ext ‹NwMk _ _ _ _ _ _›))) ?_
        | refine FCall.at (c_To (hq.ext (NwMk.ext ‹NwMk _ _ _ _ _ _›))) ?_
        | refine FCall.at (zbV (I13.ext (NwMk.ext ‹NwMk _ _ _ _ _ _›))) ?_
        | refine FCall.at (zfJ (I13.ext (NwMk.ext ‹NwMk _ _ _ _ _ _›))) ?_
        | refine NwMk.new ‹NwMk _ _ _ _ none _› fun b g M => ?_
        | refine NwMk.image (va := none) ‹NwMk _ _ _ _ _ _› hc hcv fun b v g M => ?_
        | refine NwMk.image (va := some (_, false)) ‹NwMk _ _ _ _ _ _› hc (hcw _) fun b v g M => ?_
        | refine NwMk.st ‹NwMk _ _ _ _ _ _› fun g M => ?_
        | simp only [go_sem]
    · rintro xs ρ h14 ⟨bt, vt, bn, rfl, M⟩
      have E14 := M.ext
      obtain ⟨i1, i2, i3⟩ := M.mi _ rfl
      obtain ⟨v1, v2⟩ := M.av _ rfl
      obtain ⟨d1, d2⟩ := M.dis _ _ rfl rfl
      have hs14 := E14.1
      have v2 : h14[bn]? = some (.cells #[ptr bt] tM (0, 0)) := v2
      have i1 : IsImg h14 bt vt (bgN a o) := i1
      obtain ⟨sp, w1, w2⟩ := (sl1.ext E14).atw (by omega) (k := .i64) (i := 0) (by omega)
      have w1 : idxV 3 sv (.int .i64 0) = some sp := w1
      have w2 : ldsV 3 h14 sp = some (.agg #[p, q, .int .i64 (bgS a o).border]) := w2
      have c14s : zah h14 ⟨bs, 0, none⟩ = some sv := E14.cell c13s
      have HS : IsStg (Since h10 h11) h14 (.agg #[p, q, .int .i64 (bgS a o).border]) (bgS a o) := ⟨p, q, rfl, hp.ext E14, hq.ext E14⟩
      unfold B8 at hw hh
      have hw13 : 0 ≤ tw % 13 ∧ tw % 13 < 13 := ⟨Int.emod_nonneg _ (by omega), Int.emod_lt_of_pos _ (by omega)⟩
      have hh13 : 0 ≤ th % 13 ∧ th % 13 < 13 := ⟨Int.emod_nonneg _ (by omega), Int.emod_lt_of_pos _ (by omega)⟩
      simp only [go_sem, c14s, w1, w2]
      rw [za8 _ _ _ _ (by omega), zaa, Int.tmod_eq_emod_of_nonneg hw.1]
      simp only [go_sem]
      rw [w64 (n := tw % 13) (by omega) (by omega), w64 (n := 1 + tw % 13) (by omega) (by omega), za8 _ _ _ _ (by omega), zaa, Int.tmod_eq_emod_of_nonneg hh.1]
      simp only [go_sem]
      rw [w64 (n := th % 13) (by omega) (by omega), w64 (n := 1 + th % 13) (by omega) (by omega)]
      refine (c_planNew HS).mono fun r h15 ⟨e15, pl1, _⟩ => ?_
      obtain ⟨bl, pp, pq, er, nbl, PL⟩ := pl1 (by unfold sideT; omega)
      subst er
      have hs15 := e15.1
      have lpl := zay PL.row
      have x0 : extV (.tuple #[ptr bl, .int .i64 0]) 0 = some (ptr bl) := rfl
      have x1 : extV (.tuple #[ptr bl, .int .i64 0]) 1 = some (.int .i64 0) := rfl
      simp only [go_sem, x0, x1]
      refine zai fun bv h16 r16 e16 n16 => ?_
      have hs16 := e16.1
      refine zaO r16 (by simp) rfl fun h17 r17 u17 => ?_
      have r17 : h17[bv]? = some (.cells #[ptr bl] tP (0, 0)) := r17
      have hs17 := u17.1
      have lbv := zay r17
      have nbv : h15.size ≤ bv := n16
      have lbn := zay v2
      have lbs := zay r13
      have lbm' := zay r9'
      have lbt := i1.lt
      have E17 : Ext h14 h17 := (e15.trans e16).upd (by omega) u17
      have EE : Ext h6 h17 := E13.trans (E14.trans E17)
      have rn := E17.row v2
      have cn : zah h17 ⟨bn, 0, none⟩ = some (ptr bt) := zac rn
      have cp : zah h17 ⟨bv, 0, none⟩ = some (ptr bl) := zac r17
      simp only [go_sem, cn, cp, ptr_en, decide_true, decide_false, eqT, ne_eq, not_true]
      have I17 : IsImg h17 bf vf (drawA a) := (I13.ext E14).ext E17
      have zt : ∀ c, Since h10 h11 c → h6.size ≤ c ∧ c < h17.size ∧ c ≠ bt ∧ ¬ blk vt c := fun c hc => ⟨by have := hc.1; omega, by have := hc.2; omega, by have := hc.2; omega, fun hv => by have := i3 c hv; have := hc.2; omega⟩
      have PL17 : zhV (Since h10 h11) h17 bl ⟨bgS a o, 1 + tw % 13, 1 + th % 13⟩ pp pq := ⟨u17.row (by omega) (e16.row PL.row), (PL.x.ext e16).fr u17.fr fun c _ hc he => by have := hc.2; have he : c = bv := he; omega, (PL.y.ext e16).fr u17.fr fun c _ hc he => by have := hc.2; have he : c = bv := he; omega⟩
      have nvt : ∀ {c : Nat}, c < h13.size → ¬ blk vt c := fun hc hv => by have := i3 _ hv; omega
      have I7l := I7.lt
      refine hF h17 (fun c => h6.size ≤ c ∧ c < h17.size ∧ c ≠ bt ∧ ¬ blk vt c) bm bn bs bv bf vf bt vt p q rv bl pp pq B EE ?_ (fun c hc => hc.1) (by omega) (fun c hc => by have := i3 c hc; omega)
      refine ⟨⟨I17, i1.ext E17, by omega, ((hp.ext E14).ext E17).mono fun c _ hc => zt c hc, ((hq.ext E14).ext E17).mono fun c _ hc => zt c hc, ⟨⟨nbf, by omega, by omega, nvt (by omega)⟩, fun c hc => ?_⟩, fun c hc => hc.2.2.2, fun c hc => hc.2.2.1, fun c hc => hc.2.1⟩, ((Rp.Sl.ext T2 E14).ext E17).mono fun c _ hc => zt c hc, ⟨tM, (E14.trans E17).row r9'⟩, ⟨tM, rn⟩, ⟨tS, sv, (E14.trans E17).row r13, (sl1.ext E14).ext E17, fun c hc => zt c (zz1 c hc)⟩, ⟨tP, r17⟩, ⟨PL17.row, PL17.x.mono fun c _ hc => zt c hc, PL17.y.mono fun c _ hc => zt c hc⟩, ?_⟩
      · have := I7.ltv hc
        exact ⟨nvf c hc, by omega, by omega, nvt (by omega)⟩
      · have a1 : h6.size ≤ bm := Nat.le_trans hs7 n8
        have a3 : ¬ blk vt bl := fun hv => by have := i1.ltv hv; omega
        have a4 : ¬ blk vt bv := fun hv => by have := i1.ltv hv; omega
        refine ⟨⟨a1, by omega, by omega, nvt lbm'⟩, ⟨by omega, by omega, fun he => d1 he.symm, d2⟩, ⟨by omega, by omega, by omega, nvt lbs⟩, ⟨by omega, lbv, by omega, a4⟩, ⟨by omega, by omega, by omega, a3⟩⟩
section
theorem zfk {d : PlanD} (W : d.Wf) {i : Int} (h0 : 0 ≤ i) (h1 : i < zcc d) : zb8 d.s (zaC d i).x (zaC d i).y (zaC d i).w (zaC d i).h := by
 have ti := zqi W h0 h1
 have hw := W.w
 have hh := W.h
 unfold sideT at hw hh
 unfold PlanD.X PlanD.Y at ti
 show 1 ≤ outW d i ∧ 1 ≤ outH d i ∧ 0 ≤ outX d i ∧ 0 ≤ outY d i ∧ outX d i < _ ∧ outY d i < _ ∧ outW d i ≤ d.s.x.lines.length - outX d i ∧ outH d i ≤ d.s.y.lines.length - outY d i
 unfold outW outH PlanD.X PlanD.Y
 omega
def jobOf (d : PlanD) (i : Int) : TileD × Int × Int := (zaC d i, (zaC d i).y, lnF d.s.y (zaC d i).y)
structure C21 where
 bm : Nat
 bn : Nat
 bs : Nat
 bp : Nat
 bf : Nat
 vf : Value
 bt : Nat
 vt : Value
 p : Value
 q : Value
 rv : Value
 bl : Nat
 pp : Value
 pq : Value
 m : Pic
 d : PlanD
 bw : Nat
 bq : Nat
abbrev C21.E (C : C21) : WE := ⟨C.bf, C.vf, C.bt, C.vt, C.p, C.q, C.m, C.d.s⟩
abbrev C21.Env (C : C21) (Z : Nat → Prop) (h : Heap) (n : Pic) : Prop := Env21 Z h C.bm C.bn C.bs C.bp C.bf C.vf C.bt C.vt C.p C.q C.rv C.bl C.pp C.pq C.m n C.d
structure C21.Ok (C : C21) : Prop where
 m : C.m.Wf
 d : C.d.Wf
 s : StgOk C.d.s
abbrev C21.jo (C : C21) (i : Int) : Option (TileD × Int × Int) := some (jobOf C.d i)
abbrev C21.suits (C : C21) (n : Pic) : Prop := n.Wf ∧ zd4 C.m n C.d.s
theorem C21.newC {C : C21} (O : C.Ok) {n : Pic} (S : C.suits n) {i : Int} (h0 : 0 ≤ i) (h1 : i < zcc C.d) : wnewC C.m n C.d.s (zaC C.d i) = 0 := zfc.2 ⟨S.2, zfk O.d h0 h1⟩
def VarAt (bo : Option Nat) (T : TypeId) (k : Int) (h : Heap) : Prop := ∀ b, bo = some b → h[b]? = some (.cells #[.int .i64 k] T (0, 0))
def zqe (C : C21) (Z : Nat → Prop) (bo : Option Nat) (T : TypeId) (n : Pic) (x k : Int) (g : Heap) (r : Value) (g2 : Heap) : Prop :=
 ∃ Bj, (∀ c, Bj c → g.size ≤ c ∧ c < g2.size) ∧ zdL Z Bj g2 (some C.E) n r (C.jo x) ∧ Fr (fun c => bo = some c) g g2 ∧ VarAt bo T (zks (some C.E) (C.jo x) k) g2
section
variable {C : C21} {Z : Nat → Prop} {g : Heap} {n : Pic} {x : Int}
theorem open_job (O : C.Ok) (G : GlobB g) (V : C.Env Z g n) (S : C.suits n) (h0 : 0 ≤ x) (h1 : x < zcc C.d) {T : TypeId} {K : Value → Value → Heap → Prop} {zt : Array Value}
  (HK : ∀ v6 g2, Ext g g2 → g.size ≤ v6 → g2[v6]? = some (.cells (tileC (zaC C.d x)).toArray T (0, 0)) → K (ptr v6) (.bool true) g2) (hz : zt.size = 10) :
  vK (ldV g (ptr C.bp)) fun v1 => FCall prog zbv #[v1, .int .i64 x] g fun v2 h3 => vK (extV v2 0) fun v4 => vK (extV v2 1) fun v5 => newK zt T h3 fun v6 h7 => stK 10 v6 v4 h7 fun v8 h9 => K v6 v5 h9 := by
 obtain ⟨t4, m4⟩ := V.vp
 have c0 : zah g ⟨C.bp, 0, none⟩ = some (ptr C.bl) := zac m4
 simp only [go_sem, c0]
 refine FCall.to (zmf V.plan O.d h0 h1) fun h3 e3 => ?_
 have x0 : extV (.tuple #[.agg (tileC (zaC C.d x)).toArray, .bool true]) 0 = some (.agg (tileC (zaC C.d x)).toArray) := rfl
 have x1 : extV (.tuple #[.agg (tileC (zaC C.d x)).toArray, .bool true]) 1 = some (.bool true) := rfl
 simp only [go_sem, x0, x1]
 refine za1 (cs := tileC (zaC C.d x)) (by rw [hz]; rfl) (zdA _) rfl fun b h4 r4 e4 n4 => ?_
 exact HK b h4 (e3.trans e4) (Nat.le_trans e3.1 n4) r4
theorem WNew.has {h' : Heap} {r : Value} (O : C.Ok) (S : C.suits n) (h0 : 0 ≤ x) (h1 : x < zcc C.d) (H : WNew Z g C.bf C.vf C.bt C.vt C.p C.q C.m n C.d.s (zaC C.d x) r h') :
  ∃ bj rv, r = .tuple #[ptr bj, .int .i64 0] ∧ Ext g h' ∧ zdL Z (Grow (fun _ => False) g h') h' (some C.E) n (ptr bj) (C.jo x) ∧ JobSt Z (Grow (fun _ => False) g h') h' bj C.bf C.vf C.bt C.vt C.p C.q rv ⟨C.m, C.d.s, zaC C.d x⟩ (zaC C.d x).y (lnF C.d.s.y (zaC C.d x).y) n (roomN (mostL C.d.s.y.lines)) (zcy ((zaC C.d x).w * C.m.c)) := by
 have hc := C21.newC O S h0 h1
 obtain ⟨bj, rv, er, e, J⟩ := H.go hc
 exact ⟨bj, rv, er, e, ⟨C.E, rfl, ⟨O.m, O.s⟩, hc, bj, rv, rfl, J⟩, J⟩
theorem op_alone (O : C.Ok) (G : GlobB g) (V : C.Env Z g n) (S : C.suits n) (h0 : 0 ≤ x) (h1 : x < zcc C.d) {T : TypeId} {k : Int} :
  clK prog (.func (.func zbf) #[] #[ptr C.bp, ptr C.bm, ptr C.bn, ptr C.bs]) #[.int .i64 x] g (zqe C Z none T n x k g) := by
 rw [clK_4]
 apply zg9
 unfold zdE
 refine open_job O G V S h0 h1 (fun b g2 e2 nb r2 => ?_) rfl
 have V2 := V.ext e2
 have I := V2
 obtain ⟨S2, _, ⟨t1, m1⟩, ⟨t2, m2⟩, ⟨t3, sv, m3, c3, z3⟩, _⟩ := V2
 obtain ⟨sp, w1, w2⟩ := c3.atw (by omega) (k := .i64) (i := 0) (by omega)
 have w1 : idxV 3 sv (.int .i64 0) = some sp := w1
 have w2 : ldsV 3 g2 sp = some (.agg #[C.p, C.q, .int .i64 C.d.s.border]) := w2
 refine zan (fun h => h = g2) rfl ?_
 refine zaf (ptr C.bf) (fun h e => by rw [e]; exact zac m1) ?_
 refine zaf (ptr C.bt) (fun h e => by rw [e]; exact zac m2) ?_
 refine zaf sv (fun h e => by rw [e]; exact zac m3) ?_
 rw [w1, zaa]
 refine zaf (.agg #[C.p, C.q, .int .i64 C.d.s.border]) (fun h e => by rw [e]; exact w2) ?_
 refine zaf (.agg (tileC (zaC C.d x)).toArray) (fun h e => by rw [e]; exact zav r2 10 rfl) ?_
 refine (c_wNewS (G.ext e2) S2 O.m S.1 O.s.wf).mono fun r g3 HW => ?_
 obtain ⟨bj, rv, er, e3, J, _⟩ := WNew.has O S h0 h1 HW
 subst er
 have x0 : extV (.tuple #[ptr bj, .int .i64 0]) 0 = some (ptr bj) := rfl
 have x1 : extV (.tuple #[ptr bj, .int .i64 0]) 1 = some (.int .i64 0) := rfl
 simp only [go_sem, x0, x1]
 exact ⟨_, fun c hc => hc.elim (fun h => h.elim) fun h => ⟨Nat.le_trans e2.1 h.1, h.2⟩, J, (e2.trans e3).fr, fun b hb => by cases hb⟩
theorem op_scratch {bo : Nat} (O : C.Ok) (G : GlobB g) (V : C.Env Z g n) (S : C.suits n) (h0 : 0 ≤ x) (h1 : x < zcc C.d) {T : TypeId} {k : Int} (hv : VarAt (some bo) T k g) (hz : ¬ Z bo) (hbt : bo ≠ C.bt) (hvt : ¬ blk C.vt bo) :
  clK prog (.func (.func za4) #[] #[ptr C.bp, ptr C.bm, ptr C.bn, ptr C.bs, ptr bo]) #[.int .i64 x] g (zqe C Z (some bo) T n x k g) := by
 rw [clK_5]
 apply zgx
 unfold zc8
 refine open_job O G V S h0 h1 (fun b g2 e2 nb r2 => ?_) rfl
 have V2 := V.ext e2
 have I := V2
 have rv := hv _ rfl
 have lbo := zay rv
 obtain ⟨S2, _, ⟨t1, m1⟩, ⟨t2, m2⟩, ⟨t3, sv, m3, c3, z3⟩, _⟩ := V2
 obtain ⟨sp, w1, w2⟩ := c3.atw (by omega) (k := .i64) (i := 0) (by omega)
 have w1 : idxV 3 sv (.int .i64 0) = some sp := w1
 have w2 : ldsV 3 g2 sp = some (.agg #[C.p, C.q, .int .i64 C.d.s.border]) := w2
 refine zan (fun h => h = g2) rfl ?_
 refine zaf (ptr C.bf) (fun h e => by rw [e]; exact zac m1) ?_
 refine zaf (ptr C.bt) (fun h e => by rw [e]; exact zac m2) ?_
 refine zaf sv (fun h e => by rw [e]; exact zac m3) ?_
 rw [w1, zaa]
 refine zaf (.agg #[C.p, C.q, .int .i64 C.d.s.border]) (fun h e => by rw [e]; exact w2) ?_
 refine zaf (.agg (tileC (zaC C.d x)).toArray) (fun h e => by rw [e]; exact zav r2 10 rfl) ?_
 refine (c_wNewS (G.ext e2) S2 O.m S.1 O.s.wf).mono fun r g3 HW => ?_
 obtain ⟨bj, rv', er, e3, J, JS⟩ := WNew.has O S h0 h1 HW
 subst er
 have x0 : extV (.tuple #[ptr bj, .int .i64 0]) 0 = some (ptr bj) := rfl
 have x1 : extV (.tuple #[ptr bj, .int .i64 0]) 1 = some (.int .i64 0) := rfl
 simp only [go_sem, x0, x1, ne_eq, eqT, not_true, decide_false]
 have r3 := (e2.trans e3).row rv
 refine zan (fun h => h = g3) rfl ?_
 refine zaf (.int .i64 k) (fun h e => by rw [e]; exact zac r3) ?_
 refine FCall.at (zp4 JS) ⟨rfl, ?_⟩
 refine zaf _ (fun _ _ => znm _ _ _) ?_
 refine zaO r3 (by simp) rfl fun g4 r4 u4 => ?_
 have hs2 := e2.1
 have hs4 := u4.1
 have hE : OutAt g3 (some C.E) n := fun E' hE => by cases hE; exact ⟨S2.out.ext e3, S.1⟩
 exact ⟨_, fun c hc => hc.elim (fun h => h.elim) fun h => ⟨by omega, by omega⟩, J.upd u4 hz (fun hc => hc.elim id fun h => by omega) hbt hvt hE, ((e2.trans e3).fr.trans u4.fr).mono fun c _ hc => (by rw [show c = bo from hc]), fun b hb => by cases hb; exact r4⟩
end
structure Solo (C : C21) (Z : Nat → Prop) (h0 : Heap) (bo : Option Nat) (T : TypeId) (h : Heap) (n : Pic) (w : WD) (q : QD) : Prop where
 ex : ∃ B Q, IsW Z B h C.bw (some C.E) n w ∧ IsQ Q h C.bq q ∧ (∀ c, B c → ¬ Q c) ∧ (∀ c, Q c → ¬ Z c ∧ outV (some C.E) c ∧ ¬ outB (some C.E) c) ∧ (∀ c, B c → h0.size ≤ c) ∧ (∀ c, Q c → h0.size ≤ c) ∧ ∀ b, bo = some b → ¬ B b ∧ ¬ Q b
 env : C.Env Z h n
 sui : C.suits n
 var : VarAt bo T w.words h
 vo : ∀ b, bo = some b → ¬ Z b ∧ outV (some C.E) b ∧ ¬ outB (some C.E) b ∧ h0.size ≤ b
 ext : Ext h0 h
theorem zpt {E : Option WE} {jo : Option (TileD × Int × Int)} {w : WD} {q : QD} (hs : w.state = 0 ∨ w.state = 1 ∨ w.state = 2) : (takes w q → (stepW E jo w q).1.words = zks E jo w.words) ∧ (¬ takes w q → (stepW E jo w q).1.words = w.words) := by
 unfold stepW takes
 by_cases h1 : w.state = 1
 ·rw [if_pos h1]
  refine ⟨fun h => by omega, fun _ => ?_⟩
  split <;> rfl
 ·rw [if_neg h1]
  by_cases h2 : w.state = 2
  ·rw [if_pos h2]; exact ⟨fun h => by omega, fun _ => rfl⟩
  ·rw [if_neg h2]
   by_cases h3 : recvR q = 0
   ·rw [if_pos h3]
    exact ⟨fun _ => rfl, fun h => absurd ⟨by omega, h3⟩ h⟩
   ·rw [if_neg h3]
    refine ⟨fun h => absurd h.2 h3, fun _ => ?_⟩
    split <;> rfl
theorem c_solo {C : C21} {Z : Nat → Prop} {h0 h : Heap} {bo : Option Nat} {T : TypeId} {n : Pic} {w : WD} {q : QD} {ov : Value} (G : GlobB h0) (S : Solo C Z h0 bo T h n w q) (ht : w.tiles.length ≤ 1000000) (hb : ∀ c, outB (some C.E) c → h0.size ≤ c)
  (hov : binV .f .neq ov .nilFunc = some (.bool true)) (hop : ∀ g n', GlobB g → C.Env Z g n' → C.suits n' → VarAt bo T w.words g → takes w q → clK prog ov #[.int .i64 (recvX q)] g (zqe C Z bo T n' (recvX q) w.words g)) :
  FCall prog zas #[ptr C.bw, ptr C.bq, ov] h fun r h' => r = evV (stepW (some C.E) (C.jo (recvX q)) w q).2.2 ∧ ∃ n', Solo C Z h0 bo T h' n' (stepW (some C.E) (C.jo (recvX q)) w q).1 (stepW (some C.E) (C.jo (recvX q)) w q).2.1 ∧ Drew (some C.E) w n n' := by
 obtain ⟨⟨B, Q, W, q0, bq', qz, b0, qq0, nb⟩, V, su, var, vo, E0⟩ := S
 have hs0 := E0.1
 have zt := V.set
 have lvb : ∀ b, bo = some b → b < h.size := fun b hb => zay (var b hb)
 refine (c_wStep (jo := C.jo (recvX q)) (Qo := fun c => bo = some c) (P0 := VarAt bo T w.words) (P1 := VarAt bo T (zks (some C.E) (C.jo (recvX q)) w.words)) W q0 ht (fun tk => .inr ⟨hov, fun h1 f1 v1 => ?_⟩) bq' qz (fun c hc => ?_) (fun g g' f => ?_) var).mono fun r h' ⟨er, ⟨⟨n', B', Q', W', q', k1, k2, k3, D⟩, f⟩, p1, p0⟩ => ?_
 ·have V1 := V.chg f1 (fun c hz hc => hc.elim (fun h => (W.bz c h).1 hz) fun h => (qz c h).1 hz) ((W.out C.E rfl).1.fr f1 (fun hc => hc.elim (fun h => (W.bz _ h).2.1 rfl) fun h => (qz _ h).2.1 rfl) fun c hv hc => hc.elim (fun h => (W.bz _ h).2.2 hv) fun h => (qz _ h).2.2 hv)
  exact hop h1 n (G.ext (E0.then_fr f1 fun c hc => hc.elim (b0 c) (qq0 c))) V1 su v1 tk
 ·exact ⟨lvb c hc, (nb c hc).1, (nb c hc).2, (vo c hc).1, (vo c hc).2.1, (vo c hc).2.2.1⟩
 ·have hn : ∀ b, bo = some b → ¬ (outB (some C.E) b ∨ B b ∨ Q b ∨ h.size ≤ b) := fun b hb hc => hc.elim (vo b hb).2.2.1 fun hc => hc.elim (nb b hb).1 fun hc => hc.elim (nb b hb).2 fun hc => by have := lvb b hb; omega
  exact ⟨fun H b hb => f.row (H b hb) (hn b hb), fun H b hb => f.row (H b hb) (hn b hb)⟩
 ·have hE : ∀ c, (outB (some C.E) c ∨ B c ∨ Q c ∨ bo = some c) → h0.size ≤ c := fun c hc => hc.elim (hb c) fun hc => hc.elim (b0 c) fun hc => hc.elim (qq0 c) fun hc => (vo c hc).2.2.2
  have I' := (W'.out C.E rfl)
  have hz : ∀ c, Z c → ¬ (outB (some C.E) c ∨ B c ∨ Q c ∨ bo = some c) := fun c hz hc => hc.elim (fun h => zt.zz c hz h) fun hc => hc.elim (fun h => (W.bz c h).1 hz) fun hc => hc.elim (fun h => (qz c h).1 hz) fun hc => (vo c hc).1 hz
  refine ⟨er, n', ⟨⟨B', Q', W', q', k3, fun c hc => ?_, fun c hc => (k1 c hc).elim (b0 c) fun h => by omega, fun c hc => (k2 c hc).elim (qq0 c) fun h => by omega, fun b hb => ⟨fun hc => ?_, fun hc => ?_⟩⟩, V.chg f hz I'.1, ⟨I'.2, ?_⟩, ?_, vo, E0.then_fr f hE⟩, D⟩
  ·rcases k2 c hc with h9 | h9
   ·exact qz c h9
   ·exact ⟨fun hz => by have := W.zl c hz; omega, W.out.new h9⟩
  ·rcases k1 _ hc with h9 | h9
   ·exact (nb b hb).1 h9
   ·have := lvb b hb; omega
  ·rcases k2 _ hc with h9 | h9
   ·exact (nb b hb).2 h9
   ·have := lvb b hb; omega
  ·have hd := D.1
   obtain ⟨s1, s2, s3, s4, s5⟩ := su.2
   exact ⟨s1, by rw [hd.w]; exact s2, by rw [hd.h]; exact s3, by rw [hd.c]; exact s4, by rw [hd.m]; exact s5⟩
  ·have hst : w.state = 0 ∨ w.state = 1 ∨ w.state = 2 := by have := W.st; omega
   by_cases tk : takes w q
   ·rw [(zpt hst).1 tk]; exact p1 tk
   ·rw [(zpt hst).2 tk]; exact p0 tk
end
def numsL (N : Nat) : List Int := (List.range N).map fun i : Nat => (i : Int)
theorem ze0 (N : Nat) : (numsL N).length = N := by simp [numsL]
theorem zl1 {N i : Nat} (h : i < (numsL N).length) : (numsL N)[i] = (i : Int) := by simp [numsL]
def muJ (E : WE) : Option (TileD × Int × Int) → Nat
 | none => 0
 | some (t, y, e) => leftZ (E.d t) y e
def zhF (C : C21) (i : Int) : Nat := leftZ (C.E.d (zaC C.d i)) (zaC C.d i).y (lnF C.d.s.y (zaC C.d i).y)
theorem mu_settle {E : WE} {t : TileD} {y e : Int} : muJ E (zaJ (some E) (some (t, y, e))) = leftZ (E.d t) y e := by
 show muJ E (if stepK (E.d t) y e = 0 then none else some (t, y, e)) = _
 split
 ·rename_i h; rw [left_pos.2 h]; rfl
 ·rfl
abbrev soloW (E : WE) (L : List Int) (k : Nat) (jo : Option (TileD × Int × Int)) (wd : Int) : WD := ⟨stJ jo, L.take k, jo, wd⟩
abbrev soloQ (L : List Int) (k : Nat) : QD := ⟨4096, L.drop k, true⟩
def Turned (C : C21) (Z : Nat → Prop) (h0 : Heap) (bo : Option Nat) (T : TypeId) (N k : Nat) (jo : Option (TileD × Int × Int)) (wd : Int) (n : Pic) (r : Value) (h' : Heap) : Prop :=
 (∃ t y e a b c n', jo = some (t, y, e) ∧ r = evV (2, a, b, c) ∧ Solo C Z h0 bo T h' n' (soloW C.E (numsL N) k (zaJ (some C.E) (some (t, stepY (C.E.d t) y e, stepE (C.E.d t) y e))) wd) (soloQ (numsL N) k) ∧ Drew (some C.E) (soloW C.E (numsL N) k jo wd) n n' ∧ muJ C.E (zaJ (some C.E) (some (t, stepY (C.E.d t) y e, stepE (C.E.d t) y e))) + 1 = muJ C.E jo) ∨
 (jo = none ∧ k < N ∧ r = evV (1, k, 0, 0) ∧ Solo C Z h0 bo T h' n (soloW C.E (numsL N) (k + 1) (zaJ (some C.E) (C.jo k)) (zks (some C.E) (C.jo k) wd)) (soloQ (numsL N) (k + 1)) ∧ muJ C.E (zaJ (some C.E) (C.jo k)) = zhF C k) ∨
 (jo = none ∧ k = N ∧ r = evV (3, 0, 0, 0) ∧ Solo C Z h0 bo T h' n ⟨2, numsL N, none, wd⟩ ⟨4096, [], true⟩)
theorem c_turn {C : C21} {Z : Nat → Prop} {h0 h : Heap} {bo : Option Nat} {T : TypeId} {n : Pic} {N k : Nat} {jo : Option (TileD × Int × Int)} {wd : Int} {ov : Value} (G : GlobB h0) (S : Solo C Z h0 bo T h n (soloW C.E (numsL N) k jo wd) (soloQ (numsL N) k)) (hk : k ≤ N) (hN : (N : Int) = zcc C.d) (hN2 : N ≤ 4096) (hb : ∀ c, outB (some C.E) c → h0.size ≤ c)
  (hov : binV .f .neq ov .nilFunc = some (.bool true)) (hop : ∀ g n' (x : Int), GlobB g → C.Env Z g n' → C.suits n' → VarAt bo T wd g → 0 ≤ x → x < zcc C.d → clK prog ov #[.int .i64 x] g (zqe C Z bo T n' x wd g)) :
  FCall prog zas #[ptr C.bw, ptr C.bq, ov] h (Turned C Z h0 bo T N k jo wd n) := by
 have hL := ze0 N
 refine (c_solo (ov := ov) G S (by simp [hL]; omega) hb hov fun g n' g1 g2 g3 g4 tk => ?_).mono fun r h' ⟨er, n', S', D⟩ => ?_
 ·by_cases hkN : k < N
  ·have hd := zrp (show k < (numsL N).length by omega)
   have hx : recvX (soloQ (numsL N) k) = k := by unfold recvX soloQ; simp only; rw [hd, zl1]; rfl
   rw [hx]
   exact hop g n' k g1 g2 g3 g4 (by omega) (by omega)
  ·have h2 := tk.2
   unfold recvR soloQ at h2
   rw [if_pos (List.drop_eq_nil_of_le (by omega))] at h2
   simp at h2
 subst er
 cases jo with
 | some q =>
  obtain ⟨t, y, e⟩ := q
  left
  obtain ⟨B, Q, W, _⟩ := S.ex
  obtain ⟨tv, jv, Bj, _, _, J, _⟩ := W.at_
  obtain ⟨E', hE, ok, hc, bj, rv, _, JS⟩ := J
  cases hE
  have hg : stepK (C.E.d t) y e ≠ 0 := by
   rcases W.st with h | h
   ·exact h.2.1
   ·have h2 : some (t, y, e) = none := h.2
    cases h2
  have hst : stepW (some C.E) (C.jo (recvX (soloQ (numsL N) k))) (soloW C.E (numsL N) k (some (t, y, e)) wd) (soloQ (numsL N) k) = (soloW C.E (numsL N) k (zaJ (some C.E) (some (t, stepY (C.E.d t) y e, stepE (C.E.d t) y e))) wd, soloQ (numsL N) k, (2, ((numsL N).take k).getLast?.getD 0, stepK (C.E.d t) y e, stepJ (C.E.d t) y e)) := rfl
  rw [hst] at S' ⊢
  refine ⟨t, y, e, _, _, _, n', rfl, rfl, S', D, ?_⟩
  rw [mu_settle]
  exact JS.left_step hg
 | none =>
  right
  have hn : n' = n := D.2
  subst hn
  by_cases hkN : k < N
  ·left
   have hkl : k < (numsL N).length := by omega
   have hd := zrp hkl
   have hx : recvX (soloQ (numsL N) k) = k := by unfold recvX soloQ; simp only; rw [hd, zl1]; rfl
   have hst : stepW (some C.E) (C.jo (recvX (soloQ (numsL N) k))) (soloW C.E (numsL N) k none wd) (soloQ (numsL N) k) = (soloW C.E (numsL N) (k + 1) (zaJ (some C.E) (C.jo k)) (zks (some C.E) (C.jo k) wd), soloQ (numsL N) (k + 1), (1, (k : Int), 0, 0)) := by
    have e1 : (numsL N).take (k + 1) = (numsL N).take k ++ [(k : Int)] := by rw [List.take_succ_eq_append_getElem hkl, zl1]
    have e2 : (numsL N).drop k = (k : Int) :: (numsL N).drop (k + 1) := by rw [zrp hkl, zl1]
    rw [hx]
    unfold soloW soloQ
    rw [e1, e2]
    rfl
   rw [hst] at S' ⊢
   exact ⟨rfl, hkN, rfl, S', mu_settle⟩
  ·right
   have : k = N := by omega
   subst this
   have hd : (numsL k).drop k = [] := List.drop_eq_nil_of_le (by omega)
   have ht : (numsL k).take k = numsL k := List.take_of_length_le (by omega)
   have hst : ∀ jo, stepW (some C.E) jo (soloW C.E (numsL k) k none wd) (soloQ (numsL k) k) = (⟨2, numsL k, none, wd⟩, ⟨4096, [], true⟩, (3, 0, 0, 0)) := by
    intro jo
    unfold soloQ soloW
    rw [hd, ht]
    rfl
   rw [hst] at S' ⊢
   exact ⟨rfl, rfl, rfl, S'⟩
theorem weights_few {o : OpD} (h : ¬ zeF 12 o) : (zaM o).length ≤ 41 := by
 unfold zeF at h
 have hu : ∀ l : List Int, (userW l).length ≤ l.length := fun l => by unfold userW; split <;> simp
 unfold zaM
 split
 ·unfold zgk
  split
  ·simp
  ·rename_i hb
   unfold zej at hb
   rw [List.length_map, List.length_range]
   unfold zb6; omega
 split
 ·unfold blurW
  split
  ·simp
  ·rename_i hb
   unfold zhi at hb
   have := hu (List.replicate (2 * o.radius + 1).toNat 1)
   rw [List.length_replicate] at this
   omega
 ·have := hu o.y; omega
theorem makeS_few {o : OpD} {w h : Int} (hc : makeC o w h = 0) (hl : ¬ zeF 12 o) (hs : h ≤ 12) : mostL (makeS o w h).y.lines ≤ 80 := by
 have ht : zcz o w h = 0 := by
  unfold makeC at hc
  split at hc
  ·cases hc
  ·exact hc
 show mostL (zbP o h).lines ≤ _
 unfold zcz at ht
 unfold zbP
 split
 ·rename_i hk
  rw [if_pos hk] at ht
  by_cases h1 : zbd o.filter w o.w = 0
  ·rw [if_neg (by simpa using h1)] at ht
   have := zmQ ht; omega
  ·rw [if_pos h1] at ht
   exact absurd ht h1
 ·rename_i hk
  rw [if_neg hk] at ht
  have hf := weights_few hl
  have hz : zcG (zaM o) h = 0 := by
   split at ht
   ·exact absurd ht (by assumption)
   ·split at ht
    ·exact absurd ht (by assumption)
    ·exact ht
  have := zmV _ _ hz
  omega
theorem leftN_few {d : JobD} {M : Nat} (hm : mostL d.s.y.lines ≤ M) : ∀ (k : Nat) (y e : Int), lnF d.s.y y ≤ e → leftN d k y e ≤ k * (M + 1)
 | 0, _, _, _ => by unfold leftN; omega
 | k + 1, y, e, he => by
  have h1 := leftN_few hm k (y + 1) (max (lnE d.s.y y) (lnF d.s.y (y + 1))) (by omega)
  have h2 := zon d.s.y y
  rw [Nat.add_mul, Nat.one_mul]
  unfold leftN
  unfold lnE lnF at *
  omega
def sumT (C : C21) : Nat → Nat → Nat
 | 0, _ => 0
 | j + 1, i => zhF C i + sumT C j (i + 1)
theorem sumT_few {C : C21} {H M : Nat} (hm : mostL C.d.s.y.lines ≤ M) (hh : ∀ i : Nat, (zaC C.d i).h ≤ H) : ∀ j i, sumT C j i ≤ j * (H * (M + 1))
 | 0, _ => by simp [sumT]
 | j + 1, i => by
  have h1 := sumT_few hm hh j (i + 1)
  have h2 : zhF C i ≤ H * (M + 1) := by
   unfold zhF leftZ
   refine Nat.le_trans (leftN_few (d := C.E.d (zaC C.d i)) hm _ _ _ (Int.le_refl _)) (Nat.mul_le_mul_right _ ?_)
   have := hh i
   show ((zaC C.d i).y + (zaC C.d i).h - (zaC C.d i).y).toNat ≤ H
   omega
  unfold sumT
  rw [Nat.add_mul, Nat.one_mul]
  omega
theorem parts_sum {n size : Int} (hn : 1 ≤ n ∧ n ≤ 12) (hs : 1 ≤ size ∧ size ≤ 13) : 1 ≤ zbW n size ∧ zbW n size ≤ 12 ∧ zbW n size * min size n ≤ 24 := by
 unfold zbW
 have h1 := Int.mul_ediv_add_emod (n + size - 1) size
 have h2 := Int.emod_nonneg (n + size - 1) (show size ≠ 0 by omega)
 have h3 := Int.emod_lt_of_pos (n + size - 1) (show 0 < size by omega)
 generalize (n + size - 1) / size = k at *
 generalize (n + size - 1) % size = r at *
 rcases Int.lt_or_le n size with h | h
 ·have : k = 1 := by
   have a1 : k < 2 := by
    refine Int.lt_of_not_ge fun h4 => ?_
    have : size * 2 ≤ size * k := Int.mul_le_mul_of_nonneg_left h4 (by omega)
    omega
   have a2 : 0 < k := by
    refine Int.lt_of_not_ge fun h4 => ?_
    have : size * k ≤ size * 0 := Int.mul_le_mul_of_nonneg_left h4 (by omega)
    omega
   omega
  subst this
  omega
 ·have e1 : k * min size n = size * k := by rw [show min size n = size by omega, Int.mul_comm]
  rw [e1]
  have a2 : 0 < k := by
   refine Int.lt_of_not_ge fun h4 => ?_
   have : size * k ≤ size * 0 := Int.mul_le_mul_of_nonneg_left h4 (by omega)
   omega
  have a3 : 1 * k ≤ size * k := Int.mul_le_mul_of_nonneg_right hs.1 (by omega)
  refine ⟨by omega, ?_, by omega⟩
  refine Int.le_of_not_gt fun h4 => ?_
  have : size * 13 ≤ size * k := Int.mul_le_mul_of_nonneg_left (by omega) (by omega)
  omega
theorem bg_few {a : PicA} {o : OpD} (B : BgOk a o) {tw th : Int} (hw : 0 ≤ tw) (hh : 0 ≤ th) {C : C21} (hC : C.d = znX a o tw th) : ∃ N : Nat, (N : Int) = zcc C.d ∧ 1 ≤ N ∧ N ≤ 144 ∧ sumT C N 0 ≤ 23328 := by
 have hsx := B.sx
 have hsy := B.sy
 have w13 : 0 ≤ tw % 13 ∧ tw % 13 < 13 := ⟨Int.emod_nonneg _ (by omega), Int.emod_lt_of_pos _ (by omega)⟩
 have h13 : 0 ≤ th % 13 ∧ th % 13 < 13 := ⟨Int.emod_nonneg _ (by omega), Int.emod_lt_of_pos _ (by omega)⟩
 have px := parts_sum (n := (bgS a o).x.lines.length) (size := 1 + tw % 13) (by omega) (by omega)
 have py := parts_sum (n := (bgS a o).y.lines.length) (size := 1 + th % 13) (by omega) (by omega)
 have hc : zcc C.d = zbW (bgS a o).x.lines.length (1 + tw % 13) * zbW (bgS a o).y.lines.length (1 + th % 13) := by rw [hC]; rfl
 have hm : mostL C.d.s.y.lines ≤ ((80 : Nat) : Int) := by
  rw [hC]
  exact makeS_few B.made B.little (by have := zj9 a; omega)
 obtain ⟨H, eH⟩ : ∃ H : Nat, (H : Int) = min (1 + th % 13) (bgS a o).y.lines.length := ⟨(min (1 + th % 13) (bgS a o).y.lines.length).toNat, by omega⟩
 have hH : ∀ i : Nat, (zaC C.d i).h ≤ H := by
  intro i
  rw [eH, hC]
  show min (1 + th % 13) ((bgS a o).y.lines.length - outY _ _) ≤ _
  have : 0 ≤ outY (znX a o tw th) i := by
   unfold outY
   refine Int.mul_nonneg (Int.ediv_nonneg (by omega) ?_) (by show 0 ≤ 1 + th % 13; omega)
   show 0 ≤ zbW (bgS a o).x.lines.length (1 + tw % 13)
   omega
  omega
 have hs := sumT_few (C := C) hm hH
 rw [hc]
 revert hs px py eH
 generalize zbW (bgS a o).x.lines.length (1 + tw % 13) = A
 generalize zbW (bgS a o).y.lines.length (1 + th % 13) = D
 intro px py eH hs
 obtain ⟨A', rfl⟩ : ∃ A' : Nat, (A' : Int) = A := ⟨A.toNat, by omega⟩
 obtain ⟨D', rfl⟩ : ∃ D' : Nat, (D' : Int) = D := ⟨D.toNat, by omega⟩
 have e1 : A' * D' ≤ 12 * 12 := Nat.mul_le_mul (by omega) (by omega)
 have e2 : 1 * 1 ≤ A' * D' := Nat.mul_le_mul (by omega) (by omega)
 have e3 : D' * H ≤ 24 := by
  have : ((D' * H : Nat) : Int) ≤ 24 := by rw [Int.natCast_mul, eH]; exact py.2.2
  omega
 refine ⟨A' * D', by rw [Int.natCast_mul], by omega, e1, Nat.le_trans (hs _ _) ?_⟩
 have e4 : A' * D' * (H * 81) = A' * (D' * H) * 81 := by rw [Nat.mul_assoc, ← Nat.mul_assoc D' H 81, ← Nat.mul_assoc]
 have e5 : A' * (D' * H) ≤ 12 * 24 := Nat.mul_le_mul (by omega) e3
 show A' * D' * (H * 81) ≤ _
 omega
def zg4 (d : PlanD) (c : Int) : Int := mostL d.s.y.lines * min d.w d.X * max 0 c
theorem zru {Z : Nat → Prop} {h : Heap} {b : Nat} {d : PlanD} {p q : Value} (H : zhV Z h b d p q) (W : d.Wf) (hm : mostL d.s.y.lines ≤ 65536) {c : Int} (hc : 0 ≤ c ∧ c ≤ 3) : FCall prog zcq #[ptr b, .int .i64 c] h fun r h' => r = .int .i64 (zg4 d c) ∧ h' = h := by
 apply zjk
 unfold zeW
 have hb := PlanD.bd W
 have hw := W.w
 unfold sideT at hw
 have h0 := most_nn d.s.y.lines
 simp only [go_sem, Nat.zero_add]
 refine zan (fun h' => h' = h) rfl ?_
 refine zaf q (fun h' e => by rw [e]; exact zac H.row) ?_
 try simp only [go_sem, Nat.zero_add]
 refine zaf (.int .i64 d.w) (fun h' e => by rw [e]; exact zac H.row) ?_
 try simp only [go_sem, Nat.zero_add]
 refine zaf p (fun h' e => by rw [e]; exact zac H.row) ?_
 refine zaf (.int .i64 (max 0 c)) (fun _ _ => rfl) ?_
 refine FCall.at (c_Most H.y) ⟨rfl, ?_⟩
 refine FCall.at (c_To H.x) ⟨rfl, ?_⟩
 refine zaf (.int .i64 (min d.w d.X)) (fun _ _ => znl _ _ _) ?_
 have e1 : 0 ≤ mostL d.s.y.lines * min d.w d.X ∧ mostL d.s.y.lines * min d.w d.X ≤ 65536 * 4096 := ⟨Int.mul_nonneg h0 (by omega), Int.mul_le_mul hm (by omega) (by omega) (by omega)⟩
 have e2 : 0 ≤ mostL d.s.y.lines * min d.w d.X * max 0 c ∧ mostL d.s.y.lines * min d.w d.X * max 0 c ≤ 65536 * 4096 * 3 := ⟨Int.mul_nonneg e1.1 (by omega), Int.mul_le_mul e1.2 (by omega) (by omega) (by omega)⟩
 simp only [go_sem]
 rw [w64 (n := mostL d.s.y.lines * min d.w d.X) (by omega) (by omega), w64 (n := mostL d.s.y.lines * min d.w d.X * max 0 c) (by omega) (by omega)]
 exact ⟨rfl, trivial⟩
theorem words_bd {C : C21} (O : C.Ok) (h1 : 1 ≤ mostL C.d.s.y.lines) {i : Int} (h0 : 0 ≤ i) (hi : i < zcc C.d) : 1 ≤ (roomN (mostL C.d.s.y.lines) : Int) * (zcy ((zaC C.d i).w * C.m.c) : Int) ∧ (roomN (mostL C.d.s.y.lines) : Int) * (zcy ((zaC C.d i).w * C.m.c) : Int) ≤ zg4 C.d C.m.c := by
 have hf := zbs O.m.fits
 have hw := zfk O.d h0 hi
 have hm := O.s.most
 have hs := O.s.side
 unfold zb8 at hw
 have e1 : (roomN (mostL C.d.s.y.lines) : Int) = mostL C.d.s.y.lines := by unfold roomN; omega
 have b1 : 1 * 1 ≤ (zaC C.d i).w * C.m.c := Int.mul_le_mul (by omega) (by omega) (by omega) (by omega)
 have b2 : (zaC C.d i).w * C.m.c ≤ 300 * 3 := Int.mul_le_mul (by omega) (by omega) (by omega) (by omega)
 have e2 : (zcy ((zaC C.d i).w * C.m.c) : Int) = (zaC C.d i).w * C.m.c := by unfold zcy; omega
 rw [e1, e2]
 have hle : (zaC C.d i).w ≤ min C.d.w C.d.X := by
  show min C.d.w (C.d.X - outX C.d i) ≤ _
  have : 0 ≤ outX C.d i := hw.2.2.1
  omega
 refine ⟨?_, ?_⟩
 ·have : 1 * 1 ≤ mostL C.d.s.y.lines * ((zaC C.d i).w * C.m.c) := Int.mul_le_mul h1 (by omega) (by omega) (by omega)
  omega
 ·unfold zg4
  rw [show max 0 C.m.c = C.m.c by omega, ← Int.mul_assoc]
  refine Int.mul_le_mul_of_nonneg_right ?_ (by omega)
  exact Int.mul_le_mul_of_nonneg_left hle (by omega)
theorem send_all {Q : Nat → Prop} {h : Heap} {bq N : Nat} (H : IsQ Q h bq ⟨4096, [], false⟩) (hN : N ≤ 4096) {X : Heap → Prop} (HX : ∀ h' Q', IsQ Q' h' bq ⟨4096, numsL N, false⟩ → (∀ c, Q' c → Q c ∨ h.size ≤ c) → Fr Q h h' → X h') :
  loopK [(.int .i64 0)] h fun x158 j159 h160 again161 => vK (binV .i .lss (ix x158 0) (.int .i64 N)) fun v162 => iteK v162 (FCall prog zbr #[ptr bq, (ix x158 0)] h160 fun v163 h164 => vK (binV .i .add (ix x158 0) (.int .i64 1)) fun v165 => again161 [v165] h164) (X h160) := by
 have hL := ze0 N
 refine zaD (α := Unit) N 0 (fun i _ => [.int .i64 (i : Int)]) (fun i _ g => ∃ Q', IsQ Q' g bq ⟨4096, (numsL N).take i, false⟩ ∧ (∀ c, Q' c → Q c ∨ h.size ≤ c) ∧ Fr Q h g) () rfl (Nat.zero_le _) ⟨Q, H, fun c hc => .inl hc, Fr.refl _ _⟩ fun i _ g again ρ _ hi ⟨Q', q, k, f⟩ Hag => ?_
 simp only [ix_0]
 rw [zbM, zaa]
 refine zab (fun g1 => ?_) (fun g1 => ?_)
 ·have hi' : i < N := by omega
  have hil : i < (numsL N).length := by omega
  refine (c_qSend q).mono fun _ g2 ⟨_, q2, f2⟩ => ?_
  have hs : sendQ ⟨4096, (numsL N).take i, false⟩ (i : Int) = ⟨4096, (numsL N).take (i + 1), false⟩ := by
   have e1 : (numsL N).take (i + 1) = (numsL N).take i ++ [(i : Int)] := by rw [List.take_succ_eq_append_getElem hil, zl1]
   unfold sendQ
   rw [if_neg (by simp), if_neg (by simp [hL]; omega), e1]
  rw [hs] at q2
  have hw' : (i : Int) + 1 = ((i + 1 : Nat) : Int) := by omega
  try simp only [go_sem]
  rw [w64 (n := (i : Int) + 1) (by omega) (by omega), hw']
  have hfs := f.1
  exact Hag () g2 hi' ⟨_, q2, fun c hc => hc.elim (k c) fun h => .inr (by omega), f.after f2 fun c hc hq => (k c hq).resolve_right (by omega)⟩
 ·have hil : i = N := by omega
  subst hil
  have ht : (numsL i).take i = numsL i := List.take_of_length_le (by omega)
  rw [ht] at q
  exact HX g Q' q k f
theorem Solo.ext_ {C : C21} {Z : Nat → Prop} {h0 h h' : Heap} {bo : Option Nat} {T : TypeId} {n : Pic} {w : WD} {q : QD} (S : Solo C Z h0 bo T h n w q) (e : Ext h h') : Solo C Z h0 bo T h' n w q := by
 obtain ⟨⟨B, Q, W, q0, k1, k2, k3, k4, k5⟩, V, su, var, vo, E0⟩ := S
 exact ⟨⟨B, Q, W.ext e, q0.ext e, k1, k2, k3, k4, k5⟩, V.ext e, su, fun b hb => e.row (var b hb), vo, E0.trans e⟩
theorem zpu {C : C21} {Z : Nat → Prop} {h0 h hE : Heap} {bo : Option Nat} {T : TypeId} {n : Pic} {Q : Nat → Prop} {L : List Int} (E0 : Ext h0 h) (V : C.Env Z h n) (su : C.suits n) (E : Ext h hE) (rw' : hE[C.bw]? = some (.cells #[.int .i64 0, .slice none 0 0, .pointer none, .int .i64 0] 117 (0, 0))) (q : IsQ Q hE C.bq ⟨4096, L, true⟩)
  (nw : h.size ≤ C.bw) (nq : ∀ c, Q c → h.size ≤ c) (wq : ¬ Q C.bw) (var : VarAt bo T 0 hE) (vo : ∀ b, bo = some b → h.size ≤ b ∧ ¬ Q b ∧ b ≠ C.bw) : Solo C Z h0 bo T hE n (soloW C.E L 0 none 0) (soloQ L 0) := by
 have hs := E0.1
 have I : OutAt h (some C.E) n := fun E' hE => by cases hE; exact ⟨V.set.out, su.1⟩
 have zl := V.set.zl
 have hz : ∀ {c : Nat}, h.size ≤ c → ¬ Z c := fun hc hz => by have := zl _ hz; omega
 have W : IsW Z (fun c => c = C.bw) hE C.bw (some C.E) n ⟨0, [], none, 0⟩ := IsW.new rw' (hz nw) (I.new nw).1 (I.new nw).2 (fun c hc => Nat.lt_of_lt_of_le (zl c hc) E.1) (I.ext E)
 exact ⟨⟨_, Q, W, q, fun c hc hq => wq (by rw [← show c = C.bw from hc]; exact hq), fun c hc => ⟨hz (nq c hc), I.new (nq c hc)⟩, fun c hc => by have hc : c = C.bw := hc; omega, fun c hc => by have := nq c hc; omega, fun b hb => ⟨(vo b hb).2.2, (vo b hb).2.1⟩⟩, V.ext E, su, var, fun b hb => ⟨hz (vo b hb).1, (I.new (vo b hb).1).1, (I.new (vo b hb).1).2, by have := (vo b hb).1; omega⟩, E0.trans E⟩
theorem Solo.tiles {C : C21} {Z : Nat → Prop} {h0 h : Heap} {bo : Option Nat} {T : TypeId} {n : Pic} {w : WD} {q : QD} (S : Solo C Z h0 bo T h n w q) (ht : w.tiles.length ≤ 1000000) : FCall prog zaP #[ptr C.bw] h fun r h' => New (Rp.int .i64) h h' r w.tiles := by
 obtain ⟨⟨B, Q, W, _⟩, _⟩ := S
 exact c_Tiles W ht
theorem Solo.state {C : C21} {Z : Nat → Prop} {h0 h : Heap} {bo : Option Nat} {T : TypeId} {n : Pic} {w : WD} {q : QD} (S : Solo C Z h0 bo T h n w q) : FCall prog zaQ #[ptr C.bw] h fun r h' => r = .int .i64 w.state ∧ h' = h := by
 obtain ⟨⟨B, Q, W, _⟩, _⟩ := S
 exact c_State W
theorem Solo.scratch {C : C21} {Z : Nat → Prop} {h0 h : Heap} {bo : Option Nat} {T : TypeId} {n : Pic} {w : WD} {q : QD} (S : Solo C Z h0 bo T h n w q) : FCall prog zaI #[ptr C.bw] h fun r h' => r = .int .i64 w.words ∧ h' = h := by
 obtain ⟨⟨B, Q, W, _⟩, _⟩ := S
 exact zoJ W
theorem zoI {h : Heap} (G : GlobB h) {cs os : List Value} {a : PicA} {o : OpD} {Z1 Z2 : Nat → Prop} (H : rPicA.R Z1 h cs a) (WA : a.Wf) (HO : rOp.R Z2 h os o) (WO : OpsWf [o]) {tw th : Int} (hw : B8 tw) (hh : B8 th) :
  FCall prog zcM #[.agg cs.toArray, .agg os.toArray, .int .u8 tw, .int .u8 th] h fun r h' => r = .bool true ∧ Ext h h' := by
 apply zh1
 unfold zd1
 simp only [zaG]
 refine zai fun b1 h1 r1 e1 n1 => zai fun b3 h3 r3 e3 n3 => ?_
 have E3 := e1.trans e3
 refine FCall.to (zi3 (G.ext E3)) fun h6 e6 => ?_
 have E6 := E3.trans e6
 simp only [go_sem]
 refine open21 (G.ext E6) ((e3.trans e6).row r1) (e6.row r3) (rPicA.ext H E6) WA (rOp.ext HO E6) WO hw hh (fun h' e => ⟨rfl, E6.trans e⟩) fun h7 Z bm bn bs bp bf vf bt vt p q rv bl pp pq B E7 V zn nbt nvt => ?_
 have mwf := zi2 a
 have OK := B.stg
 have hm1 := B.most1
 have sui := B.suits
 have nwf := B.nwf
 have WP : (znX a o tw th).Wf := ⟨OK.wf, by have := hw; unfold B8 at this; show sideT (1 + tw % 13); unfold sideT; omega, by have := hh; unfold B8 at this; show sideT (1 + th % 13); unfold sideT; omega⟩
 have hf := zbs mwf.fits
 have GG := G.ext E6
 refine zhg.mono fun r h8 ⟨bw, er, r8, e8, n8⟩ => ?_
 subst er
 refine c_qNew.mono fun r h9 ⟨bq, er, Q9, e9, n9⟩ => ?_
 subst er
 have Q9 : IsQ (fun c => c = bq) h9 bq ⟨4096, [], false⟩ := Q9
 obtain ⟨C, hC⟩ : ∃ C : C21, C = ⟨bm, bn, bs, bp, bf, vf, bt, vt, p, q, rv, bl, pp, pq, drawA a, znX a o tw th, bw, bq⟩ := ⟨_, rfl⟩
 have CO : C.Ok := by rw [hC]; exact ⟨mwf, WP, OK⟩
 obtain ⟨N, hN, N1, N2, hsum⟩ := bg_few (C := C) B hw.1 hh.1 (by rw [hC])
 have VC : C.Env Z h7 (bgN a o) := by rw [hC]; exact V
 clear V
 have su : C.suits (bgN a o) := by rw [hC]; exact ⟨nwf, sui⟩
 have hcm : 0 ≤ C.m.c ∧ C.m.c ≤ 3 := by rw [hC]; exact ⟨show 0 ≤ (drawA a).c by omega, show (drawA a).c ≤ 3 by omega⟩
 have hm1 : 1 ≤ mostL C.d.s.y.lines := by rw [hC]; exact hm1
 have eb : bw = C.bw ∧ bq = C.bq ∧ bp = C.bp ∧ bm = C.bm ∧ bn = C.bn ∧ bs = C.bs := by rw [hC]; exact ⟨rfl, rfl, rfl, rfl, rfl, rfl⟩
 obtain ⟨rfl, rfl, rfl, rfl, rfl, rfl⟩ := eb
 have hout : ∀ c, outB (some C.E) c → h6.size ≤ c := by rw [hC]; exact nvt
 clear hC
 have V := VC
 generalize bgN a o = n0 at *
 have I7 : OutAt h7 (some C.E) n0 := fun E' hE => by cases hE; exact ⟨V.set.out, su.1⟩
 have zl := V.set.zl
 have hz : ∀ {c : Nat}, h7.size ≤ c → ¬ Z c := fun hc hz => by have := zl _ hz; omega
 have hs8 := e8.1
 have hs9 := e9.1
 have lw := zay r8
 have W9 : IsW Z (fun c => c = C.bw) h9 C.bw (some C.E) n0 ⟨0, [], none, 0⟩ := IsW.new (e9.row r8) (hz n8) (I7.new n8).1 (I7.new n8).2 (fun c hc => Nat.lt_of_lt_of_le (zl c hc) (e8.trans e9).1) (I7.ext (e8.trans e9))
 refine FCall.at (zoJ W9) ?_
 have V9 := V.ext (e8.trans e9)
 obtain ⟨t4, m4⟩ := V9.vp
 have c4 : zah h9 ⟨C.bp, 0, none⟩ = some (ptr C.bl) := zac m4
 simp only [go_sem, c4]
 refine FCall.at (zkd V9.plan CO.d) ?_
 rw [← hN]
 refine send_all Q9 (by omega) fun h10 Q10 q10 k10 f10 => ?_
 refine (znt q10).mono fun _ h11 ⟨_, q11, f11⟩ => ?_
 have hs10 := f10.1
 have hs11 := f11.1
 have k10' : ∀ c, Q10 c → h8.size ≤ c := fun c hc => (k10 c hc).elim (fun h => by have h : c = C.bq := h; omega) fun h => by omega
 refine zai fun bo h12 r12 e12 n12 => ?_
 have hs12 := e12.1
 refine zaO r12 (by simp) rfl fun h13 r13 u13 => ?_
 have r13 : h13[bo]? = some (.cells #[.int .i64 0] 3 (0, 0)) := r13
 have hs13 := u13.1
 have lbo := zay r12
 have nbo : h11.size ≤ bo := n12
 have E13 : Ext h7 h13 := ((((e8.trans e9).then_fr f10 fun c hc => by have hc : c = C.bq := hc; omega).then_fr f11 fun c hc => by have := k10' c hc; omega).trans e12).upd (by omega) u13
 have lq : ∀ c, Q10 c → c < h11.size := q11.ql
 have S0 : Solo C Z h6 (some bo) 3 h13 n0 (soloW C.E (numsL N) 0 none 0) (soloQ (numsL N) 0) := by
  refine zpu (Q := Q10) E7 V su E13 ?_ ?_ n8 (fun c hc => by have := k10' c hc; omega) (fun hc => by have := k10' _ hc; omega) (fun b hb => by cases hb; exact r13) (fun b hb => by cases hb; exact ⟨by omega, fun hc => by have := lq _ hc; omega, by omega⟩)
  ·exact u13.row (by omega) (e12.row (f11.row (f10.row (e9.row r8) fun hc => by have hc : C.bw = C.bq := hc; omega) fun hc => by have := k10' _ hc; omega))
  ·exact (q11.ext e12).fr u13.fr fun c hc he => by have := lq c hc; have he : c = bo := he; omega
 have hov : ∀ c : Array Value, binV .f .neq (.func (.func za4) #[] c) .nilFunc = some (.bool true) := fun _ => rfl
 have hso : ∀ {h n w q}, Solo C Z h6 (some bo) 3 h n w q → ∀ g n' (x : Int), GlobB g → C.Env Z g n' → C.suits n' → VarAt (some bo) 3 w.words g → 0 ≤ x → x < zcc C.d → clK prog (.func (.func za4) #[] #[ptr C.bp, ptr C.bm, ptr C.bn, ptr C.bs, ptr bo]) #[.int .i64 x] g (zqe C Z (some bo) 3 n' x w.words g) :=
  fun S g n' x g1 g2 g3 g4 g5 g6 => op_scratch CO g1 g2 g3 g5 g6 g4 (S.vo bo rfl).1 (S.vo bo rfl).2.1 (S.vo bo rfl).2.2.1
 simp only [go_sem]
 refine zau (fun xs g => xs = [] ∧ ∃ n wd, Solo C Z h6 (some bo) 3 g n ⟨2, numsL N, none, wd⟩ ⟨4096, [], true⟩ ∧ 1 ≤ wd) ?_ ?_
 ·refine zaD (α := Nat × Option (TileD × Int × Int) × Int × Pic) 100000 0 (fun i _ => [.int .i64 (i : Int)]) (fun i s g => Solo C Z h6 (some bo) 3 g s.2.2.2 (soloW C.E (numsL N) s.1 s.2.1 s.2.2.1) (soloQ (numsL N) s.1) ∧ s.1 ≤ N ∧ i + muJ C.E s.2.1 + sumT C (N - s.1) s.1 + (N - s.1) = sumT C N 0 + N ∧ 0 ≤ s.2.2.1 ∧ s.2.2.1 ≤ zg4 C.d C.m.c ∧ (0 < s.1 → 1 ≤ s.2.2.1)) (0, none, 0, n0) rfl (Nat.zero_le _) ?_ ?_
  ·have hb0 := (words_bd CO hm1 (i := 0) (Int.le_refl _) (by omega))
   exact ⟨S0, Nat.zero_le _, by show 0 + 0 + sumT C (N - 0) 0 + (N - 0) = _; rw [Nat.sub_zero]; omega, Int.le_refl _, by show 0 ≤ zg4 C.d C.m.c; omega, fun h => absurd h (Nat.lt_irrefl _)⟩
  ·rintro i ⟨k, jo, wd, n⟩ g again ρ _ hi ⟨S, hk, hsm, w0, w1, w2⟩ Hag
   have S : Solo C Z h6 (some bo) 3 g n (soloW C.E (numsL N) k jo wd) (soloQ (numsL N) k) := S
   have hsm : i + muJ C.E jo + sumT C (N - k) k + (N - k) = sumT C N 0 + N := hsm
   have w0 : 0 ≤ wd := w0
   have w1 : wd ≤ zg4 C.d C.m.c := w1
   have w2 : 0 < k → 1 ≤ wd := w2
   have hk : k ≤ N := hk
   simp only [ix_0]
   rw [zbM, zaa]
   refine zab (fun g1 => ?_) (fun g1 => ?_)
   ·refine (c_turn GG S hk hN (by omega) hout (hov _) (hso S)).mono fun r g2 HT => ?_
    -- on, behind a turn that isn't the last
    have cont : ∀ {g3 : Heap} {n' : Pic} {k' : Nat} {jo' : Option (TileD × Int × Int)} {wd' : Int}, Solo C Z h6 (some bo) 3 g3 n' (soloW C.E (numsL N) k' jo' wd') (soloQ (numsL N) k') → k' ≤ N → (i + 1) + muJ C.E jo' + sumT C (N - k') k' + (N - k') = sumT C N 0 + N → 0 ≤ wd' → wd' ≤ zg4 C.d C.m.c → (0 < k' → 1 ≤ wd') →
      drawK g3 fun S => qK S (fun h186 => ldV h186 (ptr bo)) fun v190 => FCall prog zaI #[ptr C.bw] g3 fun v191 h192 => S h192 ∧ (vK (binV .i .neq v191 v190) fun v193 => qK S (fun h192 => gV v193 false (ldV h192 (ptr bo))) fun v194 => qK S (fun h192 => gV v193 false (ldV h192 (ptr C.bp))) fun v195 => qK S (fun h192 => gV v193 false (ldV h192 (ptr C.bm))) fun v196 =>
       gK v193 false (fun k205 => FCall prog zae #[v196] h192 k205) h192 fun v197 h198 => S h198 ∧ (gK v193 false (fun k204 => FCall prog zcq #[v195, v197] h198 k204) h198 fun v199 h200 => S h200 ∧ (vK (gV v193 false (binV .i .gtr v194 v199)) fun v201 => vK (pickV v193 (.bool true) v201) fun v202 =>
       iteK v202 (Value.bool false = .bool true ∧ Ext h h200) (vK (binV .i .add (.int .i64 (i : Int)) (.int .i64 1)) fun v203 => again [v203] h200)))) := by
     intro g3 n' k' jo' wd' S3 a1 a2 a3 a4 a5
     have rb := S3.var bo rfl
     have cb : zah g3 ⟨bo, 0, none⟩ = some (.int .i64 wd') := zac rb
     obtain ⟨t4, m4⟩ := S3.env.vp
     obtain ⟨t1, m1⟩ := S3.env.vm
     have c4 : zah g3 ⟨C.bp, 0, none⟩ = some (ptr C.bl) := zac m4
     have c1 : zah g3 ⟨C.bm, 0, none⟩ = some (ptr C.bf) := zac m1
     refine zan (fun g => g = g3) rfl ?_
     refine zaf (.int .i64 wd') (fun g e => by rw [e]; exact cb) ?_
     refine FCall.at S3.scratch ⟨rfl, ?_⟩
     simp only [go_sem]
     refine zaf (.int .i64 wd') (fun g e => by rw [e]; exact cb) ?_
     refine zaf (ptr C.bl) (fun g e => by rw [e]; exact c4) ?_
     refine zaf (ptr C.bf) (fun g e => by rw [e]; exact c1) ?_
     refine FCall.at (zbV S3.env.set.src) ⟨rfl, ?_⟩
     refine FCall.at (zru S3.env.plan CO.d CO.s.most hcm) ⟨rfl, ?_⟩
     simp only [go_sem]
     rw [decide_eq_false (by omega)]
     simp only [go_sem]
     have hw' : (i : Int) + 1 = ((i + 1 : Nat) : Int) := by omega
     rw [w64 (n := (i : Int) + 1) (by omega) (by omega), hw']
     exact Hag (k', jo', wd', n') g3 (by omega) ⟨S3, a1, a2, a3, a4, a5⟩
    rcases HT with ⟨t, y, e, a', b', c', n', rfl, rfl, S', D, hmu⟩ | ⟨rfl, hkN, rfl, S', hmu⟩ | ⟨rfl, rfl, rfl, S'⟩
    ·refine za1 (cs := [.int .i64 2, .int .i64 a', .int .i64 b', .int .i64 c']) rfl (zad rfl (zad rfl (zad rfl (zad rfl zao)))) rfl fun be g3 re ee ne => ?_
     have ce : ldV g3 (.pointer (some ⟨be, 0 + 0, none⟩)) = some (.int .i64 2) := zac re
     rw [zhf, zaa, ce, zaa, zdK, zaa, decide_eq_false (by decide), zbc]
     exact cont (S'.ext_ ee) hk (by omega) w0 w1 w2
    ·refine za1 (cs := [.int .i64 1, .int .i64 k, .int .i64 0, .int .i64 0]) rfl (zad rfl (zad rfl (zad rfl (zad rfl zao)))) rfl fun be g3 re ee ne => ?_
     have ce : ldV g3 (.pointer (some ⟨be, 0 + 0, none⟩)) = some (.int .i64 1) := zac re
     rw [zhf, zaa, ce, zaa, zdK, zaa, decide_eq_false (by decide), zbc]
     have hsplit : sumT C (N - k) k = zhF C k + sumT C (N - (k + 1)) (k + 1) := by
      rw [show N - k = (N - (k + 1)) + 1 by omega]; rfl
     have hwb := words_bd CO hm1 (i := k) (by omega) (by omega)
     have hwj : zks (some C.E) (C.jo k) wd = max wd ((roomN (mostL C.d.s.y.lines) : Int) * (zcy ((zaC C.d k).w * C.m.c) : Int)) := rfl
     refine cont (S'.ext_ ee) (by omega) ?_ ?_ ?_ fun _ => ?_
     ·have hm0 : muJ C.E none = 0 := rfl
      omega
     ·rw [hwj]; omega
     ·rw [hwj]; omega
     ·rw [hwj]; omega
    ·refine za1 (cs := [.int .i64 3, .int .i64 0, .int .i64 0, .int .i64 0]) rfl (zad rfl (zad rfl (zad rfl (zad rfl zao)))) rfl fun be g3 re ee ne => ?_
     have ce : zah g3 ⟨be, 0, none⟩ = some (.int .i64 3) := zac re
     simp only [go_sem, Nat.zero_add, ce, eqT, decide_true]
     exact ⟨trivial, n, wd, S'.ext_ ee, w2 (by omega)⟩
   ·omega
 ·rintro xs ρ g ⟨rfl, n, wd, S, hwd⟩
  have cb : zah g ⟨bo, 0, none⟩ = some (.int .i64 wd) := zac (S.var bo rfl)
  obtain ⟨t4, m4⟩ := S.env.vp
  have c4 : zah g ⟨C.bp, 0, none⟩ = some (ptr C.bl) := zac m4
  refine zan (fun g' => g' = g) rfl ?_
  refine FCall.at S.state ?_
  refine zan (Ext g) (Ext.refl _) ?_
  simp only [go_sem, eqT, decide_true]
  refine zaf (ptr C.bl) (fun g' e => e.cell c4) ?_
  refine (S.tiles (by show (numsL N).length ≤ _; rw [ze0]; omega)).mono fun tv g2 NT => ⟨NT.2.1, ?_⟩
  obtain ⟨at_, ct, et⟩ := NT.sl.isSl
  have el : zag tv = some (.int .i64 (N : Int)) := by rw [et]; show some (Value.int .i64 ((numsL N).length : Int)) = _; rw [ze0]
  try simp only [go_sem]
  refine zaf (.int .i64 (N : Int)) (fun _ _ => el) ?_
  refine FCall.at (zkd (S.env.ext NT.2.1).plan CO.d) ⟨NT.2.1, ?_⟩
  rw [← hN]
  simp only [go_sem, eqT, decide_true]
  refine zaf (.int .i64 wd) (fun g' e => e.cell cb) ?_
  simp only [go_sem]
  rw [decide_eq_true (by omega)]
  exact ⟨rfl, E6.trans (S.ext.trans NT.2.1)⟩
end Go.Proofs.YtdbebmafgpdfhaaGreatDoor
