/- The engine, sixth part: conditions that are put together ('&&', '||') read as one. Conditions: none. -/
import Derived.Test.YtefdokfnnokagaaGreatDoorEe
set_option linter.unusedVariables false
set_option linter.unusedSimpArgs false
namespace Go.Crisp
open Go

/-- A value that is there under a guard alone. -/
def gD (b w : Bool) (v : Value) : Value := bif b == w then v else undef
theorem gD_tt (v : Value) : gD true true v = v := Eq.trans rfl rfl
theorem gD_ff (v : Value) : gD false false v = v := Eq.trans rfl rfl
theorem gD_tf (v : Value) : gD true false v = undef := Eq.trans rfl rfl
theorem gD_ft (v : Value) : gD false true v = undef := Eq.trans rfl rfl
theorem gD_gD (b w : Bool) (v : Value) : gD b w (gD b w v) = gD b w v := by cases b <;> cases w <;> rfl
theorem gV_gD (b w : Bool) (v : Value) : gV (.bool b) w (some v) = some (gD b w v) := by cases b <;> cases w <;> rfl
theorem gV_un (b w : Bool) (o : UnOp) (v : Value) : gV (.bool b) w (unV o (gD b w v)) = gV (.bool b) w (unV o v) := by cases b <;> cases w <;> rfl
theorem gV_binl (b w : Bool) (e : EK) (o : BinOp) (v u : Value) : gV (.bool b) w (binV e o (gD b w v) u) = gV (.bool b) w (binV e o v u) := by cases b <;> cases w <;> rfl
theorem gV_binr (b w : Bool) (e : EK) (o : BinOp) (v u : Value) : gV (.bool b) w (binV e o u (gD b w v)) = gV (.bool b) w (binV e o u v) := by cases b <;> cases w <;> rfl
theorem gV_cvi (b w : Bool) (k : IntKind) (v : Value) : gV (.bool b) w (cviV k (gD b w v)) = gV (.bool b) w (cviV k v) := by cases b <;> cases w <;> rfl
theorem gV_fld (b w : Bool) (n : Nat) (v : Value) : gV (.bool b) w (fldV n (gD b w v)) = gV (.bool b) w (fldV n v) := by cases b <;> cases w <;> rfl
theorem gV_ld (b w : Bool) (h : Heap) (v : Value) : gV (.bool b) w (ldV h (gD b w v)) = gV (.bool b) w (ldV h v) := by cases b <;> cases w <;> rfl
theorem gV_lds (b w : Bool) (n : Nat) (h : Heap) (v : Value) : gV (.bool b) w (ldsV n h (gD b w v)) = gV (.bool b) w (ldsV n h v) := by cases b <;> cases w <;> rfl
theorem gV_idxl (b w : Bool) (n : Nat) (v u : Value) : gV (.bool b) w (idxV n (gD b w v) u) = gV (.bool b) w (idxV n v u) := by cases b <;> cases w <;> rfl
theorem gV_idxr (b w : Bool) (n : Nat) (v u : Value) : gV (.bool b) w (idxV n u (gD b w v)) = gV (.bool b) w (idxV n u v) := by cases b <;> cases w <;> rfl
theorem gV_lensl (b w : Bool) (v : Value) : gV (.bool b) w (lenslV (gD b w v)) = gV (.bool b) w (lenslV v) := by cases b <;> cases w <;> rfl
theorem gV_lenst (b w : Bool) (v : Value) : gV (.bool b) w (lenstV (gD b w v)) = gV (.bool b) w (lenstV v) := by cases b <;> cases w <;> rfl
theorem gV_ext (b w : Bool) (n : Nat) (v : Value) : gV (.bool b) w (extV (gD b w v) n) = gV (.bool b) w (extV v n) := by cases b <;> cases w <;> rfl
theorem gV_nil (b w : Bool) (v : Value) : gV (.bool b) w (nilV (gD b w v)) = gV (.bool b) w (nilV v) := by cases b <;> cases w <;> rfl
theorem gV_maxl (b w : Bool) (v u : Value) : gV (.bool b) w (maxV (gD b w v) u) = gV (.bool b) w (maxV v u) := by cases b <;> cases w <;> rfl
theorem gV_maxr (b w : Bool) (v u : Value) : gV (.bool b) w (maxV u (gD b w v)) = gV (.bool b) w (maxV u v) := by cases b <;> cases w <;> rfl
theorem gV_minl (b w : Bool) (v u : Value) : gV (.bool b) w (minV (gD b w v) u) = gV (.bool b) w (minV v u) := by cases b <;> cases w <;> rfl
theorem gV_minr (b w : Bool) (v u : Value) : gV (.bool b) w (minV u (gD b w v)) = gV (.bool b) w (minV u v) := by cases b <;> cases w <;> rfl
theorem gV_part (b w a : Bool) (n o : Nat) (v : Value) : gV (.bool b) w (partV a n o (gD b w v)) = gV (.bool b) w (partV a n o v) := by cases b <;> cases w <;> rfl
theorem gV_pick0 (b w : Bool) (v u x : Value) : gV (.bool b) w (pickV (gD b w v) u x) = gV (.bool b) w (pickV v u x) := by cases b <;> cases w <;> rfl
theorem gV_pick1 (b w : Bool) (v u x : Value) : gV (.bool b) w (pickV v (gD b w u) x) = gV (.bool b) w (pickV v u x) := by cases b <;> cases w <;> rfl
theorem gV_pick2 (b w : Bool) (v u x : Value) : gV (.bool b) w (pickV v u (gD b w x)) = gV (.bool b) w (pickV v u x) := by cases b <;> cases w <;> rfl
theorem pick_and (b c : Bool) : pickV (.bool b) (gD b true (.bool c)) (.bool false) = some (.bool (b && c)) := by cases b <;> rfl
theorem pick_or (b c : Bool) : pickV (.bool b) (.bool true) (gD b false (.bool c)) = some (.bool (b || c)) := by cases b <;> rfl
theorem gV_guard (b w c w2 : Bool) (r : Option Value) : gV (gD b w (.bool c)) w2 r = gV (.bool ((b == w) && (c == w2))) true r := by cases b <;> cases w <;> cases c <;> cases w2 <;> rfl
theorem gK_guard (b w c w2 : Bool) (m : (Value → Heap → Prop) → Prop) (h : Heap) (K : Value → Heap → Prop) : gK (gD b w (.bool c)) w2 m h K = gK (.bool ((b == w) && (c == w2))) true m h K := by cases b <;> cases w <;> cases c <;> cases w2 <;> rfl
theorem gV_and_t (b c d : Bool) : gV (.bool b) true (pickV (.bool c) (gD (b && c) true (.bool d)) (.bool false)) = some (gD b true (.bool (c && d))) := by cases b <;> cases c <;> rfl
theorem gV_and_f (b c d : Bool) : gV (.bool b) false (pickV (.bool c) (gD (!b && c) true (.bool d)) (.bool false)) = some (gD b false (.bool (c && d))) := by cases b <;> cases c <;> rfl
theorem gV_or_t (b c d : Bool) : gV (.bool b) true (pickV (.bool c) (.bool true) (gD (b && !c) true (.bool d))) = some (gD b true (.bool (c || d))) := by cases b <;> cases c <;> rfl
theorem gV_or_f (b c d : Bool) : gV (.bool b) false (pickV (.bool c) (.bool true) (gD (!b && !c) true (.bool d))) = some (gD b false (.bool (c || d))) := by cases b <;> cases c <;> rfl
theorem gV_and_td (p q : Prop) [Decidable p] [Decidable q] (d : Bool) : gV (.bool (decide p)) true (pickV (.bool (decide q)) (gD (decide (p ∧ q)) true (.bool d)) (.bool false)) = some (gD (decide p) true (.bool (decide q && d))) := by rw [Bool.decide_and]; exact gV_and_t _ _ _
theorem gV_and_fd (p q : Prop) [Decidable p] [Decidable q] (d : Bool) : gV (.bool (decide p)) false (pickV (.bool (decide q)) (gD (decide (¬ p ∧ q)) true (.bool d)) (.bool false)) = some (gD (decide p) false (.bool (decide q && d))) := by rw [Bool.decide_and, decide_not]; exact gV_and_f _ _ _
theorem gV_or_td (p q : Prop) [Decidable p] [Decidable q] (d : Bool) : gV (.bool (decide p)) true (pickV (.bool (decide q)) (.bool true) (gD (decide (p ∧ ¬ q)) true (.bool d))) = some (gD (decide p) true (.bool (decide q || d))) := by rw [Bool.decide_and, decide_not]; exact gV_or_t _ _ _
theorem gV_or_fd (p q : Prop) [Decidable p] [Decidable q] (d : Bool) : gV (.bool (decide p)) false (pickV (.bool (decide q)) (.bool true) (gD (decide (¬ p ∧ ¬ q)) true (.bool d))) = some (gD (decide p) false (.bool (decide q || d))) := by rw [Bool.decide_and, decide_not, decide_not]; exact gV_or_f _ _ _
theorem beq_t (b : Bool) : (b == true) = b := by cases b <;> rfl
theorem beq_f (b : Bool) : (b == false) = !b := by cases b <;> rfl
theorem dec_and (p q : Prop) [Decidable p] [Decidable q] : (decide p && decide q) = decide (p ∧ q) := (Bool.decide_and p q).symm
theorem dec_or (p q : Prop) [Decidable p] [Decidable q] : (decide p || decide q) = decide (p ∨ q) := (Bool.decide_or p q).symm
theorem dec_not (p : Prop) [Decidable p] : (!decide p) = decide (¬ p) := decide_not.symm

theorem dec_ta (p : Prop) [Decidable p] : decide (True ∧ p) = decide p := by by_cases h : p <;> simp [h]
theorem dec_at (p : Prop) [Decidable p] : decide (p ∧ True) = decide p := by by_cases h : p <;> simp [h]
theorem dec_fa (p : Prop) [Decidable p] : decide (False ∧ p) = false := by simp
theorem dec_af (p : Prop) [Decidable p] : decide (p ∧ False) = false := by simp
/-- A guarded call, both ways. -/
theorem gK_t {b : Bool} {m : (Value → Heap → Prop) → Prop} {h : Heap} {K : Value → Heap → Prop} (h1 : b = true → m K) (h2 : b = false → K undef h) : gK (.bool b) true m h K := by
  cases b
  · exact h2 rfl
  · exact h1 rfl
theorem gK_f {b : Bool} {m : (Value → Heap → Prop) → Prop} {h : Heap} {K : Value → Heap → Prop} (h1 : b = false → m K) (h2 : b = true → K undef h) : gK (.bool b) false m h K := by
  cases b
  · exact h1 rfl
  · exact h2 rfl
theorem Upd.refl {b : Nat} {h : Heap} : Upd b h h := ⟨rfl, fun _ _ => rfl⟩
theorem Upd.trans {b : Nat} {h h1 h2 : Heap} (u : Upd b h h1) (v : Upd b h1 h2) : Upd b h h2 := ⟨v.1.trans u.1, fun k hk => (v.2 k hk).trans (u.2 k hk)⟩
/-- A loop over a heap that stays: what is carried is told by how often it went round. -/
theorem loop_st {init : List Value} {h : Heap} {body : List Value → Env → Heap → (List Value → Heap → Prop) → Prop} (st : Nat → List Value) (N i0 : Nat) (hi : init = st i0) (h0 : i0 ≤ N)
    (step : ∀ i again ρj, i0 ≤ i → i ≤ N → (i < N → again (st (i + 1)) h) → body (st i) ρj h again) : loopK init h body := by
  refine loopK_var (fun d xs h' => ∃ i, d = N - i ∧ i0 ≤ i ∧ i ≤ N ∧ xs = st i ∧ h' = h) (N - i0) ⟨i0, rfl, Nat.le_refl _, h0, hi, rfl⟩ ?_
  rintro d xs ρj h' again ⟨i, rfl, h1, h2, rfl, rfl⟩ H
  exact step i again ρj h1 h2 fun hl => H _ _ (N - (i + 1)) (by omega) ⟨i + 1, rfl, by omega, hl, rfl, rfl⟩
/-- The same, with a ghost, and a heap that changes. -/
theorem loop_g {α : Type} {init : List Value} {h : Heap} {body : List Value → Env → Heap → (List Value → Heap → Prop) → Prop} (N i0 : Nat) (st : Nat → α → List Value) (I : Nat → α → Heap → Prop) (a0 : α) (hi : init = st i0 a0) (h0 : i0 ≤ N) (hI : I i0 a0 h)
    (step : ∀ i a h again ρj, i0 ≤ i → i ≤ N → I i a h → (∀ a' h', i < N → I (i + 1) a' h' → again (st (i + 1) a') h') → body (st i a) ρj h again) : loopK init h body := by
  refine loopK_var (fun d xs h' => ∃ i a, d = N - i ∧ i0 ≤ i ∧ i ≤ N ∧ xs = st i a ∧ I i a h') (N - i0) ⟨i0, a0, rfl, Nat.le_refl _, h0, hi, hI⟩ ?_
  rintro d xs ρj h' again ⟨i, a, rfl, h1, h2, rfl, hi⟩ H
  exact step i a h' again ρj h1 h2 hi fun a' h' hl hI' => H _ _ (N - (i + 1)) (by omega) ⟨i + 1, a', rfl, by omega, hl, rfl, hI'⟩
attribute [go_sem] gD_gD gD_tt gD_ff gD_tf gD_ft gV_gD gV_un gV_binl gV_binr gV_cvi gV_fld gV_ld gV_lds gV_idxl gV_idxr gV_lensl gV_lenst gV_ext gV_nil gV_maxl gV_maxr gV_minl gV_minr gV_part gV_pick0 gV_pick1 gV_pick2
  true_or or_true false_or or_false dec_ta dec_at dec_fa dec_af pick_and pick_or gV_guard gK_guard gV_and_t gV_and_f gV_or_t gV_or_f gV_and_td gV_and_fd gV_or_td gV_or_fd beq_t beq_f dec_and dec_or dec_not
attribute [irreducible] gD
end Go.Crisp
