/- How arguments that are slices of one-cell values read. Conditions: none. -/
import Derived.Test.YtefdokfnnokagaaGreatDoorEd
import Derived.Test.YtefdokfnnokagaaGreatDoorRa
set_option linter.unusedVariables false
set_option linter.unusedSimpArgs false
namespace Go.Crisp
open Go

theorem sl1_rd {e : TS} {z : Nat} {h : Heap} {cs : List Value} {l : List e.T} (enc : e.T → Value) (Q : e.T → Prop) (hw : e.w = 1) (he : ∀ ds x, Rd e h ds x → ds = [enc x] ∧ Q x) (H : Rd (.sl e z) h cs l) :
    ∃ v, cs = [v] ∧ SlC 1 h v l.length (l.map enc) ∧ (∀ x ∈ l, Q x) ∧ l.length * z ≤ 140737488351232 := by
  obtain ⟨a, cap, rfl, h1, _, h2, hl⟩ := H
  have hz : l.length * z ≤ 140737488351232 := Nat.le_trans (Nat.mul_le_mul_right z h1) h2
  rcases hl with hl | ⟨b, o, ha, hl⟩
  · have : l = [] := List.eq_nil_of_length_eq_zero hl
    subst this
    exact ⟨_, rfl, ⟨rfl, a, cap, rfl, .inl rfl⟩, fun x hx => absurd hx (by simp), hz⟩
  · have ha : a = some ⟨b, o, none⟩ := ha.resolve_left (by omega)
    refine ⟨_, rfl, ⟨by simp, a, cap, rfl, .inr ⟨b, o, ha, fun j hj => ?_⟩⟩, fun x hx => ?_, hz⟩
    · rw [List.length_map] at hj
      obtain ⟨ds, _, hc, hr⟩ := hl j hj
      obtain ⟨rfl, _⟩ := he _ _ hr
      have := hc 0 (by simp)
      rw [hw] at this
      simp only [Nat.mul_one, Nat.add_zero, List.getElem_cons_zero] at this
      rw [List.getElem_map]
      exact this
    · obtain ⟨i, hi, rfl⟩ := List.mem_iff_getElem.1 hx
      obtain ⟨ds, _, hc, hr⟩ := hl i hi
      exact (he _ _ hr).2
theorem u8_wf {n : Int} (h : (Lit.int .u8 n).wf = true) : 0 ≤ n ∧ n ≤ 255 := by
  have h : (decide (IntKind.u8.min ≤ n) && decide (n ≤ IntKind.u8.max)) = true := h
  rw [Bool.and_eq_true, decide_eq_true_eq, decide_eq_true_eq] at h; exact h
theorem i64_wf {n : Int} (h : (Lit.int .i64 n).wf = true) : -9223372036854775808 ≤ n ∧ n ≤ 9223372036854775807 := by
  have h : (decide (IntKind.i64.min ≤ n) && decide (n ≤ IntKind.i64.max)) = true := h
  rw [Bool.and_eq_true, decide_eq_true_eq, decide_eq_true_eq] at h; exact h
theorem i32_wf {n : Int} (h : (Lit.int .i32 n).wf = true) : -2147483648 ≤ n ∧ n ≤ 2147483647 := by
  have h : (decide (IntKind.i32.min ≤ n) && decide (n ≤ IntKind.i32.max)) = true := h
  rw [Bool.and_eq_true, decide_eq_true_eq, decide_eq_true_eq] at h; exact h
/-- A row of bytes. -/
theorem u8s_rd {h : Heap} {cs : List Value} {z : Nat} {l : List Int} (H : Rd (.sl (.int .u8) z) h cs l) :
    ∃ v, cs = [v] ∧ SlC 1 h v l.length (l.map (.int .u8)) ∧ (∀ x ∈ l, 0 ≤ x ∧ x ≤ 255) ∧ l.length * z ≤ 140737488351232 :=
  sl1_rd (e := .int .u8) (Value.int .u8) (fun x : Int => 0 ≤ x ∧ x ≤ 255) rfl (fun ds x hr => ⟨hr.1, u8_wf hr.2⟩) H
theorem rem_nat (e : EK) (k : IntKind) (a b : Nat) (h : 0 < b) : binV e .rem (.int k (a : Int)) (.int k (b : Int)) = some (.int k ((a % b : Nat) : Int)) := by
  rw [binV_rem _ _ _ _ (by omega), Int.ofNat_tmod]
theorem quo_nat (e : EK) (k : IntKind) (a b : Nat) (h : 0 < b) : binV e .quo (.int k (a : Int)) (.int k (b : Int)) = some (.int k (k.wrap ((a / b : Nat) : Int))) := by
  rw [binV_quo _ _ _ _ (by omega), Int.ofNat_tdiv]
end Go.Crisp
