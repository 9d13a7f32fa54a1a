/- ClockStamps, the law. Conditions: none. -/
import Derived.Test.YtmmcgbilnnaggaaKh
set_option linter.unusedVariables false
set_option linter.unusedSimpArgs false
namespace Go.Proofs.Ytmmcgbilnnaggaa
open Go Go.Crisp
attribute [local irreducible] FCall rowK newK stK iteK vK qK drawK gK joinK loopK mkK appK cpyK

theorem gV_undef (w : Bool) (r : Option Value) : gV undef w r = some undef := Eq.trans rfl rfl

theorem belowL_self (a : List Int) : belowL a a = true := by
  rw [belowL_iff rfl]
  exact fun i hi => Int.le_refl _
theorem belowL_antisymm {a b : List Int} (h1 : belowL a b = true) (h2 : belowL b a = true) : a = b := by
  have hl : a.length = b.length := by
    unfold belowL at h1
    simp only [Bool.and_eq_true, decide_eq_true_eq] at h1
    exact h1.1
  rw [belowL_iff hl] at h1
  rw [belowL_iff hl.symm] at h2
  apply List.ext_getElem hl
  intro i h3 h4
  exact Int.le_antisymm (h1 i h3) (h2 i h4)

theorem c_refApart {h : Heap} {v u : Value} {a b : List Int} (ha : Ints h v a) (hb : Ints h u b) (la : a.length ≤ 9223372036854775807) (lb : b.length ≤ 9223372036854775807) :
    FCall Try.prog F_ref19_Apart #[v, u] h fun r h' => r = .bool (apartL a b) ∧ h' = h := by
  apply ok_ref19_Apart
  unfold sh_ref19_Apart
  have ha0 := ha
  have hb0 := hb
  obtain ⟨aa, ac, rfl, _⟩ := ha
  obtain ⟨ba, bc, rfl, _⟩ := hb
  by_cases hl : a.length = b.length
  · have hl' : (a.length : Int) = (b.length : Int) := by omega
    simp only [go_sem, hl']
    refine (c_refEqual ha0 hb0 la).mono ?_
    rintro _ h1 ⟨rfl, hx⟩
    subst hx
    by_cases hab : a = b
    · simp only [go_sem, hab]
      exact ⟨by simp [apartL, belowL_self], trivial⟩
    · simp only [go_sem, hab]
      refine (c_refAhead ha0 hb0 la).mono ?_
      rintro _ h2 ⟨rfl, hx⟩
      subst hx
      cases h1 : belowL a b with
      | true =>
        simp only [aheadL, h1, hab, go_sem]
        exact ⟨by simp [apartL, h1], trivial⟩
      | false =>
        simp only [aheadL, h1, hab, go_sem]
        refine (c_refAhead hb0 ha0 lb).mono ?_
        rintro _ h2 ⟨rfl, hx⟩
        subst hx
        simp only [go_sem]
        refine ⟨?_, trivial⟩
        have hba : ¬ b = a := fun h => hab h.symm
        simp [apartL, h1, hl, aheadL, hba]
  · have hl' : ¬ (a.length : Int) = (b.length : Int) := by omega
    simp only [go_sem, hl']
    exact ⟨by simp [apartL, hl], trivial⟩

def fourL (a b : List Int) : List Bool := [aheadL a b, aheadL b a, apartL a b, decide (a = b)]
theorem four_count (a b : List Int) : (fourL a b).count true = if a.length = b.length then 1 else 0 := by
  by_cases hl : a.length = b.length
  · rw [if_pos hl]
    by_cases hab : a = b
    · subst hab; simp [fourL, aheadL, apartL, belowL_self]
    · have hba : ¬ b = a := fun h => hab h.symm
      cases h1 : belowL a b <;> cases h2 : belowL b a
      · simp [fourL, aheadL, apartL, h1, h2, hl, hab]
      · simp [fourL, aheadL, apartL, h1, h2, hab, hba]
      · simp [fourL, aheadL, apartL, h1, h2, hab]
      · exact absurd (belowL_antisymm h1 h2) hab
  · rw [if_neg hl]
    have hab : ¬ a = b := fun h => hl (by rw [h])
    have h1 : belowL a b = false := by simp [belowL, hl]
    have hl2 : ¬ b.length = a.length := fun h => hl h.symm
    have h2 : belowL b a = false := by simp [belowL, hl2]
    simp [fourL, aheadL, apartL, h1, h2, hl, hab]

theorem c_ClockStamps {h : Heap} {v u : Value} {a b : List Int} (ha : Ints h v a) (hb : Ints h u b) :
    FCall Try.prog F_law19_ClockStamps #[v, u] h fun r h' => r = .bool true ∧ Ext h h' := by
  apply ok_law19_ClockStamps
  unfold sh_law19_ClockStamps
  have ha0 := ha
  have hb0 := hb
  obtain ⟨aa, ac, rfl, _⟩ := ha
  obtain ⟨ba, bc, rfl, _⟩ := hb
  refine c_lives19.mono ?_
  rintro _ h1 ⟨rfl, e1⟩
  by_cases hl : a.length ≤ 30 ∧ b.length ≤ 30
  · have h1' : ¬ (30 : Int) < a.length := by omega
    have h2' : ¬ (30 : Int) < b.length := by omega
    simp only [go_sem, h1', h2']
    have A := ha0.ext e1
    have B := hb0.ext e1
    refine (c_Ahead A B (by omega)).mono ?_
    rintro _ h2 ⟨rfl, hx⟩; subst hx
    refine (c_Ahead B A (by omega)).mono ?_
    rintro _ h3 ⟨rfl, hx⟩; subst hx
    refine (c_refAhead A B (by omega)).mono ?_
    rintro _ h4 ⟨rfl, hx⟩; subst hx
    simp only [go_sem, beq_self_eq_true]
    refine (c_refAhead B A (by omega)).mono ?_
    rintro _ h5 ⟨rfl, hx⟩; subst hx
    simp only [go_sem, beq_self_eq_true]
    refine (c_Apart A B (by omega) (by omega)).mono ?_
    rintro _ h6 ⟨rfl, hx⟩; subst hx
    try simp only [go_sem, beq_self_eq_true]
    refine (c_refApart A B (by omega) (by omega)).mono ?_
    rintro _ h7 ⟨rfl, hx⟩; subst hx
    simp only [go_sem, beq_self_eq_true]
    refine (c_Equal A B (by omega)).mono ?_
    rintro _ h8 ⟨rfl, hx⟩; subst hx
    try simp only [go_sem, beq_self_eq_true]
    refine (c_refEqual A B (by omega)).mono ?_
    rintro _ h9 ⟨rfl, hx⟩; subst hx
    simp only [go_sem, beq_self_eq_true]
    refine (c_Join A B (by omega) (by omega)).mono ?_
    rintro r10 h10 ⟨o10, e10, n10⟩
    try simp only [go_sem]
    refine (c_refJoin (A.ext e10) (B.ext e10) (by omega) (by omega)).mono ?_
    rintro r11 h11 ⟨o11, e11, n11⟩
    try simp only [go_sem]
    refine (c_refEqual (o10.ints.ext e11) o11.ints (by rw [joinL_length]; omega)).mono ?_
    rintro _ h12 ⟨rfl, hx⟩; subst hx
    simp only [go_sem]
    have A := (A.ext e10).ext e11
    have B := (B.ext e10).ext e11
    have e12 := (e1.trans e10).trans e11
    refine (c_Apart A B (by omega) (by omega)).mono ?_
    rintro _ h13 ⟨rfl, hx⟩; subst hx
    refine (c_Equal A B (by omega)).mono ?_
    rintro _ h14 ⟨rfl, hx⟩; subst hx
    refine rowK_use (c' := #[.bool (aheadL a b), .bool (aheadL b a), .bool (apartL a b), .bool (decide (a = b))]) (by kernel_rfl) fun b15 h15 r15 e15 n15 => ?_
    have e15' := e12.trans e15
    have S : SlC 1 h15 (.slice (some ⟨b15, 0, none⟩) 4 4) 4 ((fourL a b).map .bool) := ⟨rfl, _, 4, rfl, .inr ⟨b15, 0, rfl, fun j hj => by
      rw [cell_row r15]
      match j, hj with
      | 0, _ | 1, _ | 2, _ | 3, _ => rfl⟩⟩
    simp only [go_sem]
    refine loopK_var (fun d xs h' => h' = h15 ∧ ∃ k : Nat, k ≤ 4 ∧ d = 4 - k ∧ xs = [.int .i64 (((fourL a b).take k).count true : Nat), .int .i64 (k : Int)]) 4 ⟨rfl, 0, by omega, rfl, rfl⟩ ?_
    rintro d _ ρj h16 again ⟨hx, k, hk, rfl, rfl⟩ hag
    subst hx
    simp only [go_sem]
    have hcle : ((fourL a b).take k).count true ≤ 4 := Nat.le_trans List.count_le_length (by simp [fourL]; omega)
    refine iteK_dec (fun hlt => ?_) (fun hge => ?_)
    · have hk4 : k < 4 := by omega
      obtain ⟨p, hp, hq⟩ := S.at1 (k := .i64) hk4
      have hkl : k < (fourL a b).length := hk4
      rw [List.getElem_map] at hq
      have htk : (fourL a b).take (k + 1) = (fourL a b).take k ++ [(fourL a b)[k]] := List.take_succ_eq_append_getElem hkl
      simp only [go_sem, hp, hq]
      refine iteK_split (fun ht => ?_) (fun hf => ?_)
      · rw [w64 (by omega) (by omega), w64 (by omega) (by omega)]
        refine hag _ _ (4 - (k + 1)) (by omega) ⟨rfl, k + 1, hk4, rfl, ?_⟩
        rw [htk, ht]
        simp
      · rw [w64 (by omega) (by omega)]
        refine hag _ _ (4 - (k + 1)) (by omega) ⟨rfl, k + 1, hk4, rfl, ?_⟩
        rw [htk, hf]
        simp
    · obtain rfl : k = 4 := by omega
      have hc4 : ((fourL a b).take 4).count true = if a.length = b.length then 1 else 0 := four_count a b
      rw [hc4]
      by_cases hab : a.length = b.length
      · have hab' : (a.length : Int) = (b.length : Int) := by omega
        simp only [go_sem, hab, if_true, hab', Int.natCast_one, Int.natCast_zero]
        exact ⟨trivial, e15'⟩
      · have hab' : ¬ (a.length : Int) = (b.length : Int) := by omega
        have z : ((0 : Nat) : Int) = 0 := rfl
        simp only [go_sem, hab, if_false, hab', z, gV_undef]
        exact ⟨trivial, e15'⟩
  · have hfin : FCall Try.prog F_law19_lives #[] h1 fun v12 h13 => v12 = .bool true ∧ Ext h h13 :=
      c_lives19.mono fun _ _ ⟨hr, e⟩ => ⟨hr, e1.trans e⟩
    by_cases hal : (30 : Int) < a.length
    · simp only [go_sem, hal]
      exact hfin
    · have hbl : (30 : Int) < b.length := by omega
      simp only [go_sem, hal, hbl]
      exact hfin

theorem r_ClockStamps (h : Heap) (args : Array Value) (H : ArgsRd [.sl (.int .i64) 8, .sl (.int .i64) 8] h args.toList) : FCall Try.prog F_law19_ClockStamps args h fun r h' => r = .bool true ∧ Ext h h' := by
  obtain ⟨v, r, hr, ⟨x, hx⟩, u, r', hr', ⟨y, hy⟩, h0⟩ := H
  have h0 : r' = [] := h0
  subst h0 hr'
  obtain rfl : args = #[v, u] := by cases args; simp_all
  obtain ⟨_, h1, h2⟩ := ints_rd hx
  obtain ⟨_, h3, h4⟩ := ints_rd hy
  cases h1
  cases h3
  exact c_ClockStamps h2 h4
end Go.Proofs.Ytmmcgbilnnaggaa
