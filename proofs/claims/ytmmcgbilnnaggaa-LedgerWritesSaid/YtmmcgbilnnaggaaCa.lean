/- What stamps and accesses are compared by (clock, ledger, and the document's own). Conditions: none. -/
import Derived.Test.YtmmcgbilnnaggaaEc
import Derived.Test.YtmmcgbilnnaggaaSh0
import Derived.Test.YtmmcgbilnnaggaaSh1
import Derived.Test.YtmmcgbilnnaggaaSh2
set_option linter.unusedVariables false
set_option linter.unusedSimpArgs false
namespace Go.Proofs.Ytmmcgbilnnaggaa
open Go Go.Crisp

def vi (x : Int) : Value := .int .i64 x

/-- A slice of numbers, as it reads. -/
def Ints (h : Heap) (v : Value) (l : List Int) : Prop :=
  ∃ a cap, v = .slice a l.length cap ∧ (l = [] ∨ ∃ b o, a = some ⟨b, o, none⟩ ∧ ∀ i (hi : i < l.length), cellOf h ⟨b, o + i, none⟩ = some (vi l[i]))

theorem Ints.ext {h h' : Heap} {v : Value} {l : List Int} (H : Ints h v l) (e : Ext h h') : Ints h' v l := by
  obtain ⟨a, cap, rfl, hl⟩ := H
  refine ⟨a, cap, rfl, hl.imp id ?_⟩
  rintro ⟨b, o, rfl, hc⟩
  exact ⟨b, o, rfl, fun i hi => e.cell (hc i hi)⟩

/-- None of the first k numbers is above the other's. -/
def belowL (a b : List Int) : Bool := decide (a.length = b.length) && (a.zip b).all fun p => decide (p.1 ≤ p.2)

theorem belowL_iff {a b : List Int} (h : a.length = b.length) : belowL a b = true ↔ ∀ i (hi : i < a.length), a[i] ≤ b[i]'(h ▸ hi) := by
  simp only [belowL, h, decide_true, Bool.true_and, List.all_eq_true, decide_eq_true_eq]
  constructor
  · intro H i hi
    have := H (a[i], b[i]'(h ▸ hi)) (by rw [List.mem_iff_getElem]; exact ⟨i, by simp; omega, by simp⟩)
    exact this
  · intro H p hp
    obtain ⟨i, hi, rfl⟩ := List.mem_iff_getElem.1 hp
    simp only [List.length_zip] at hi
    simpa using H i (by omega)

theorem c_below {h : Heap} {a b : Value} {la lb : List Int} (ha : Ints h a la) (hb : Ints h b lb) (hn : la.length ≤ 9223372036854775807) :
    FCall Try.prog F_clock_below #[a, b] h fun v h' => v = .bool (belowL la lb) ∧ h' = h := by
  apply ok_clock_below
  unfold sh_clock_below
  obtain ⟨A, ca, rfl, hA⟩ := ha
  obtain ⟨B, cb, rfl, hB⟩ := hb
  simp only [lenslV_sl, vK_some, binV_neq]
  refine iteK_split (fun hne => ?_) (fun he => ?_)
  · refine ⟨?_, trivial⟩
    have : ¬ la.length = lb.length := by simp at hne; omega
    simp [belowL, this]
  · have hl : la.length = lb.length := by simp at he; omega
    refine loopK_var (fun d xs h' => h' = h ∧ ∃ k : Nat, k + d = la.length ∧ xs = [.int .i64 k] ∧ ∀ i (hi : i < k) (h1 : i < la.length), la[i] ≤ lb[i]'(hl ▸ h1)) la.length ⟨rfl, 0, by omega, rfl, fun i hi => by omega⟩ ?_
    rintro d _ ρj _ again ⟨rfl, k, hk, rfl, hinv⟩ hag
    simp only [ix_0, binV_lss, vK_some]
    refine iteK_dec (fun hlt => ?_) (fun hge => ?_)
    · have hk1 : k < la.length := by omega
      have hk2 : k < lb.length := by omega
      rcases hA with rfl | ⟨b1, o1, rfl, hA⟩
      · simp at hk1
      rcases hB with rfl | ⟨b2, o2, rfl, hB⟩
      · simp at hk2
      simp only [idxV_nat hk1, idxV_nat hk2, vK_some, ldV_ptr, Nat.mul_one, hA k hk1, hB k hk2, vi, binV_gtr]
      refine iteK_dec (fun hgt => ?_) (fun hle => ?_)
      · refine ⟨?_, trivial⟩
        congr 1
        rw [eq_comm, Bool.eq_false_iff]
        intro hall
        have := (belowL_iff hl).1 hall k hk1
        omega
      · simp only [binV_add, vK_some]
        rw [w64 (by omega) (by omega)]
        refine hag _ _ (d - 1) (by omega) ⟨rfl, k + 1, by omega, rfl, fun i hi h1 => ?_⟩
        rcases Nat.lt_succ_iff_lt_or_eq.1 hi with hi | rfl
        · exact hinv i hi h1
        · omega
    · refine ⟨?_, trivial⟩
      congr 1
      rw [eq_comm, belowL_iff hl]
      intro i hi
      exact hinv i (by omega) hi

theorem eq_list {a b : List Int} (h : a.length = b.length) : a = b ↔ ∀ i (hi : i < a.length), a[i] = b[i]'(h ▸ hi) :=
  ⟨fun e i hi => by subst e; rfl, fun H => List.ext_getElem h fun i h1 h2 => H i h1⟩

theorem c_slEqual {h : Heap} {a b : Value} {la lb : List Int} (ha : Ints h a la) (hb : Ints h b lb) (hn : la.length ≤ 9223372036854775807) :
    FCall Try.prog F_slices_Equal_clock_Stamp_int #[a, b] h fun v h' => v = .bool (decide (la = lb)) ∧ h' = h := by
  apply ok_slices_Equal_clock_Stamp_int
  unfold sh_slices_Equal_clock_Stamp_int
  obtain ⟨A, ca, rfl, hA⟩ := ha
  obtain ⟨B, cb, rfl, hB⟩ := hb
  simp only [lenslV_sl, vK_some, binV_neq]
  refine iteK_split (fun hne => ?_) (fun he => ?_)
  · refine ⟨?_, trivial⟩
    have : ¬ la = lb := fun e => by subst e; simp at hne
    simp [this]
  · have hl : la.length = lb.length := by simp at he; omega
    refine loopK_var (fun d xs h' => h' = h ∧ ∃ k : Nat, k + d = la.length ∧ xs = [.int .i64 k] ∧ ∀ i (hi : i < k) (h1 : i < la.length), la[i] = lb[i]'(hl ▸ h1)) la.length ⟨rfl, 0, by omega, rfl, fun i hi => by omega⟩ ?_
    rintro d _ ρj _ again ⟨rfl, k, hk, rfl, hinv⟩ hag
    simp only [ix_0, binV_lss, vK_some]
    refine iteK_dec (fun hlt => ?_) (fun hge => ?_)
    · have hk1 : k < la.length := by omega
      have hk2 : k < lb.length := by omega
      rcases hA with rfl | ⟨b1, o1, rfl, hA⟩
      · simp at hk1
      rcases hB with rfl | ⟨b2, o2, rfl, hB⟩
      · simp at hk2
      simp only [idxV_nat hk1, idxV_nat hk2, vK_some, ldV_ptr, Nat.mul_one, hA k hk1, hB k hk2, vi, binV_neq]
      refine iteK_split (fun hgt => ?_) (fun hle => ?_)
      · refine ⟨?_, trivial⟩
        congr 1
        rw [eq_comm, decide_eq_false_iff_not]
        intro hall
        have := (eq_list hl).1 hall k hk1
        simp [this] at hgt
      · simp only [binV_add, vK_some]
        rw [w64 (by omega) (by omega)]
        refine hag _ _ (d - 1) (by omega) ⟨rfl, k + 1, by omega, rfl, fun i hi h1 => ?_⟩
        rcases Nat.lt_succ_iff_lt_or_eq.1 hi with hi | rfl
        · exact hinv i hi h1
        · simpa using hle
    · refine ⟨?_, trivial⟩
      congr 1
      rw [eq_comm, decide_eq_true_eq, eq_list hl]
      intro i hi
      exact hinv i (by omega) hi

theorem c_Equal {h : Heap} {a b : Value} {la lb : List Int} (ha : Ints h a la) (hb : Ints h b lb) (hn : la.length ≤ 9223372036854775807) :
    FCall Try.prog F_clock_Equal #[a, b] h fun v h' => v = .bool (decide (la = lb)) ∧ h' = h := by
  apply ok_clock_Equal
  unfold sh_clock_Equal
  refine (c_slEqual ha hb hn).mono ?_
  rintro _ _ ⟨rfl, rfl⟩
  exact ⟨rfl, rfl⟩

def aheadL (a b : List Int) : Bool := belowL a b && !decide (a = b)

theorem c_Ahead {h : Heap} {a b : Value} {la lb : List Int} (ha : Ints h a la) (hb : Ints h b lb) (hn : la.length ≤ 9223372036854775807) :
    FCall Try.prog F_clock_Ahead #[a, b] h fun v h' => v = .bool (aheadL la lb) ∧ h' = h := by
  apply ok_clock_Ahead
  unfold sh_clock_Ahead
  refine (c_below ha hb hn).mono ?_
  rintro _ _ ⟨rfl, rfl⟩
  cases hbl : belowL la lb with
  | false => simp only [go_sem]; exact ⟨by simp [aheadL, hbl], trivial⟩
  | true =>
    simp only [go_sem]
    refine (c_Equal ha hb hn).mono ?_
    rintro _ _ ⟨rfl, rfl⟩
    simp only [go_sem]
    exact ⟨by simp [aheadL, hbl], trivial⟩

/-! ### the document's -/
theorem belowL_self_eq {a b : List Int} : aheadL a b = true ↔ belowL a b = true ∧ a ≠ b := by simp [aheadL]

theorem c_refAhead {h : Heap} {a b : Value} {la lb : List Int} (ha : Ints h a la) (hb : Ints h b lb) (hn : la.length ≤ 9223372036854775807) :
    FCall Try.prog F_ref19_Ahead #[a, b] h fun v h' => v = .bool (aheadL la lb) ∧ h' = h := by
  apply ok_ref19_Ahead
  unfold sh_ref19_Ahead
  obtain ⟨A, ca, rfl, hA⟩ := ha
  obtain ⟨B, cb, rfl, hB⟩ := hb
  simp only [go_sem]
  refine iteK_split (fun hne => ?_) (fun he => ?_)
  · refine ⟨?_, trivial⟩
    have : ¬ la.length = lb.length := by simp at hne; omega
    simp [aheadL, belowL, this]
  · have hl : la.length = lb.length := by simp at he; omega
    refine loopK_var (fun d xs h' => h' = h ∧ ∃ (k : Nat) (s : Bool), k + d = la.length ∧ xs = [.bool s, .int .i64 k] ∧ (∀ i (hi : i < k) (h1 : i < la.length), la[i] ≤ lb[i]'(hl ▸ h1)) ∧ (s = true ↔ ∃ i, ∃ (hi : i < k) (h1 : i < la.length), la[i] ≠ lb[i]'(hl ▸ h1))) la.length
      ⟨rfl, 0, false, by omega, rfl, fun i hi => by omega, by simp⟩ ?_
    rintro d _ ρj _ again ⟨rfl, k, s, hk, rfl, hinv, hs⟩ hag
    simp only [go_sem]
    refine iteK_dec (fun hlt => ?_) (fun hge => ?_)
    · have hk1 : k < la.length := by omega
      have hk2 : k < lb.length := by omega
      rcases hA with rfl | ⟨b1, o1, rfl, hA⟩
      · simp at hk1
      rcases hB with rfl | ⟨b2, o2, rfl, hB⟩
      · simp at hk2
      simp only [go_sem, idxV_nat hk1, idxV_nat hk2, Nat.mul_one, hA k hk1, hB k hk2, vi]
      have hnext : ∀ i, i < k + 1 → i < k ∨ i = k := fun i hi => by omega
      refine iteK_dec (fun hgt => ?_) (fun hle => ?_)
      · refine ⟨?_, trivial⟩
        congr 1
        rw [eq_comm, Bool.eq_false_iff]
        intro hall
        have := (belowL_iff hl).1 (belowL_self_eq.1 hall).1 k hk1
        omega
      · rw [w64 (by omega) (by omega)]
        refine iteK_dec (fun hlt' => ?_) (fun hge' => ?_)
        · refine hag _ _ (d - 1) (by omega) ⟨rfl, k + 1, true, by omega, rfl, fun i hi h1 => ?_, ?_⟩
          · rcases hnext i hi with hi | rfl
            · exact hinv i hi h1
            · omega
          · simp only [true_iff]
            exact ⟨k, by omega, hk1, by omega⟩
        · refine hag _ _ (d - 1) (by omega) ⟨rfl, k + 1, s, by omega, rfl, fun i hi h1 => ?_, ?_⟩
          · rcases hnext i hi with hi | rfl
            · exact hinv i hi h1
            · omega
          · rw [hs]
            constructor
            · rintro ⟨i, hi, h1, h2⟩; exact ⟨i, by omega, h1, h2⟩
            · rintro ⟨i, hi, h1, h2⟩
              rcases hnext i hi with hi | rfl
              · exact ⟨i, hi, h1, h2⟩
              · exact absurd (by omega) h2
    · refine ⟨?_, trivial⟩
      congr 1
      rw [Bool.eq_iff_iff, hs, belowL_self_eq, belowL_iff hl, Ne, eq_list hl]
      constructor
      · rintro ⟨i, hi, h1, h2⟩
        exact ⟨fun i hi => hinv i (by omega) hi, fun hall => h2 (hall i h1)⟩
      · rintro ⟨_, h2⟩
        have : ∃ i, ∃ h1 : i < la.length, la[i] ≠ lb[i]'(hl ▸ h1) := by
          apply Classical.byContradiction
          intro hno
          exact h2 fun i hi => Classical.byContradiction fun hne => hno ⟨i, hi, hne⟩
        obtain ⟨i, h1, h3⟩ := this
        exact ⟨i, by omega, h1, h3⟩
end Go.Proofs.Ytmmcgbilnnaggaa
