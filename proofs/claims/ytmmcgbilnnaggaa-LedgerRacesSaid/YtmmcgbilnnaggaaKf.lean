/- The document's equality; the clock's example. Conditions: none. -/
import Derived.Test.YtmmcgbilnnaggaaKe
set_option linter.unusedVariables false
set_option linter.unusedSimpArgs false
namespace Go.Proofs.Ytmmcgbilnnaggaa
open Go Go.Crisp
attribute [local irreducible] FCall rowK newK stK iteK vK qK drawK gK joinK loopK mkK appK cpyK

theorem c_refEqual {h : Heap} {a b : Value} {la lb : List Int} (ha : Ints h a la) (hb : Ints h b lb) (hn : la.length ≤ 9223372036854775807) :
    FCall Try.prog F_ref19_Equal #[a, b] h fun v h' => v = .bool (decide (la = lb)) ∧ h' = h := by
  apply ok_ref19_Equal
  unfold sh_ref19_Equal
  obtain ⟨A, ca, rfl, hA⟩ := ha
  obtain ⟨B, cb, rfl, hB⟩ := hb
  simp only [lenslV_sl, vK_some, binV_neq]
  refine iteK_split (fun hne => ?_) (fun he => ?_)
  · refine ⟨?_, trivial⟩
    have : ¬ la = lb := fun e => by subst e; simp at hne
    simp [this]
  · have hl : la.length = lb.length := by simp at he; omega
    refine loopK_var (fun d xs h' => h' = h ∧ ∃ k : Nat, k + d = la.length ∧ xs = [.int .i64 k] ∧ ∀ i (hi : i < k) (h1 : i < la.length), la[i] = lb[i]'(hl ▸ h1)) la.length ⟨rfl, 0, by omega, rfl, fun i hi => by omega⟩ ?_
    rintro d _ ρj _ again ⟨rfl, k, hk, rfl, hinv⟩ hag
    simp only [ix_0, binV_lss, vK_some]
    refine iteK_dec (fun hlt => ?_) (fun hge => ?_)
    · have hk1 : k < la.length := by omega
      have hk2 : k < lb.length := by omega
      rcases hA with rfl | ⟨b1, o1, rfl, hA⟩
      · simp at hk1
      rcases hB with rfl | ⟨b2, o2, rfl, hB⟩
      · simp at hk2
      simp only [idxV_nat hk1, idxV_nat hk2, vK_some, ldV_ptr, Nat.mul_one, hA k hk1, hB k hk2, vi, binV_neq]
      refine iteK_split (fun hgt => ?_) (fun hle => ?_)
      · refine ⟨?_, trivial⟩
        congr 1
        rw [eq_comm, decide_eq_false_iff_not]
        intro hall
        have := (eq_list hl).1 hall k hk1
        simp [this] at hgt
      · simp only [binV_add, vK_some]
        rw [w64 (by omega) (by omega)]
        refine hag _ _ (d - 1) (by omega) ⟨rfl, k + 1, by omega, rfl, fun i hi h1 => ?_⟩
        rcases Nat.lt_succ_iff_lt_or_eq.1 hi with hi | rfl
        · exact hinv i hi h1
        · simpa using hle
    · refine ⟨?_, trivial⟩
      congr 1
      rw [eq_comm, decide_eq_true_eq, eq_list hl]
      intro i hi
      exact hinv i (by omega) hi


theorem neq_nil_ptr (a : Addr) : binV .p .neq (.pointer (some a)) (.pointer none) = some (.bool true) := Eq.trans rfl rfl
theorem two_row {h : Heap} {b : Nat} {t : TypeId} {x y : Int} (r : h[b]? = some (.cells #[.int .i64 x, .int .i64 y] t (0, 0))) : Ints h (.slice (some ⟨b, 0, none⟩) 2 2) [x, y] := by
  refine ⟨_, 2, rfl, .inr ⟨b, 0, rfl, fun i hi => ?_⟩⟩
  rw [cell_row r]
  match i, hi with
  | 0, _ | 1, _ => rfl

theorem c_lives19 {h : Heap} : FCall Try.prog F_law19_lives #[] h fun r h' => r = .bool true ∧ Ext h h' := by
  apply ok_law19_lives
  unfold sh_law19_lives
  refine (c_New 2).mono ?_
  rintro v h1 ⟨M, C1, e1, m1⟩
  rw [show newN 2 = 2 from by decide] at C1
  have hp : ∃ a, v = .pointer (some a) := by obtain ⟨bc, _, _, _, rfl, _⟩ := C1; exact ⟨_, rfl⟩
  obtain ⟨a, rfl⟩ := hp
  simp only [go_sem, neq_nil_ptr]
  refine (c_Now C1 0).mono ?_
  rintro r2 h2 ⟨o2, e2, n2⟩
  rw [show nowF 2 (newF 2) 0 = [1, 0] from by decide] at o2
  try simp only [go_sem]
  refine rowK_use (c' := #[.int .i64 1, .int .i64 0]) (by kernel_rfl) fun b3 h3 r3 e3 n3 => ?_
  have e13 : Ext h h3 := (e1.trans e2).trans e3
  refine (c_refEqual (o2.ints.ext e3) (two_row r3) (by simp)).mono ?_
  rintro _ _ ⟨rfl, rfl⟩
  try simp only [go_sem]
  have C3 := (C1.ext e2).ext e3
  refine (c_Tick C3 0).mono ?_
  rintro r4 h4 ⟨o4, C4, f4, n4⟩
  have e14 : Ext h h4 := e13.then_fr f4 m1
  rw [show nowF 2 (newF 2) 0 = [1, 0] from by decide] at o4
  try simp only [go_sem]
  refine rowK_use (c' := #[.int .i64 1, .int .i64 0]) (by kernel_rfl) fun b5 h5 r5 e5 n5 => ?_
  have e15 : Ext h h5 := e14.trans e5
  refine (c_refEqual (o4.ints.ext e5) (two_row r5) (by simp)).mono ?_
  rintro _ _ ⟨rfl, rfl⟩
  try simp only [go_sem]
  refine rowK_use (c' := #[.int .i64 1, .int .i64 0]) (by kernel_rfl) fun b6 h6 r6 e6 n6 => ?_
  have e16 : Ext h h6 := e15.trans e6
  have C6 := (C4.ext e5).ext e6
  refine (c_Meet C6 1 (two_row r6) (by simp)).mono ?_
  rintro _ h7 ⟨rfl, M7, C7, f7, n7⟩
  have e17 : Ext h h7 := e16.then_fr f7 m1
  rw [show mayF 2 1 [1, 0] = true from by decide]
  try simp only [go_sem]
  refine (c_Now C7 1).mono ?_
  rintro r8 h8 ⟨o8, e8, n8⟩
  rw [show nowF 2 (meetF 2 (tickF 2 (newF 2) 0) 1 [1, 0]) 1 = [1, 1] from by decide] at o8
  try simp only [go_sem]
  refine rowK_use (c' := #[.int .i64 1, .int .i64 1]) (by kernel_rfl) fun b9 h9 r9 e9 n9 => ?_
  have e19 : Ext h h9 := (e17.trans e8).trans e9
  refine (c_refEqual (o8.ints.ext e9) (two_row r9) (by simp)).mono ?_
  rintro _ _ ⟨rfl, rfl⟩
  try simp only [go_sem]
  exact ⟨trivial, e19⟩
end Go.Proofs.Ytmmcgbilnnaggaa
