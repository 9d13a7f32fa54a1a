/- The exponential function and the sine, in integers (expo, sinc), and what is left of fixed: the program's. Conditions: none. -/
import Derived.Test.YtefdokfnnokagaaGreatDoorUd
set_option linter.unusedVariables false
set_option linter.unusedSimpArgs false
set_option maxRecDepth 10000
namespace Go.Proofs.YtefdokfnnokagaaGreatDoor
open Go Go.Crisp
attribute [local irreducible] FCall rowK newK stK iteK vK qK drawK gK joinK loopK mkK appK cpyK nextStrK rangeStrK bsK

theorem shl_i64 {a : Int} {n : Nat} (k' : IntKind) (hn : n ≤ 64) : binV .i .shl (.int .i64 a) (.int k' (n : Int)) = some (.int .i64 (IntKind.i64.wrap (a * 2 ^ n))) := by
  show (if (n : Int) < 0 then none else some (Value.int .i64 (IntKind.i64.wrap (a * (2 ^ (min (n : Int).toNat 64)))))) = _
  rw [if_neg (by omega), Int.toNat_natCast, Nat.min_eq_left hn]
theorem shl_40 {a : Int} (k' : IntKind) : binV .i .shl (.int .i64 a) (.int k' 40) = some (.int .i64 (IntKind.i64.wrap (a * 1099511627776))) := shl_i64 (n := 40) k' (by omega)
theorem shl_31 {a : Int} (k' : IntKind) : binV .i .shl (.int .i64 a) (.int k' 31) = some (.int .i64 (IntKind.i64.wrap (a * 2147483648))) := shl_i64 (n := 31) k' (by omega)
theorem c_Mod {h : Heap} {a b : Int} (ha : I64 a) (hb : I64 b) (h0 : 0 < b) : FCall Tryz.prog F_fixed_Mod #[.int .i64 a, .int .i64 b] h fun r h' => r = .int .i64 (a % b) ∧ h' = h := by
  apply ok_fixed_Mod
  unfold sh_fixed_Mod
  have q1 : (b = 0) = False := eq_false (by omega)
  have q2 : (b = -1) = False := eq_false (by omega)
  have q3 : (b < 0) = False := eq_false (by omega)
  simp only [go_sem, q1, q2]
  rw [binV_rem _ _ _ _ (by omega), vK_some]
  simp only [go_sem, q3]
  have e := @Int.emod_eq_tmod a b
  have hl := Int.emod_nonneg a (show b ≠ 0 by omega)
  have hl2 := Int.emod_lt_of_pos a h0
  unfold I64 at ha hb
  by_cases hc : a.tmod b = 0
  · simp only [go_sem, hc]
    refine ⟨?_, trivial⟩
    rw [hc] at e
    split at e
    · rw [e]; rfl
    · rename_i hn
      exact absurd (Or.inr (Int.dvd_of_tmod_eq_zero hc)) hn
  · simp only [go_sem, hc]
    by_cases hs : a.tmod b < 0
    · simp only [go_sem, hs]
      split at e
      · omega
      · rw [w64 (by omega) (by omega)]
        refine ⟨?_, trivial⟩
        congr 1; omega
    · simp only [go_sem, hs]
      refine ⟨?_, trivial⟩
      congr 1
      split at e <;> omega
theorem c_fixedAdd {h : Heap} {a b : Int} (ha : I64 a) (hb : I64 b) : FCall Tryz.prog F_fixed_Add #[.int .i64 a, .int .i64 b] h fun r h' => r = .int .i64 (addZ a b) ∧ h' = h := by
  apply ok_fixed_Add
  unfold sh_fixed_Add
  simp only [go_sem, wrap64]
  unfold addZ I64 at *
  refine iteK_dec (fun h0 => ?_) (fun h0 => ?_)
  · exact ⟨by congr 1; omega, trivial⟩
  refine iteK_dec (fun h1 => ?_) (fun h1 => ?_)
  · exact ⟨by congr 1; omega, trivial⟩
  · exact ⟨by congr 1; omega, trivial⟩
theorem c_fixedMul {h : Heap} {a b : Int} (ha : I64 a) (hb : I64 b) : FCall Tryz.prog F_fixed_Mul #[.int .i64 a, .int .i64 b] h fun r h' => r = .int .i64 (mulZ a b) ∧ h' = h := by
  apply ok_fixed_Mul
  unfold sh_fixed_Mul
  refine (c_fixedSize ha).mono fun v1 h1 ⟨e1, w1⟩ => ?_
  subst e1 w1
  refine (c_fixedSize hb).mono fun v2 h2 ⟨e2, w2⟩ => ?_
  subst e2 w2
  refine (c_Mul64 (natAbs_lt ha) (natAbs_lt hb)).mono fun v3 h3 ⟨e3, w3⟩ => ?_
  subst e3 w3
  simp only [go_sem]
  unfold mulZ
  have hm := prod_lt ha hb
  generalize a.natAbs * b.natAbs = m at *
  refine iteK_dec (fun h0 => ?_) (fun h0 => ?_)
  · refine (c_fixedHold (m := 18446744073709551615) (b := diffS a b) (by omega)).mono fun v h' ⟨e, w⟩ => ⟨?_, w⟩
    rw [e, holdZ_sat (n := m) (by omega) (by omega)]
  · rw [show m % 18446744073709551616 = m by omega]
    exact c_fixedHold (by omega)
theorem c_Exp {h : Heap} {t : Int} (ht : I64 t) : FCall Tryz.prog F_expo_Exp #[.int .i64 t] h fun r h' => r = .int .i64 (expZ t) ∧ h' = h := by
  apply ok_expo_Exp
  unfold sh_expo_Exp
  simp only [go_sem]
  unfold expZ
  have ht1 : 0 ≤ max 0 t ∧ max 0 t ≤ 9223372036854775807 := by unfold I64 at ht; omega
  generalize max 0 t = T at *
  rw [binV_quo _ _ _ _ (by omega), vK_some, binV_rem _ _ _ _ (by omega), vK_some, Int.tdiv_eq_ediv_of_nonneg ht1.1, Int.tmod_eq_emod_of_nonneg ht1.1, w64 (by omega) (by omega)]
  have hr : 0 ≤ T % 762123384786 ∧ T % 762123384786 < 762123384786 := by omega
  generalize hrr : T % 762123384786 = r at *
  refine loop_st (fun i => [.int .i64 (expStep r i).1, .int .i64 (expStep r i).2, .int .i64 (i : Int)]) 16 0 rfl (by omega) fun i again ρj _ hi H => ?_
  simp only [go_sem]
  obtain ⟨s1, s2⟩ := expStep_I64 r i
  refine iteK_dec (fun h0 => ?_) (fun h0 => ?_)
  · have H := H (by omega)
    simp only [expStep] at H
    rw [w64 (n := (i : Int) + 1) (by omega) (by omega), shl_40, vK_some, w64 (by omega) (by omega)]
    refine (c_MulDiv s2 (by unfold I64; omega) (by unfold I64; omega)).mono fun v1 h1 ⟨e1, w1⟩ => ?_
    subst e1 w1
    rw [binV_rem _ _ _ _ (by omega), vK_some, Int.tmod_eq_emod_of_nonneg (by omega)]
    simp only [go_sem]
    refine iteK_dec (fun h2 => ?_) (fun h2 => ?_)
    · rw [if_pos (by omega)] at H
      rw [show ((i + 1 : Nat) : Int) = (i : Int) + 1 by omega] at H
      exact H
    · rw [if_neg (by omega)] at H
      rw [show ((i + 1 : Nat) : Int) = (i : Int) + 1 by omega] at H
      exact H
  · have : i = 16 := by omega
    subst this
    exact c_Shift s1 (by unfold I64; omega)
theorem c_Ratio {h : Heap} {d s : Int} (hd : I64 d) (hs : I64 s) : FCall Tryz.prog F_expo_Ratio #[.int .i64 d, .int .i64 s] h fun r h' => r = .int .i64 (ratioZ d s) ∧ h' = h := by
  apply ok_expo_Ratio
  unfold sh_expo_Ratio
  simp only [go_sem]
  unfold ratioZ
  refine iteK_dec (fun h0 => ?_) (fun h0 => ?_)
  · rw [if_pos (by omega)]; exact ⟨rfl, trivial⟩
  · rw [if_neg (by omega), shl_31, vK_some]
    have h1 := sq_le (d := d) (B := 16384) (by omega) (by omega)
    have h2 := sq_le (d := s) (B := 4194304) (by omega) (by omega)
    rw [w64 (n := d * d) (by omega) (by omega), w64 (n := d * d * 2147483648) (by omega) (by omega), w64 (n := s * s) (by omega) (by omega)]
    exact c_MulDiv (by unfold I64; omega) (by unfold I64; omega) (by unfold I64; omega)
theorem c_Gauss {h : Heap} {d s : Int} (hd : I64 d) (hs : I64 s) : FCall Tryz.prog F_expo_Gauss #[.int .i64 d, .int .i64 s] h fun r h' => r = .int .i64 (gaussZ d s) ∧ h' = h := by
  apply ok_expo_Gauss
  unfold sh_expo_Gauss
  refine (c_Ratio hd hs).mono fun v1 h1 ⟨e1, w1⟩ => ?_
  subst e1 w1
  refine (c_Exp (ratioZ_I64 _ _)).mono fun v1 h1 ⟨e1, w1⟩ => ?_
  subst e1 w1
  exact c_Shift (expZ_I64 _) (by unfold I64; omega)

/-! ### the sine -/
theorem c_sincSize {h : Heap} {p : Int} (hp : I64 p) (h0 : p ≠ -9223372036854775808) : FCall Tryz.prog F_sinc_size #[.int .i64 p] h fun r h' => r = .int .i64 (max p (-p)) ∧ h' = h := by
  apply ok_sinc_size
  unfold sh_sinc_size
  unfold I64 at hp
  simp only [go_sem]
  rw [w64 (by omega) (by omega)]
  exact ⟨by rw [Int.zero_sub], trivial⟩
theorem c_May {h : Heap} {p q : Int} (hp : I64 p) (hq : I64 q) : FCall Tryz.prog F_sinc_May #[.int .i64 p, .int .i64 q] h fun r h' => r = .bool (decide (mayZ p q)) ∧ h' = h := by
  apply ok_sinc_May
  unfold sh_sinc_May
  simp only [go_sem]
  refine ⟨?_, trivial⟩
  congr 1
  rw [decide_eq_decide]
  unfold mayZ I64 at *
  by_cases h1 : 1 ≤ q ∧ q ≤ 1048576
  · rw [w64 (n := -4 * q) (by omega) (by omega), w64 (n := 4 * q) (by omega) (by omega)]
    omega
  · omega
theorem twice_sq (x : Int) : 2 * x * (2 * x + 1) = 4 * (x * x) + 2 * x := by
  have e : 2 * x * (2 * x) = 4 * (x * x) := by rw [Int.mul_assoc 2 x (2 * x), Int.mul_left_comm x 2 x]; omega
  rw [Int.mul_add, Int.mul_one, e]
theorem c_series {h : Heap} {p q : Int} (hp : I64 p) (h0 : p ≠ -9223372036854775808) (hq : I64 q) : FCall Tryz.prog F_sinc_series #[.int .i64 p, .int .i64 q] h fun r h' => r = .int .i64 (seriesZ p q) ∧ h' = h := by
  apply ok_sinc_series
  unfold sh_sinc_series
  unfold seriesZ
  refine (c_sincSize hp h0).mono fun v1 h1 ⟨e1, w1⟩ => ?_
  subst e1 w1
  have hm : I64 (max p (-p)) := by unfold I64 at *; omega
  refine (c_MulDiv (by unfold I64; omega) hm hq).mono fun v1 h1 ⟨e1, w1⟩ => ?_
  subst e1 w1
  refine (c_MulDiv (mulDivZ_I64 _ _ _) hm hq).mono fun v1 h1 ⟨e1, w1⟩ => ?_
  subst e1 w1
  have hu := mulDivZ_I64 (mulDivZ 10851744800547 (max p (-p)) q) (max p (-p)) q
  generalize mulDivZ (mulDivZ 10851744800547 (max p (-p)) q) (max p (-p)) q = u at *
  refine loop_st (fun i => [.int .i64 (sincStep u i).1, .int .i64 (sincStep u i).2, .int .i64 (if i % 2 = 0 then 1 else -1), .int .i64 ((i : Int) + 1)]) 30 0 rfl (by omega) fun i again ρj _ hi H => ?_
  simp only [go_sem]
  obtain ⟨s1, s2⟩ := sincStep_I64 u i
  refine iteK_dec (fun h0 => ?_) (fun h0 => ?_)
  · have H := H (by omega)
    simp only [sincStep] at H
    have hsq := sq_le (d := (i : Int) + 1) (B := 30) (by omega) (by omega)
    have he := twice_sq ((i : Int) + 1)
    rw [w64 (n := 2 * ((i : Int) + 1)) (by omega) (by omega), w64 (n := 2 * ((i : Int) + 1) + 1) (by omega) (by omega), w64 (n := 2 * ((i : Int) + 1) * (2 * ((i : Int) + 1) + 1)) (by omega) (by omega), shl_40, vK_some, w64 (by omega) (by omega)]
    refine (c_MulDiv s2 hu (by unfold I64; omega)).mono fun v1 h1 ⟨e1, w1⟩ => ?_
    subst e1 w1
    rw [w64 (n := (i : Int) + 1 + 1) (by omega) (by omega)]
    have ht := mulDivZ_I64 (sincStep u i).2 u (2 * ((i : Int) + 1) * (2 * ((i : Int) + 1) + 1) * 1099511627776)
    simp only [go_sem]
    by_cases h2 : i % 2 = 0
    · rw [if_pos h2, if_neg (by omega)] at H
      rw [if_pos h2]
      have e1 : IntKind.i64.wrap ((sincStep u i).1 + IntKind.i64.wrap (IntKind.i64.wrap (0 - 1) * mulDivZ (sincStep u i).2 u (2 * ((i : Int) + 1) * (2 * ((i : Int) + 1) + 1) * 1099511627776))) = IntKind.i64.wrap ((sincStep u i).1 - mulDivZ (sincStep u i).2 u (2 * ((i : Int) + 1) * (2 * ((i : Int) + 1) + 1) * 1099511627776)) := by
        rw [wrap_add_r, w64 (n := 0 - 1) (by omega) (by omega)]; congr 1; omega
      rw [e1]
      exact H
    · rw [if_neg h2, if_pos (by omega)] at H
      rw [if_neg h2]
      have e1 : IntKind.i64.wrap ((sincStep u i).1 + IntKind.i64.wrap (IntKind.i64.wrap (0 - -1) * mulDivZ (sincStep u i).2 u (2 * ((i : Int) + 1) * (2 * ((i : Int) + 1) + 1) * 1099511627776))) = IntKind.i64.wrap ((sincStep u i).1 + mulDivZ (sincStep u i).2 u (2 * ((i : Int) + 1) * (2 * ((i : Int) + 1) + 1) * 1099511627776)) := by
        rw [wrap_add_r, w64 (n := 0 - -1) (by omega) (by omega)]; congr 1; omega
      rw [e1]
      exact H
  · have : i = 30 := by omega
    subst this
    exact ⟨rfl, trivial⟩
theorem c_Lanczos {h : Heap} {p q : Int} (hp : I64 p) (hq : I64 q) : FCall Tryz.prog F_sinc_Lanczos #[.int .i64 p, .int .i64 q] h fun r h' => r = .int .i64 (lanczosZ p q) ∧ h' = h := by
  apply ok_sinc_Lanczos
  unfold sh_sinc_Lanczos
  unfold lanczosZ
  refine (c_May hp hq).mono fun v1 h1 ⟨e1, w1⟩ => ?_
  subst e1 w1
  by_cases hm : mayZ p q
  · have hm' := hm
    unfold mayZ at hm'
    by_cases h0 : 3 * q ≤ max p (-p)
    · rw [if_pos (.inr h0)]
      simp only [go_sem, hm]
      refine (c_sincSize hp (by omega)).mono fun v1 h1 ⟨e1, w1⟩ => ?_
      subst e1 w1
      rw [w64 (n := 3 * q) (by omega) (by omega)]
      simp only [go_sem, h0]
      exact ⟨by simp, by simp⟩
    · rw [if_neg (by rintro (h2 | h2); exact h2 hm; omega)]
      simp only [go_sem, hm]
      refine (c_sincSize hp (by omega)).mono fun v1 h1 ⟨e1, w1⟩ => ?_
      subst e1 w1
      rw [w64 (n := 3 * q) (by omega) (by omega)]
      simp only [go_sem, h0]
      refine (c_series hp (by omega) hq).mono fun v1 h1 ⟨e1, w1⟩ => ?_
      subst e1 w1
      refine (c_series hp (by omega) (by unfold I64; omega)).mono fun v1 h1 ⟨e1, w1⟩ => ?_
      subst e1 w1
      refine (c_MulShift (seriesZ_I64 _ _) (seriesZ_I64 _ _) (by unfold I64; omega)).mono fun v1 h1 ⟨e1, w1⟩ => ?_
      subst e1 w1
      exact c_Shift (mulShiftZ_i64 _ _ _) (by unfold I64; omega)
  · rw [if_pos (.inl hm)]
    simp only [go_sem, hm]
    exact ⟨by simp, by simp⟩
end Go.Proofs.YtefdokfnnokagaaGreatDoor
