/- What each source sample weighs (raw), as plain functions; the window and the scan that finds it. Conditions: none. -/
import Derived.Test.YtefdokfnnokagaaGreatDoorTe
set_option linter.unusedVariables false
set_option linter.unusedSimpArgs false
namespace Go.Crisp
open Go
theorem wrap_mul_l (a b : Int) : IntKind.i64.wrap (IntKind.i64.wrap a * b) = IntKind.i64.wrap (a * b) := by
  obtain ⟨k, hk⟩ : ∃ k, IntKind.i64.wrap a = a + 18446744073709551616 * k := ⟨(IntKind.i64.wrap a - a) / 18446744073709551616, by rw [wrap64]; omega⟩
  rw [hk, Int.add_mul, Int.mul_assoc, wrap64, wrap64]
  generalize k * b = c
  omega
theorem wrap_mul_r (a b : Int) : IntKind.i64.wrap (a * IntKind.i64.wrap b) = IntKind.i64.wrap (a * b) := by
  rw [Int.mul_comm, wrap_mul_l, Int.mul_comm]
theorem floorZ_pos {a b : Int} (ha : I64 a) (hb : 0 < b) : floorZ a b = a / b := by
  unfold floorZ floorN diffS holdZ
  rw [if_neg (by omega)]
  unfold I64 at ha
  have e1 : (b < 0) = False := eq_false (by omega)
  simp only [e1, decide_false]
  obtain ⟨B, rfl⟩ : ∃ B : Nat, b = (B : Int) := ⟨b.toNat, by omega⟩
  simp only [Int.natAbs_natCast]
  by_cases h : a < 0
  · simp only [h, decide_true]
    obtain ⟨A, rfl⟩ : ∃ A : Nat, a = -(A : Int) := ⟨(-a).toNat, by omega⟩
    have e2 : (-(A : Int)).natAbs = A := by omega
    rw [e2]
    have hB : 0 < B := by omega
    have hd := Nat.div_add_mod A B
    have hm := Nat.mod_lt A hB
    have hle : A / B ≤ A := Nat.div_le_self _ _
    simp only [Bool.not_eq_true', beq_eq_false_iff_ne, ne_eq, Bool.true_eq_false, not_false_eq_true, true_and, if_true]
    by_cases hr : A % B = 0
    · rw [if_neg (show ¬ ¬ A % B = 0 from fun h => h hr), Nat.add_zero]
      have e3 : -(A : Int) = (B : Int) * -((A / B : Nat) : Int) := by
        have : (A : Int) = (B : Int) * ((A / B : Nat) : Int) := by exact_mod_cast (by omega : A = B * (A / B))
        rw [Int.mul_neg, ← this]
      rw [e3, Int.mul_ediv_cancel_left _ (by omega)]
      split <;> omega
    · rw [if_pos hr]
      have hB2 : 2 ≤ B := by omega
      have h2 := Nat.mul_le_mul_right (A / B) hB2
      have e3 : -(A : Int) = ((B : Int) - ((A % B : Nat) : Int)) + (B : Int) * -((A / B + 1 : Nat) : Int) := by
        have h3 : (A : Int) = (B : Int) * ((A / B : Nat) : Int) + ((A % B : Nat) : Int) := by exact_mod_cast hd.symm
        rw [Int.mul_neg, show ((A / B + 1 : Nat) : Int) = ((A / B : Nat) : Int) + 1 from rfl, Int.mul_add, Int.mul_one]; omega
      rw [e3, Int.add_mul_ediv_left _ _ (by omega), Int.ediv_eq_zero_of_lt (by omega) (by omega)]
      split <;> omega
  · simp only [h, decide_false]
    obtain ⟨A, rfl⟩ : ∃ A : Nat, a = (A : Int) := ⟨a.toNat, by omega⟩
    simp only [Int.natAbs_natCast]
    have hbb : (!(false == false)) = false := rfl
    rw [hbb]
    simp only [Bool.false_eq_true, false_and, if_false, Nat.add_zero]
    have hle : A / B ≤ A := Nat.div_le_self _ _
    rw [if_neg (by omega)]
    rfl
def mayR (f n m i : Int) : Prop := 0 ≤ f ∧ f < 3 ∧ 1 ≤ n ∧ n ≤ 65536 ∧ 1 ≤ m ∧ m ≤ 65536 ∧ 0 ≤ i ∧ i < m
instance (f n m i : Int) : Decidable (mayR f n m i) := by unfold mayR; infer_instance
/-- The quotient, upwards. -/
def ceilD (a b : Int) : Int := -(-a / b)
def reachR (f : Int) : Int := if f = 0 then 0 else if f = 1 then 2 else 3
def lowW (f n m i : Int) : Int := if f = 0 then i * n / m else ((2 * i + 1) * n - m - reachR f * 2 * max n m) / (2 * m) + 1
def highW (f n m i : Int) : Int := if f = 0 then ceilD ((i + 1) * n) m else ceilD ((2 * i + 1) * n - m + reachR f * 2 * max n m) (2 * m)
def cubicZ (p q : Int) : Int := if p ≥ q then 4 * (q * q * q) + 5 * (p * p * q) - p * p * p - 8 * (p * q * q) else 3 * (p * p * p) - 5 * (p * p * q) + 2 * (q * q * q)
def keysZ (p q : Int) : Int := if q < 1 ∨ 262144 < q ∨ 2 * q ≤ p ∨ p ≤ -2 * q then 0 else mulDivZ (IntKind.i64.wrap (cubicZ (max p (-p)) q)) 1073741824 (IntKind.i64.wrap (2 * (q * q * q)))
theorem keysZ_I64 (p q : Int) : I64 (keysZ p q) := by
  unfold keysZ
  split
  · unfold I64; omega
  · exact mulDivZ_I64 _ _ _
def weighZ (f n m i j : Int) : Int :=
  if f = 0 then mulDivZ (min ((i + 1) * n) ((j + 1) * m) - max (i * n) (j * m)) 1073741824 n
  else if f = 1 then keysZ (2 * m * j - (2 * i + 1) * n + m) (2 * max n m)
  else lanczosZ (2 * m * j - (2 * i + 1) * n + m) (2 * max n m)
theorem weighZ_I64 (f n m i j : Int) : I64 (weighZ f n m i j) := by
  unfold weighZ
  split
  · exact mulDivZ_I64 _ _ _
  split
  · exact keysZ_I64 _ _
  · exact lanczosZ_I64 _ _
/-- All weights of a window. -/
def rowW (f n m i : Int) : List Int := (List.range (highW f n m i - lowW f n m i).toNat).map fun k : Nat => weighZ f n m i (lowW f n m i + k)
theorem mul_bd {a A b B : Int} (h0 : 0 ≤ a) (h1 : a ≤ A) (h2 : 0 ≤ b) (h3 : b ≤ B) : 0 ≤ a * b ∧ a * b ≤ A * B :=
  ⟨Int.mul_nonneg h0 h2, Int.mul_le_mul h1 h3 h2 (by omega)⟩
theorem mul_bd2 {a A b B : Int} (h0 : -A ≤ a) (h1 : a ≤ A) (h2 : 0 ≤ b) (h3 : b ≤ B) : -(A * B) ≤ a * b ∧ a * b ≤ A * B := by
  have hA : 0 ≤ A := by omega
  rcases Int.le_total 0 a with h | h
  · have := mul_bd h h1 h2 h3
    have h4 : 0 ≤ A * B := Int.mul_nonneg hA (by omega)
    omega
  · have := mul_bd (a := -a) (A := A) (by omega) (by omega) h2 h3
    rw [Int.neg_mul] at this
    have h4 : 0 ≤ A * B := Int.mul_nonneg hA (by omega)
    omega
theorem floor_bd {a b L U : Int} (hb : 1 ≤ b) (h1 : -L ≤ a) (h2 : a ≤ U) (hL : 0 ≤ L) (hU : 0 ≤ U) : -L ≤ a / b ∧ a / b ≤ U := by
  constructor
  · rw [Int.le_ediv_iff_mul_le (by omega)]
    have : -L * b ≤ -L * 1 := Int.mul_le_mul_of_nonpos_left (by omega) hb
    omega
  · apply Int.le_of_lt_add_one
    rw [Int.ediv_lt_iff_lt_mul (by omega)]
    have : (U + 1) * 1 ≤ (U + 1) * b := Int.mul_le_mul_of_nonneg_left hb (by omega)
    omega
/-- Products of what may be. -/
structure MayB (f n m i : Int) : Prop where
  inb : 0 ≤ i * n ∧ i * n ≤ 4294967296
  in1 : (i + 1) * n = i * n + n
  tin : (2 * i + 1) * n = 2 * (i * n) + n
  rr : reachR f * 2 * max n m = 2 * (reachR f * max n m)
  rb : 0 ≤ reachR f * max n m ∧ reachR f * max n m ≤ 196608
theorem mayB {f n m i : Int} (h : mayR f n m i) : MayB f n m i := by
  obtain ⟨f0, f1, n0, n1, m0, m1, i0, i1⟩ := h
  have := mul_bd (a := i) (A := 65536) (b := n) (B := 65536) (by omega) (by omega) (by omega) (by omega)
  have hr : 0 ≤ reachR f ∧ reachR f ≤ 3 := by unfold reachR; split; omega; split <;> omega
  have := mul_bd (a := reachR f) (A := 3) (b := max n m) (B := 65536) hr.1 hr.2 (by omega) (by omega)
  exact ⟨by omega, by rw [Int.add_mul, Int.one_mul], by rw [Int.add_mul, Int.one_mul, Int.mul_assoc], by rw [Int.mul_right_comm, Int.mul_comm], by omega⟩
theorem low_bd {f n m i : Int} (h : mayR f n m i) : -1048576 * 65536 ≤ lowW f n m i ∧ lowW f n m i ≤ 1048576 * 65536 ∧ -1048576 * 65536 ≤ highW f n m i ∧ highW f n m i ≤ 1048576 * 65536 := by
  have hb := mayB h
  obtain ⟨b1, b2, b3, b4, b5⟩ := hb
  obtain ⟨f0, f1, n0, n1, m0, m1, i0, i1⟩ := h
  unfold lowW highW ceilD
  split
  · have h1 := floor_bd (a := i * n) (b := m) (L := 0) (U := 4294967296) (by omega) (by omega) (by omega) (by omega) (by omega)
    have h2 := floor_bd (a := -((i + 1) * n)) (b := m) (L := 4295032832) (U := 0) (by omega) (by omega) (by omega) (by omega) (by omega)
    omega
  · rw [b3, b4]
    have h1 := floor_bd (a := 2 * (i * n) + n - m - 2 * (reachR f * max n m)) (b := 2 * m) (L := 8591000000) (U := 8591000000) (by omega) (by omega) (by omega) (by omega) (by omega)
    have h2 := floor_bd (a := -(2 * (i * n) + n - m + 2 * (reachR f * max n m))) (b := 2 * m) (L := 8591000000) (U := 8591000000) (by omega) (by omega) (by omega) (by omega) (by omega)
    omega
end Go.Crisp
