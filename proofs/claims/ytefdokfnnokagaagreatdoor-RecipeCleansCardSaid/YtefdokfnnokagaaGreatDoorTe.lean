/- Numbers of the exponential function and the sine, as plain functions. Conditions: none. -/
import Derived.Test.YtefdokfnnokagaaGreatDoorTa
set_option linter.unusedVariables false
set_option linter.unusedSimpArgs false
namespace Go.Crisp
open Go
theorem wrap_I64 (n : Int) : I64 (IntKind.i64.wrap n) := by rw [wrap64]; unfold I64; omega
theorem wrap_id {n : Int} (h : I64 n) : IntKind.i64.wrap n = n := by unfold I64 at h; rw [wrap64]; omega
theorem wrap_add_l (a b : Int) : IntKind.i64.wrap (IntKind.i64.wrap a + b) = IntKind.i64.wrap (a + b) := by rw [wrap64, wrap64, wrap64]; omega
theorem wrap_add_r (a b : Int) : IntKind.i64.wrap (a + IntKind.i64.wrap b) = IntKind.i64.wrap (a + b) := by rw [wrap64, wrap64, wrap64]; omega
theorem wrap_sub_l (a b : Int) : IntKind.i64.wrap (IntKind.i64.wrap a - b) = IntKind.i64.wrap (a - b) := by rw [wrap64, wrap64, wrap64]; omega
theorem wrap_sub_r (a b : Int) : IntKind.i64.wrap (a - IntKind.i64.wrap b) = IntKind.i64.wrap (a - b) := by rw [wrap64, wrap64, wrap64]; omega
/-- Rounded, by bits. -/
def shiftZ (x n : Int) : Int := if n ≤ 0 then x else if 64 ≤ n then 0 else x / 2 ^ n.toNat + x / 2 ^ (n.toNat - 1) % 2
theorem half_le {x : Int} {k : Nat} (hx : I64 x) : -9223372036854775808 ≤ x / 2 ^ k ∧ x / 2 ^ k ≤ 9223372036854775807 := by
  obtain ⟨b1, b2⟩ := hx
  have hp1 : (0 : Int) < 2 ^ k := Int.pow_pos (by omega)
  constructor
  · rw [Int.le_ediv_iff_mul_le hp1]
    have : -9223372036854775808 * (2 : Int) ^ k ≤ -9223372036854775808 * 1 := Int.mul_le_mul_of_nonpos_left (by omega) (by omega)
    omega
  · apply Int.le_of_lt_add_one
    rw [Int.ediv_lt_iff_lt_mul hp1]
    have : (9223372036854775807 + 1) * 1 ≤ (9223372036854775807 + 1) * (2 : Int) ^ k := Int.mul_le_mul_of_nonneg_left (by omega) (by omega)
    omega
theorem shiftZ_i64 {x n : Int} (hx : I64 x) : I64 (shiftZ x n) := by
  unfold shiftZ
  split
  · exact hx
  split
  · unfold I64; omega
  · have hp : (2 : Int) ^ n.toNat = 2 ^ (n.toNat - 1) * 2 := by
      obtain ⟨j, hj⟩ : ∃ j, n.toNat = j + 1 := ⟨n.toNat - 1, by omega⟩
      rw [hj, Nat.add_sub_cancel, Int.pow_succ]
    have hp1 : (0 : Int) < 2 ^ (n.toNat - 1) := Int.pow_pos (by omega)
    have h2 : x / 2 ^ n.toNat = x / 2 ^ (n.toNat - 1) / 2 := by rw [hp, Int.ediv_ediv, if_neg (by omega), Int.sub_zero]
    have := half_le (k := n.toNat - 1) hx
    unfold I64
    rw [h2]
    omega
/-- The exponential function's row: the sum, and the last term. -/
def expStep (r : Int) : Nat → Int × Int
  | 0 => (1099511627776, 1099511627776)
  | i + 1 => (IntKind.i64.wrap (if i % 2 = 0 then (expStep r i).1 - mulDivZ (expStep r i).2 r (((i : Int) + 1) * 1099511627776) else (expStep r i).1 + mulDivZ (expStep r i).2 r (((i : Int) + 1) * 1099511627776)),
      mulDivZ (expStep r i).2 r (((i : Int) + 1) * 1099511627776))
def expZ (t : Int) : Int := shiftZ (expStep (max 0 t % 762123384786) 16).1 (max 0 t / 762123384786)
def ratioZ (d sigma : Int) : Int := if sigma < 1 ∨ 4194304 < sigma ∨ d < -16384 ∨ 16384 < d then 9223372036854775807 else mulDivZ (d * d * 2147483648) 1099511627776 (sigma * sigma)
def gaussZ (d sigma : Int) : Int := shiftZ (expZ (ratioZ d sigma)) 10
theorem mulDivZ_I64 (a b d : Int) : I64 (mulDivZ a b d) := by
  unfold mulDivZ
  split
  · unfold I64; omega
  · exact holdZ_i64 _ _
theorem expStep_I64 (r : Int) : ∀ i, I64 (expStep r i).1 ∧ I64 (expStep r i).2
  | 0 => ⟨by unfold I64 expStep; omega, by unfold I64 expStep; omega⟩
  | i + 1 => by simp only [expStep]; exact ⟨wrap_I64 _, mulDivZ_I64 _ _ _⟩
theorem expZ_I64 (t : Int) : I64 (expZ t) := shiftZ_i64 (expStep_I64 _ _).1
theorem ratioZ_I64 (d s : Int) : I64 (ratioZ d s) := by
  unfold ratioZ
  split
  · unfold I64; omega
  · exact mulDivZ_I64 _ _ _
theorem gaussZ_I64 (d s : Int) : I64 (gaussZ d s) := shiftZ_i64 (expZ_I64 _)
/-- A square of what is small. -/
theorem sq_le {d B : Int} (h1 : -B ≤ d) (h2 : d ≤ B) : 0 ≤ d * d ∧ d * d ≤ B * B := by
  refine ⟨by rcases Int.le_total 0 d with h | h; exact Int.mul_nonneg h h; exact Int.mul_nonneg_of_nonpos_of_nonpos h h, ?_⟩
  rcases Int.le_total 0 d with h | h
  · exact Int.mul_le_mul h2 h2 h (by omega)
  · have : -d * -d ≤ B * B := Int.mul_le_mul (by omega) (by omega) (by omega) (by omega)
    rwa [Int.neg_mul_neg] at this

/-! ### the sine -/
def mayZ (p q : Int) : Prop := 1 ≤ q ∧ q ≤ 1048576 ∧ -4 * q ≤ p ∧ p ≤ 4 * q
instance (p q : Int) : Decidable (mayZ p q) := by unfold mayZ; infer_instance
/-- The sine's row: the sum, the last term, behind i rounds. -/
def sincStep (u : Int) : Nat → Int × Int
  | 0 => (1099511627776, 1099511627776)
  | i + 1 => (IntKind.i64.wrap (if i % 2 = 0 then (sincStep u i).1 - mulDivZ (sincStep u i).2 u (2 * ((i : Int) + 1) * (2 * ((i : Int) + 1) + 1) * 1099511627776) else (sincStep u i).1 + mulDivZ (sincStep u i).2 u (2 * ((i : Int) + 1) * (2 * ((i : Int) + 1) + 1) * 1099511627776)),
      mulDivZ (sincStep u i).2 u (2 * ((i : Int) + 1) * (2 * ((i : Int) + 1) + 1) * 1099511627776))
def seriesZ (p q : Int) : Int := (sincStep (mulDivZ (mulDivZ 10851744800547 (max p (-p)) q) (max p (-p)) q) 30).1
theorem sincStep_I64 (r : Int) : ∀ i, I64 (sincStep r i).1 ∧ I64 (sincStep r i).2
  | 0 => ⟨by unfold I64 sincStep; omega, by unfold I64 sincStep; omega⟩
  | i + 1 => by simp only [sincStep]; exact ⟨wrap_I64 _, mulDivZ_I64 _ _ _⟩
theorem seriesZ_I64 (p q : Int) : I64 (seriesZ p q) := (sincStep_I64 _ _).1
/-- A product, by bits, rounded. -/
def shiftN (m n : Nat) (below : Bool) : Nat := if n = 0 then m else m / 2 ^ n + (if m / 2 ^ (n - 1) % 2 = 1 ∧ ¬ (below = true ∧ m % 2 ^ (n - 1) = 0) then 1 else 0)
def mulShiftZ (a b n : Int) : Int := if 128 ≤ n then 0 else holdZ (shiftN (a.natAbs * b.natAbs) n.toNat (diffS a b)) (diffS a b)
theorem mulShiftZ_i64 (a b n : Int) : I64 (mulShiftZ a b n) := by
  unfold mulShiftZ
  split
  · unfold I64; omega
  · exact holdZ_i64 _ _
def lanczosZ (p q : Int) : Int := if ¬ mayZ p q ∨ 3 * q ≤ max p (-p) then 0 else shiftZ (mulShiftZ (seriesZ p q) (seriesZ p (3 * q)) 40) 10
theorem lanczosZ_I64 (p q : Int) : I64 (lanczosZ p q) := by
  unfold lanczosZ
  split
  · unfold I64; omega
  · exact shiftZ_i64 (mulShiftZ_i64 _ _ _)
/-- What is left, of a quotient downwards. -/
def modZ (a b : Int) : Int := if b = 0 then 0 else a.fmod b
theorem modZ_pos {a b : Int} (h : 0 < b) : modZ a b = a % b := by
  unfold modZ
  rw [if_neg (by omega), Int.fmod_eq_emod, if_pos (.inl (by omega)), Int.add_zero]
end Go.Crisp
