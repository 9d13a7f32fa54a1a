/- Numbers without sign that are held with a sign; quotients, rounded: plain laws. Conditions: none. -/
import Derived.Test.YtefdokfnnokagaaGreatDoorEc
set_option linter.unusedVariables false
set_option linter.unusedSimpArgs false
namespace Go.Crisp
open Go
/-- Of 64 bits, with a sign. -/
def I64 (n : Int) : Prop := -9223372036854775808 ≤ n ∧ n ≤ 9223372036854775807
/-- A number without sign, with its sign, held. -/
def holdZ (m : Nat) (below : Bool) : Int :=
  if below then (if 9223372036854775808 ≤ m then -9223372036854775808 else -(m : Int)) else (if 9223372036854775807 < m then 9223372036854775807 else (m : Int))
def diffS (a b : Int) : Bool := !(decide (a < 0) == decide (b < 0))
/-- A quotient without sign, rounded: to the nearest; of two, the one above. -/
def nearN (m d : Nat) (below : Bool) : Nat := m / d + (if below then (if d < 2 * (m % d) then 1 else 0) else (if d ≤ 2 * (m % d) then 1 else 0))
def floorN (m d : Nat) (below : Bool) : Nat := m / d + (if below ∧ m % d ≠ 0 then 1 else 0)
def divZ (a b : Int) : Int := if b = 0 then 0 else holdZ (nearN a.natAbs b.natAbs (diffS a b)) (diffS a b)
def floorZ (a b : Int) : Int := if b = 0 then 0 else holdZ (floorN a.natAbs b.natAbs (diffS a b)) (diffS a b)
def mulDivZ (a b d : Int) : Int := if d = 0 then 0 else holdZ (nearN (a.natAbs * b.natAbs) d.natAbs (diffS a b != decide (d < 0))) (diffS a b != decide (d < 0))
def addZ (a b : Int) : Int := max (-9223372036854775808) (min (a + b) 9223372036854775807)
def mulZ (a b : Int) : Int := holdZ (a.natAbs * b.natAbs) (diffS a b)
theorem holdZ_i64 (m : Nat) (b : Bool) : I64 (holdZ m b) := by
  unfold holdZ I64
  cases b
  · simp only [Bool.false_eq_true, if_false]; split <;> omega
  · simp only [if_true]; split <;> omega
theorem addZ_i64 (a b : Int) : I64 (addZ a b) := by unfold addZ I64; omega
theorem wrap64 (n : Int) : IntKind.i64.wrap n = (n + 9223372036854775808) % 18446744073709551616 - 9223372036854775808 := by
  show (if (true && decide (n % (2 ^ 64 : Int) ≥ (2 ^ 63 : Int))) = true then n % (2 ^ 64 : Int) - (2 ^ 64 : Int) else n % (2 ^ 64 : Int)) = _
  split
  · rename_i hh
    simp only [Bool.true_and, decide_eq_true_eq] at hh
    omega
  · rename_i hh
    simp only [Bool.true_and, decide_eq_true_eq] at hh
    omega
theorem wrapU64 (n : Int) : IntKind.u64.wrap n = n % 18446744073709551616 := by simp [IntKind.wrap, IntKind.bits, IntKind.signed]
theorem u64_nat {m : Nat} (h : m < 18446744073709551616) : IntKind.u64.wrap (m : Int) = (m : Int) := by rw [wrapU64]; omega
/-- A number's size, as the program makes it. -/
theorem size_neg {x : Int} (h : I64 x) (hx : x < 0) : IntKind.u64.wrap (0 - IntKind.u64.wrap x) = (x.natAbs : Int) := by
  unfold I64 at h
  rw [wrapU64, wrapU64]; omega
theorem size_pos {x : Int} (h : I64 x) (hx : ¬ x < 0) : IntKind.u64.wrap x = (x.natAbs : Int) := by
  unfold I64 at h
  rw [wrapU64]; omega

/-! ### bit by bit -/
theorem halve (n i : Nat) : n / 2 ^ i = 2 * (n / 2 ^ (i + 1)) + n / 2 ^ i % 2 := by
  rw [Nat.pow_succ, ← Nat.div_div_eq_div_mul]; omega
theorem over_step {n d q r bit : Nat} (hd : 0 < d) (hn : n / d = q) (hr : n % d = r) (hb : bit ≤ 1) :
    (2 * n + bit) / d = 2 * q + (if d ≤ 2 * r + bit then 1 else 0) ∧ (2 * n + bit) % d = (if d ≤ 2 * r + bit then 2 * r + bit - d else 2 * r + bit) := by
  have h := Nat.div_add_mod n d
  rw [hn, hr] at h
  have hrd : r < d := hr ▸ Nat.mod_lt _ hd
  have e : 2 * n + bit = d * (2 * q) + (2 * r + bit) := by
    rw [← h, Nat.mul_left_comm, Nat.mul_add]; omega
  by_cases hc : d ≤ 2 * r + bit
  · rw [if_pos hc, if_pos hc]
    have e2 : 2 * n + bit = (2 * r + bit - d) + d * (2 * q + 1) := by rw [e, Nat.mul_add d (2 * q) 1]; omega
    rw [e2]
    constructor
    · rw [Nat.add_mul_div_left _ _ hd, Nat.div_eq_of_lt (by omega)]; omega
    · rw [Nat.add_mul_mod_self_left, Nat.mod_eq_of_lt (by omega)]
  · rw [if_neg hc, if_neg hc]
    have e2 : 2 * n + bit = (2 * r + bit) + d * (2 * q) := by rw [e]; omega
    rw [e2]
    constructor
    · rw [Nat.add_mul_div_left _ _ hd, Nat.div_eq_of_lt (by omega)]; omega
    · rw [Nat.add_mul_mod_self_left, Nat.mod_eq_of_lt (by omega)]
/-- A number without sign of 128 bits, as two halves. -/
def bigV (n : Nat) : Value := .agg #[.int .u64 ((n / 18446744073709551616 : Nat) : Int), .int .u64 ((n % 18446744073709551616 : Nat) : Int)]
end Go.Crisp
