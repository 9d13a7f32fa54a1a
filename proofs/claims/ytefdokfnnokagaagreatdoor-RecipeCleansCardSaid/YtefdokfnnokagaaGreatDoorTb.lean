/- A quotient of two digits by one, digit by digit (Knuth): plain laws. Conditions: none. -/
import Derived.Test.YtefdokfnnokagaaGreatDoorTa
set_option linter.unusedVariables false
set_option linter.unusedSimpArgs false
namespace Go.Crisp
open Go
/-- A guess of the next digit. -/
structure Guess (u d Y yn1 yn0 q r : Nat) : Prop where
  eq : q * yn1 + r = u
  up : (u * 4294967296 + d) / Y ≤ q
section
variable {u d Y yn1 yn0 q r : Nat} (hY : Y = yn1 * 4294967296 + yn0) (h0 : yn0 < 4294967296) (h1 : 2147483648 ≤ yn1) (h1' : yn1 < 4294967296) (hu : u < Y) (hd : d < 4294967296)
theorem guess_mul (hY : Y = yn1 * 4294967296 + yn0) (g : Guess u d Y yn1 yn0 q r) : q * Y + r * 4294967296 = u * 4294967296 + q * yn0 := by
  have := g.eq
  rw [hY, Nat.mul_add, ← Nat.mul_assoc, ← this, Nat.add_mul]; omega
theorem digit_lt (hu : u < Y) (hd : d < 4294967296) : (u * 4294967296 + d) / Y < 4294967296 := by
  rw [Nat.div_lt_iff_lt_mul (by omega)]
  have : (u + 1) * 4294967296 ≤ Y * 4294967296 := Nat.mul_le_mul_right _ hu
  rw [Nat.add_mul] at this
  rw [Nat.mul_comm 4294967296 Y]
  omega
theorem guess_first (hY : Y = yn1 * 4294967296 + yn0) (h1 : 2147483648 ≤ yn1) (hu : u < Y) (hd : d < 4294967296) : Guess u d Y yn1 yn0 (u / yn1) (u - u / yn1 * yn1) := by
  have hle : u / yn1 * yn1 ≤ u := Nat.div_mul_le_self u yn1
  refine ⟨by omega, ?_⟩
  rw [Nat.le_div_iff_mul_le (by omega)]
  have hq : (u * 4294967296 + d) / Y * Y ≤ u * 4294967296 + d := Nat.div_mul_le_self _ _
  generalize (u * 4294967296 + d) / Y = Q at hq
  rw [hY, Nat.mul_add, ← Nat.mul_assoc] at hq
  generalize Q * yn1 = a at hq ⊢
  omega
theorem guess_down (hY : Y = yn1 * 4294967296 + yn0) (h1 : 2147483648 ≤ yn1) (hu : u < Y) (hd : d < 4294967296) (g : Guess u d Y yn1 yn0 q r) (h : 4294967296 ≤ q ∨ 4294967296 * r + d < q * yn0) : 1 ≤ q ∧ Guess u d Y yn1 yn0 (q - 1) (r + yn1) := by
  have hlt := digit_lt hu hd
  have hQ : (u * 4294967296 + d) / Y < q := by
    rcases h with h | h
    · exact Nat.lt_of_lt_of_le hlt h
    · rw [Nat.div_lt_iff_lt_mul (by omega)]
      have := guess_mul hY g
      clear hY hlt
      generalize q * Y = a at this ⊢
      omega
  have hq1 : 1 ≤ q := Nat.lt_of_le_of_lt (Nat.zero_le _) hQ
  refine ⟨hq1, ⟨?_, Nat.le_sub_one_of_lt hQ⟩⟩
  have := g.eq
  obtain ⟨k, rfl⟩ : ∃ k, q = k + 1 := ⟨q - 1, by omega⟩
  rw [Nat.add_mul] at this
  rw [Nat.add_sub_cancel]
  omega
theorem guess_exit (hY : Y = yn1 * 4294967296 + yn0) (h1 : 2147483648 ≤ yn1) (g : Guess u d Y yn1 yn0 q r) (h : q * yn0 ≤ 4294967296 * r + d) : q = (u * 4294967296 + d) / Y := by
  have := guess_mul hY g
  have hup := g.up
  have : q ≤ (u * 4294967296 + d) / Y := by
    rw [Nat.le_div_iff_mul_le (by omega)]
    clear hY hup
    generalize q * Y = a at this ⊢
    omega
  exact Nat.le_antisymm this hup
theorem guess_over (hY : Y = yn1 * 4294967296 + yn0) (h0 : yn0 < 4294967296) (h1 : 2147483648 ≤ yn1) (hu : u < Y) (g : Guess u d Y yn1 yn0 q r) (h : 4294967296 ≤ r) : q = (u * 4294967296 + d) / Y := by
  refine guess_exit hY h1 g ?_
  have e := g.eq
  have hq : q < 4294967296 := by
    rcases Nat.lt_or_ge q 4294967296 with h2 | h2
    · exact h2
    · have : 4294967296 * yn1 ≤ q * yn1 := Nat.mul_le_mul_right _ h2
      omega
  have : q * yn0 ≤ q * 4294967296 := Nat.mul_le_mul_left _ (by omega)
  omega
theorem guess_le (h1 : 2147483648 ≤ yn1) (hY : Y = yn1 * 4294967296 + yn0) (h0 : yn0 < 4294967296) (hu : u < Y) : u / yn1 < 4294967298 := by
  rw [Nat.div_lt_iff_lt_mul (by omega)]
  omega
end
/-- One digit more: quotient and rest. -/
theorem digits_div {M Y d0 q r : Nat} (hY : 0 < Y) (hq : M / Y = q) (hr : M % Y = r) :
    (M * 4294967296 + d0) / Y = q * 4294967296 + (r * 4294967296 + d0) / Y ∧ (M * 4294967296 + d0) % Y = (r * 4294967296 + d0) % Y := by
  have h := Nat.div_add_mod M Y
  rw [hq, hr] at h
  have e : M * 4294967296 + d0 = (r * 4294967296 + d0) + Y * (q * 4294967296) := by
    rw [← h, Nat.add_mul, Nat.mul_assoc, Nat.add_assoc, Nat.add_comm]
  rw [e]
  exact ⟨by rw [Nat.add_mul_div_left _ _ hY, Nat.add_comm], by rw [Nat.add_mul_mod_self_left]⟩
end Go.Crisp
