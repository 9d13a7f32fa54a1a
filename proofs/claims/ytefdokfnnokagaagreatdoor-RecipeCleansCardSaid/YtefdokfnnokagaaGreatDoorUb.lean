/- Products that are longer than a number (wide): sizes, the product, a number held. Conditions: none. -/
import Derived.Test.YtefdokfnnokagaaGreatDoorUa
import Derived.Test.YtefdokfnnokagaaGreatDoorLw
import Derived.Shelf.Spec.BitsCarry
set_option linter.unusedVariables false
set_option linter.unusedSimpArgs false
set_option maxRecDepth 10000
namespace Go.Proofs.YtefdokfnnokagaaGreatDoor
open Go Go.Crisp
attribute [local irreducible] FCall rowK newK stK iteK vK qK drawK gK joinK loopK mkK appK cpyK nextStrK rangeStrK bsK

theorem c_wideSize {h : Heap} {x : Int} (hx : I64 x) : FCall Tryz.prog F_wide_size #[.int .i64 x] h fun r h' => r = .int .u64 (x.natAbs : Int) ∧ h' = h := by
  apply ok_wide_size
  unfold sh_wide_size
  simp only [go_sem]
  refine iteK_dec (fun h0 => ?_) (fun h0 => ?_)
  · rw [size_neg hx h0]; exact ⟨rfl, trivial⟩
  · rw [size_pos hx h0]; exact ⟨rfl, trivial⟩
section
attribute [local semireducible] FCall
theorem c_Mul64 {h : Heap} {x y : Nat} (hx : x < 18446744073709551616) (hy : y < 18446744073709551616) :
    FCall Tryz.prog F_math_bits_Mul64 #[.int .u64 (x : Int), .int .u64 (y : Int)] h fun r h' => r = .tuple #[.int .u64 ((x * y / 18446744073709551616 : Nat) : Int), .int .u64 ((x * y % 18446744073709551616 : Nat) : Int)] ∧ h' = h := by
  refine FCall.ofCalls (by kernel_rfl) fun w hw => ?_
  refine (Any.bits_Mul64 lay_Mul64 x y hx hy w).mono ?_
  rintro e w' ⟨rfl, rfl⟩
  exact ⟨_, rfl, Same.refl _, rfl, hw⟩
end
theorem c_product {h : Heap} {a b : Int} (ha : I64 a) (hb : I64 b) : FCall Tryz.prog F_wide_product #[.int .i64 a, .int .i64 b] h fun r h' =>
    r = .tuple #[.int .u64 ((a.natAbs * b.natAbs / 18446744073709551616 : Nat) : Int), .int .u64 ((a.natAbs * b.natAbs % 18446744073709551616 : Nat) : Int), .bool (diffS a b)] ∧ h' = h := by
  apply ok_wide_product
  unfold sh_wide_product
  refine (c_wideSize ha).mono fun v1 h1 ⟨e1, w1⟩ => ?_
  subst e1 w1
  refine (c_wideSize hb).mono fun v2 h2 ⟨e2, w2⟩ => ?_
  subst e2
  refine (c_Mul64 (natAbs_lt ha) (natAbs_lt hb)).mono fun v3 h3 ⟨e3, w3⟩ => ?_
  subst e3
  simp only [go_sem]
  exact ⟨rfl, w3.trans w2⟩
section
attribute [local semireducible] FCall
theorem c_Add64 {h : Heap} {x y c : Nat} (hc : c ≤ 1) : FCall Tryz.prog F_math_bits_Add64 #[.int .u64 (x : Int), .int .u64 (y : Int), .int .u64 (c : Int)] h fun r h' =>
    r = .tuple #[.int .u64 (((x + y + c) % 18446744073709551616 : Nat) : Int), .int .u64 (((x + y + c) / 18446744073709551616 : Nat) : Int)] ∧ h' = h :=
  FCall.ofRun fun w hw => ⟨_, w, Any7.bits_Add64 lay_Add64 x y c hc w, Same.refl _, rfl, hw⟩
theorem c_Len64 {h : Heap} {x : Nat} (hx : x < 18446744073709551616) : FCall Tryz.prog F_math_bits_Len64 #[.int .u64 (x : Int)] h fun r h' => r = .int .i64 (Lib.bitLen x : Int) ∧ h' = h := by
  refine FCall.ofCalls (by kernel_rfl) fun w hw => ?_
  refine (Any.bits_Len64 lay_Len64 (x : Int) w (by omega) (by omega)).mono ?_
  rintro e w' ⟨rfl, rfl⟩
  exact ⟨_, rfl, Same.refl _, rfl, hw⟩
end
theorem c_LeadingZeros64 {h : Heap} {x : Nat} (hx : x < 18446744073709551616) : FCall Tryz.prog F_math_bits_LeadingZeros64 #[.int .u64 (x : Int)] h fun r h' => r = .int .i64 (64 - (Lib.bitLen x : Int)) ∧ h' = h := by
  apply ok_math_bits_LeadingZeros64
  unfold sh_math_bits_LeadingZeros64
  refine (c_Len64 hx).mono fun v h1 ⟨e1, w1⟩ => ?_
  subst e1
  have := Lib.bitLen_le x 64 (Nat.le_refl _) hx
  have this : Lib.bitLen x ≤ 64 := this
  simp only [go_sem]
  rw [w64 (by omega) (by omega)]
  exact ⟨rfl, w1⟩
/-- A number without sign of 128 bits, held with a sign. -/
theorem c_signed {h : Heap} {m : Nat} {b : Bool} (hm : m < 340282366920938463463374607431768211456) :
    FCall Tryz.prog F_wide_signed #[.int .u64 ((m / 18446744073709551616 : Nat) : Int), .int .u64 ((m % 18446744073709551616 : Nat) : Int), .bool b] h fun r h' => r = .int .i64 (holdZ m b) ∧ h' = h := by
  apply ok_wide_signed
  unfold sh_wide_signed
  unfold holdZ
  cases b
  · simp only [go_sem, Bool.false_eq_true, if_false]
    refine iteK_dec (fun h0 => ?_) (fun h0 => ?_)
    · rw [if_pos (by omega)]; exact ⟨rfl, trivial⟩
    · rw [if_neg (by omega), w64 (by omega) (by omega)]
      exact ⟨by congr 1; omega, trivial⟩
  · simp only [go_sem, if_true]
    refine iteK_dec (fun h0 => ?_) (fun h0 => ?_)
    · rw [if_pos (by omega)]; exact ⟨rfl, trivial⟩
    · have e : IntKind.i64.wrap (IntKind.u64.wrap (0 - ((m % 18446744073709551616 : Nat) : Int))) = -((m % 18446744073709551616 : Nat) : Int) := by
        rw [wrapU64, wrap64]; omega
      rw [e]
      refine ⟨?_, trivial⟩
      congr 1
      split <;> omega
end Go.Proofs.YtefdokfnnokagaaGreatDoor
