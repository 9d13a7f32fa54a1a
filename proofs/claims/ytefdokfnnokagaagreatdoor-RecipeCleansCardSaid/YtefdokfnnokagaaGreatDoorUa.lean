/- Numbers that are rounded (fixed): the program's. Conditions: none. -/
import Derived.Test.YtefdokfnnokagaaGreatDoorTe
import Derived.Test.YtefdokfnnokagaaGreatDoorEs
import Derived.Test.YtefdokfnnokagaaGreatDoorShz
set_option linter.unusedVariables false
set_option linter.unusedSimpArgs false
set_option maxRecDepth 10000
namespace Go.Proofs.YtefdokfnnokagaaGreatDoor
open Go Go.Crisp
attribute [local irreducible] FCall rowK newK stK iteK vK qK drawK gK joinK loopK mkK appK cpyK nextStrK rangeStrK bsK

theorem c_fixedSize {h : Heap} {x : Int} (hx : I64 x) : FCall Tryz.prog F_fixed_size #[.int .i64 x] h fun r h' => r = .int .u64 (x.natAbs : Int) ∧ h' = h := by
  apply ok_fixed_size
  unfold sh_fixed_size
  simp only [go_sem]
  refine iteK_dec (fun h0 => ?_) (fun h0 => ?_)
  · rw [size_neg hx h0]; exact ⟨rfl, trivial⟩
  · rw [size_pos hx h0]; exact ⟨rfl, trivial⟩
theorem c_fixedHold {h : Heap} {m : Nat} {b : Bool} (hm : m < 18446744073709551616) : FCall Tryz.prog F_fixed_hold #[.int .u64 (m : Int), .bool b] h fun r h' => r = .int .i64 (holdZ m b) ∧ h' = h := by
  apply ok_fixed_hold
  unfold sh_fixed_hold
  unfold holdZ
  cases b
  · simp only [go_sem, Bool.false_eq_true, if_false]
    refine iteK_dec (fun h0 => ?_) (fun h0 => ?_)
    · rw [if_pos (by omega)]; exact ⟨rfl, trivial⟩
    · rw [if_neg (by omega), w64 (by omega) (by omega)]; exact ⟨rfl, trivial⟩
  · simp only [go_sem, if_true]
    refine iteK_dec (fun h0 => ?_) (fun h0 => ?_)
    · rw [if_pos (by omega)]; exact ⟨rfl, trivial⟩
    · rw [if_neg (by omega), w64 (n := (m : Int)) (by omega) (by omega), w64 (by omega) (by omega)]
      exact ⟨by congr 1; omega, trivial⟩
theorem quo_u64 {a b : Nat} (hb : 0 < b) (ha : a < 18446744073709551616) : binV .i .quo (.int .u64 (a : Int)) (.int .u64 (b : Int)) = some (.int .u64 ((a / b : Nat) : Int)) := by
  have e : (a : Int).tdiv (b : Int) = ((a / b : Nat) : Int) := (Int.ofNat_tdiv a b).symm
  rw [binV_quo _ _ _ _ (by omega), e, u64_nat (Nat.lt_of_le_of_lt (Nat.div_le_self _ _) ha)]
theorem rem_u64 {a b : Nat} (hb : 0 < b) : binV .i .rem (.int .u64 (a : Int)) (.int .u64 (b : Int)) = some (.int .u64 ((a % b : Nat) : Int)) := by
  have e : (a : Int).tmod (b : Int) = ((a % b : Nat) : Int) := (Int.ofNat_tmod a b).symm
  rw [binV_rem _ _ _ _ (by omega), e]
theorem natAbs_lt {x : Int} (h : I64 x) : x.natAbs < 18446744073709551616 := by unfold I64 at h; omega
theorem natAbs_le {x : Int} (h : I64 x) : x.natAbs ≤ 9223372036854775808 := by unfold I64 at h; omega
theorem c_Floor {h : Heap} {a b : Int} (ha : I64 a) (hb : I64 b) : FCall Tryz.prog F_fixed_Floor #[.int .i64 a, .int .i64 b] h fun r h' => r = .int .i64 (floorZ a b) ∧ h' = h := by
  apply ok_fixed_Floor
  unfold sh_fixed_Floor
  simp only [go_sem]
  unfold floorZ
  refine iteK_dec (fun h0 => ?_) (fun h0 => ?_)
  · rw [if_pos h0]; exact ⟨rfl, trivial⟩
  rw [if_neg h0]
  refine drawK_of (fun h' => h' = h) rfl ?_
  refine (c_fixedSize ha).mono fun v1 h1 ⟨e1, w1⟩ => ?_
  subst e1 w1
  try refine ⟨rfl, ?_⟩
  refine (c_fixedSize hb).mono fun v2 h2 ⟨e2, w2⟩ => ?_
  subst e2 w2
  try refine ⟨rfl, ?_⟩
  have hb0 : 0 < b.natAbs := by omega
  have ha1 := natAbs_le ha
  rw [quo_u64 hb0 (natAbs_lt ha), vK_some]
  refine (c_fixedSize ha).mono fun v3 h3 ⟨e3, w3⟩ => ?_
  subst e3 w3
  try refine ⟨rfl, ?_⟩
  refine (c_fixedSize hb).mono fun v4 h4 ⟨e4, w4⟩ => ?_
  subst e4 w4
  try refine ⟨rfl, ?_⟩
  rw [rem_u64 hb0, vK_some]
  simp only [go_sem]
  have hq : a.natAbs / b.natAbs ≤ a.natAbs := Nat.div_le_self _ _
  by_cases hd : diffS a b = true
  · have hd' : (!(decide (a < 0) == decide (b < 0))) = true := hd
    rw [hd']
    simp only [go_sem]
    by_cases hr : a.natAbs % b.natAbs = 0
    · have q : (((a.natAbs % b.natAbs : Nat) : Int) = 0) = True := eq_true (by omega)
      simp only [go_sem, q]
      rw [hd]
      unfold floorN
      rw [if_neg (by simp [hr])]
      exact c_fixedHold (by omega)
    · have q : (((a.natAbs % b.natAbs : Nat) : Int) = 0) = False := eq_false (by omega)
      simp only [go_sem, q]
      rw [hd, show ((a.natAbs / b.natAbs : Nat) : Int) + 1 = ((a.natAbs / b.natAbs + 1 : Nat) : Int) from rfl, u64_nat (m := a.natAbs / b.natAbs + 1) (by omega)]
      unfold floorN
      rw [if_pos ⟨rfl, hr⟩]
      exact c_fixedHold (m := a.natAbs / b.natAbs + 1) (by omega)
  · have hd : diffS a b = false := by simpa using hd
    have hd' : (!(decide (a < 0) == decide (b < 0))) = false := hd
    rw [hd']
    simp only [go_sem]
    rw [hd]
    unfold floorN
    rw [if_neg (by simp)]
    exact c_fixedHold (by omega)
theorem and_one (a : Int) : binV .i .and (.int .i64 a) (.int .i64 1) = some (.int .i64 (a % 2)) := by
  have e : (BitVec.ofInt 64 a &&& BitVec.ofInt 64 1).toNat = (a % 2).toNat := by
    rw [BitVec.toNat_and, BitVec.toNat_ofInt, BitVec.toNat_ofInt]
    have h1 : (1 % ((2 ^ 64 : Nat) : Int)).toNat = 1 := by decide
    rw [h1, Nat.and_one_is_mod]
    omega
  show some (Value.int .i64 (IntKind.i64.wrap (((BitVec.ofInt 64 a &&& BitVec.ofInt 64 1).toNat : Nat) : Int))) = _
  rw [e, w64 (by omega) (by omega)]
  congr 2; omega
theorem shr_i64 (x : Int) (n : Nat) (hn : n ≤ 64) : binV .i .shr (.int .i64 x) (.int .i64 (n : Int)) = some (.int .i64 (x / 2 ^ n)) := by
  show (if (n : Int) < 0 then none else some (Value.int .i64 (x.fdiv (2 ^ (min (n : Int).toNat 64))))) = _
  rw [if_neg (by omega), Int.toNat_natCast, Nat.min_eq_left hn, Int.fdiv_eq_ediv_of_nonneg _ (Int.le_of_lt (Int.pow_pos (by omega)))]
theorem c_Shift {h : Heap} {x n : Int} (hx : I64 x) (hn : I64 n) : FCall Tryz.prog F_fixed_Shift #[.int .i64 x, .int .i64 n] h fun r h' => r = .int .i64 (shiftZ x n) ∧ h' = h := by
  apply ok_fixed_Shift
  unfold sh_fixed_Shift
  simp only [go_sem]
  unfold shiftZ
  refine iteK_dec (fun h0 => ?_) (fun h0 => ?_)
  · rw [if_pos h0]; exact ⟨rfl, trivial⟩
  rw [if_neg h0]
  refine iteK_dec (fun h1 => ?_) (fun h1 => ?_)
  · rw [if_pos h1]; exact ⟨rfl, trivial⟩
  rw [if_neg h1]
  obtain ⟨k, rfl⟩ : ∃ k : Nat, n = (k : Int) := ⟨n.toNat, by omega⟩
  rw [w64 (n := (k : Int) - 1) (by omega) (by omega), show (k : Int) - 1 = ((k - 1 : Nat) : Int) by omega, shr_i64 x k (by omega), vK_some, shr_i64 x (k - 1) (by omega), vK_some, and_one, vK_some]
  simp only [go_sem, Int.toNat_natCast]
  refine ⟨?_, trivial⟩
  congr 1
  have hp : (2 : Int) ^ k = 2 * 2 ^ (k - 1) := by
    obtain ⟨j, rfl⟩ : ∃ j, k = j + 1 := ⟨k - 1, by omega⟩
    rw [Nat.add_sub_cancel, Int.pow_succ, Int.mul_comm]
  have hp1 : (0 : Int) < 2 ^ (k - 1) := Int.pow_pos (by omega)
  have h2 : x / 2 ^ k = x / 2 ^ (k - 1) / 2 := by rw [hp, Int.mul_comm, Int.ediv_ediv, if_neg (by omega), Int.sub_zero]
  obtain ⟨b1, b2⟩ := hx
  have b3 : -9223372036854775808 ≤ x / 2 ^ (k - 1) ∧ x / 2 ^ (k - 1) ≤ 9223372036854775807 := by
    constructor
    · rw [Int.le_ediv_iff_mul_le hp1]
      have : -9223372036854775808 * (2 : Int) ^ (k - 1) ≤ -9223372036854775808 * 1 := Int.mul_le_mul_of_nonpos_left (by omega) (by omega)
      omega
    · apply Int.le_of_lt_add_one
      rw [Int.ediv_lt_iff_lt_mul hp1]
      have : (9223372036854775807 + 1) * 1 ≤ (9223372036854775807 + 1) * (2 : Int) ^ (k - 1) := Int.mul_le_mul_of_nonneg_left (by omega) (by omega)
      omega
  rw [w64 (by omega) (by omega)]
end Go.Proofs.YtefdokfnnokagaaGreatDoor
