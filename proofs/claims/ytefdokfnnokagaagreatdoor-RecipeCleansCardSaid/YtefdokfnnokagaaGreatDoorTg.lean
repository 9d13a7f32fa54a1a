/- Weights that come to one (taps), as plain functions: sums, sizes, what is apportioned; how much is left. Conditions: none. -/
import Derived.Test.YtefdokfnnokagaaGreatDoorTf
import Derived.Test.YtefdokfnnokagaaGreatDoorTc
set_option linter.unusedVariables false
set_option linter.unusedSimpArgs false
namespace Go.Crisp
open Go
def sumZ (l : List Int) : Int := l.foldl addZ 0
def sizeZ (x : Int) : Int := max x (mulZ x (-1))
def sizesZ (l : List Int) : Int := l.foldl (fun s x => addZ s (sizeZ x)) 0
theorem sizeZ_eq {x : Int} (h : I64 x) : sizeZ x = min (x.natAbs : Int) 9223372036854775807 := by
  unfold sizeZ mulZ holdZ diffS
  unfold I64 at h
  have e : (-1 : Int).natAbs = 1 := rfl
  rw [e, Nat.mul_one]
  have e2 : decide ((-1 : Int) < 0) = true := rfl
  rw [e2]
  by_cases hx : x < 0
  · rw [decide_eq_true hx]
    have : (!(true == true)) = false := rfl
    rw [this]
    simp only [Bool.false_eq_true, if_false]
    split <;> omega
  · rw [decide_eq_false hx]
    have : (!(false == true)) = true := rfl
    rw [this]
    simp only [if_true]
    split <;> omega
theorem foldl_I64 {f : Int → Int → Int} (hf : ∀ a b, I64 (f a b)) : ∀ (l : List Int) (s : Int), I64 s → I64 (l.foldl f s)
  | [], s, h => h
  | x :: l, s, _ => foldl_I64 hf l _ (hf _ _)
theorem I64_zero : I64 0 := by unfold I64; omega
theorem sumZ_I64 (l : List Int) : I64 (sumZ l) := foldl_I64 addZ_i64 l 0 I64_zero
theorem sizesZ_I64 (l : List Int) : I64 (sizesZ l) := foldl_I64 (fun a b => addZ_i64 a (sizeZ b)) l 0 I64_zero
theorem sizeZ_I64 {x : Int} (h : I64 x) : I64 (sizeZ x) := by rw [sizeZ_eq h]; unfold I64; omega
def badW (l : List Int) : Prop := l.length = 0 ∨ 1048576 < l.length ∨ ∃ x ∈ l, 1099511627776 < sizeZ x
instance (l : List Int) : Decidable (badW l) := by unfold badW; infer_instance
def checkZ (l : List Int) : Int := if badW l then 7 else if sumZ l < 268435456 then 8 else 0
def baseT (l : List Int) (i : Nat) : Int := l.getD i 0 * 16384 / sumZ l
def restT (l : List Int) (i : Nat) : Int := l.getD i 0 * 16384 % sumZ l
def leftK (l : List Int) : Nat → Int
  | 0 => 16384
  | k + 1 => leftK l k - baseT l k
def leftT (l : List Int) : Int := leftK l l.length
def tapsOf (l : List Int) : List Int := (List.range l.length).map fun i => baseT l i + (if (rank (restT l) l.length i : Int) < leftT l then 1 else 0)
def apportZ (l : List Int) : List Int := if checkZ l = 0 then tapsOf l else []

/-- What holds of weights that may be. -/
structure GoodW (l : List Int) : Prop where
  pos : 0 < l.length
  len : l.length ≤ 1048576
  small : ∀ i, -1099511627776 ≤ l.getD i 0 ∧ l.getD i 0 ≤ 1099511627776
  sum : 268435456 ≤ sumZ l
theorem checkZ_zero {l : List Int} : checkZ l = 0 ↔ ¬ badW l ∧ 268435456 ≤ sumZ l := by
  unfold checkZ
  split
  · rename_i h; simp [h]
  · rename_i h
    split
    · rename_i h2; simp [h]; omega
    · rename_i h2; simp [h]; omega
theorem goodW {l : List Int} (h64 : ∀ x ∈ l, I64 x) (h : checkZ l = 0) : GoodW l := by
  obtain ⟨h1, h2⟩ := checkZ_zero.1 h
  unfold badW at h1
  refine ⟨by omega, by omega, fun i => ?_, h2⟩
  by_cases hi : i < l.length
  · have e : l.getD i 0 = l[i] := by simp [List.getD_eq_getElem?_getD, hi]
    rw [e]
    have hm := List.getElem_mem hi
    have h3 : ¬ 1099511627776 < sizeZ l[i] := fun h3 => h1 (.inr (.inr ⟨_, hm, h3⟩))
    rw [sizeZ_eq (h64 _ hm)] at h3
    omega
  · have e : l.getD i 0 = 0 := by simp [List.getD_eq_getElem?_getD, Nat.le_of_not_lt hi]
    rw [e]; omega
def psum (l : List Int) : Nat → Int
  | 0 => 0
  | k + 1 => psum l k + l.getD k 0
theorem psum_bd {l : List Int} (G : GoodW l) : ∀ k : Nat, -(k * 1099511627776 : Int) ≤ psum l k ∧ psum l k ≤ k * 1099511627776
  | 0 => by simp [psum]
  | k + 1 => by
    have := psum_bd G k
    have h2 := G.small k
    simp only [psum]
    omega
theorem sum_psum {l : List Int} (G : GoodW l) : ∀ k, k ≤ l.length → sumZ (l.take k) = psum l k
  | 0, _ => by simp [sumZ, psum]
  | k + 1, h => by
    have ih := sum_psum G k (by omega)
    have hb := psum_bd G k
    have h2 := G.small k
    have e : l.getD k 0 = l[k] := by simp [List.getD_eq_getElem?_getD, show k < l.length by omega]
    have := G.len
    unfold sumZ at *
    rw [List.take_succ_eq_append_getElem (by omega), List.foldl_append, ih]
    simp only [List.foldl_cons, List.foldl_nil, psum]
    unfold addZ
    rw [← e]
    omega
theorem sumZ_psum {l : List Int} (G : GoodW l) : sumZ l = psum l l.length := by
  have := sum_psum G l.length (Nat.le_refl _)
  rwa [List.take_of_length_le (Nat.le_refl _)] at this
def rsum (l : List Int) : Nat → Int
  | 0 => 0
  | k + 1 => rsum l k + restT l k
theorem restT_bd {l : List Int} (G : GoodW l) (i : Nat) : 0 ≤ restT l i ∧ restT l i < sumZ l := by
  have := G.sum
  exact ⟨Int.emod_nonneg _ (by omega), Int.emod_lt_of_pos _ (by omega)⟩
theorem baseT_bd {l : List Int} (G : GoodW l) (i : Nat) : -67108864 ≤ baseT l i ∧ baseT l i ≤ 67108864 := by
  have h1 := G.sum
  have h2 := G.small i
  unfold baseT
  constructor
  · rw [Int.le_ediv_iff_mul_le (by omega)]; omega
  · apply Int.le_of_lt_add_one
    rw [Int.ediv_lt_iff_lt_mul (by omega)]; omega
theorem leftK_bd {l : List Int} (G : GoodW l) : ∀ k : Nat, 16384 - (k * 67108864 : Int) ≤ leftK l k ∧ leftK l k ≤ 16384 + k * 67108864
  | 0 => by simp [leftK]
  | k + 1 => by
    have := leftK_bd G k
    have h2 := baseT_bd G k
    simp only [leftK]
    omega
theorem rsum_bd {l : List Int} (G : GoodW l) : ∀ k : Nat, 0 ≤ rsum l k ∧ rsum l k + k ≤ k * sumZ l
  | 0 => by simp [rsum]
  | k + 1 => by
    have := rsum_bd G k
    have h2 := restT_bd G k
    simp only [rsum]
    rw [show ((k + 1 : Nat) : Int) = (k : Int) + 1 from rfl, Int.add_mul, Int.one_mul]
    omega
theorem left_sum {l : List Int} (G : GoodW l) : ∀ k, leftK l k * sumZ l + psum l k * 16384 = 16384 * sumZ l + rsum l k
  | 0 => by simp [leftK, psum, rsum]
  | k + 1 => by
    have ih := left_sum G k
    have hd : sumZ l * baseT l k + restT l k = l.getD k 0 * 16384 := Int.mul_ediv_add_emod _ _
    simp only [leftK, psum, rsum]
    rw [Int.sub_mul, Int.add_mul, Int.mul_comm (baseT l k)]
    omega
theorem left_bd {l : List Int} (G : GoodW l) : 0 ≤ leftT l ∧ leftT l < l.length := by
  have h := left_sum G l.length
  rw [← sumZ_psum G] at h
  have hr := rsum_bd G l.length
  have hs := G.sum
  have hp := G.pos
  have e : leftT l * sumZ l = rsum l l.length := by unfold leftT; omega
  constructor
  · rcases Int.lt_or_le (leftT l) 0 with h1 | h1
    · have : leftT l * sumZ l ≤ (-1) * sumZ l := Int.mul_le_mul_of_nonneg_right (by omega) (by omega)
      omega
    · exact h1
  · rcases Int.lt_or_le (leftT l) l.length with h1 | h1
    · exact h1
    · have : (l.length : Int) * sumZ l ≤ leftT l * sumZ l := Int.mul_le_mul_of_nonneg_right h1 (by omega)
      omega
theorem tapsOf_len (l : List Int) : (tapsOf l).length = l.length := by simp [tapsOf]
theorem tapsOf_bd {l : List Int} (G : GoodW l) : ∀ x ∈ tapsOf l, -67108864 ≤ x ∧ x ≤ 67108865 := by
  intro x hx
  unfold tapsOf at hx
  obtain ⟨i, _, rfl⟩ := List.mem_map.1 hx
  have := baseT_bd G i
  split <;> omega

/-- A row that is made by its places. -/
theorem set_range_map {β : Type} (g : Nat → β) (n i : Nat) (x : β) (h : i < n) : ((List.range n).map g).set i x = (List.range n).map fun j => if j = i then x else g j := by
  apply List.ext_getElem
  · simp
  · intro k h1 h2
    simp at h1 h2
    rw [List.getElem_set]
    simp
    by_cases hk : i = k
    · subst hk; simp
    · rw [if_neg hk, if_neg (Ne.symm hk)]
theorem map_range_congr {β : Type} {g f : Nat → β} {n : Nat} (h : ∀ i, i < n → g i = f i) : (List.range n).map g = (List.range n).map f := by
  apply List.map_congr_left
  intro i hi
  exact h i (List.mem_range.1 hi)
end Go.Crisp
