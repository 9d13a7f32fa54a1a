/- The names of borders and of filters. Conditions: none. -/
import Derived.Test.YtefdokfnnokagaaGreatDoorGa
import Derived.Test.YtefdokfnnokagaaGreatDoorGs
import Derived.Test.YtefdokfnnokagaaGreatDoorEs
set_option linter.unusedVariables false
set_option linter.unusedSimpArgs false
set_option maxRecDepth 10000
namespace Go.Proofs.YtefdokfnnokagaaGreatDoor
open Go Go.Crisp
attribute [local irreducible] FCall rowK newK stK iteK vK qK drawK gK joinK loopK mkK appK cpyK
def bName (b : Int) : List UInt8 := if b = 0 then [99, 108, 97, 109, 112] else if b = 1 then [109, 105, 114, 114, 111, 114] else if b = 2 then [119, 114, 97, 112] else []
def fName (b : Int) : List UInt8 := if b = 0 then [98, 111, 120] else if b = 1 then [99, 117, 98, 105, 99] else if b = 2 then [108, 97, 110, 99, 122, 111, 115] else []
theorem c_borderName {h : Heap} (G : GlobB h) {b : Int} :
    FCall Tryz.prog F_border_Name #[.int .i64 b] h fun r h' => r = S (bName b) ∧ h' = h := by
  apply ok_border_Name
  unfold sh_border_Name
  obtain ⟨v, hv, H⟩ := G.names
  obtain ⟨a, cap, rfl⟩ := H.isSl
  simp only [go_sem, hv]
  refine iteK_dec (fun h1 => ?_) (fun h1 => ?_)
  · refine ⟨?_, trivial⟩
    unfold bName
    rw [if_neg (by omega), if_neg (by omega), if_neg (by omega)]
  · obtain ⟨n, rfl⟩ : ∃ n : Nat, b = (n : Int) := ⟨b.toNat, by omega⟩
    obtain ⟨p, hp, hl⟩ := H.at1 (k := .i64) (i := n) (by omega)
    simp only [go_sem, hp, hl]
    refine ⟨?_, trivial⟩
    have hn : n < 3 := by omega
    have key : ∀ (i : Nat) (hi : i < [Value.string (borderName 0), Value.string (borderName 1), Value.string (borderName 2)].length), [Value.string (borderName 0), Value.string (borderName 1), Value.string (borderName 2)][i] = S (bName (i : Int)) := fun i hi => by
      match i, hi with
      | 0, _ => rfl
      | 1, _ => rfl
      | 2, _ => rfl
    exact key n _
theorem c_rawName {h : Heap} (G : GlobB h) {b : Int} :
    FCall Tryz.prog F_raw_Name #[.int .i64 b] h fun r h' => r = S (fName b) ∧ h' = h := by
  apply ok_raw_Name
  unfold sh_raw_Name
  simp only [go_sem]
  refine iteK_dec (fun h1 => ?_) (fun h1 => ?_)
  · refine ⟨?_, trivial⟩
    unfold fName
    rw [if_neg (by omega), if_neg (by omega), if_neg (by omega)]
  · obtain ⟨n, rfl⟩ : ∃ n : Nat, b = (n : Int) := ⟨b.toNat, by omega⟩
    have hn : n < 3 := by omega
    have hk := (G.kinds n hn).1
    have e : idxaV 3 2 (.pointer (some ⟨G_raw_kinds, 0, none⟩)) (.int .i64 (n : Int)) = some (.pointer (some ⟨G_raw_kinds, 2 * n, none⟩)) := by
      show (if 0 ≤ (n : Int) ∧ (n : Int) < ((3 : Nat) : Int) then some (Value.pointer (some ((⟨G_raw_kinds, 0, none⟩ : Addr).add ((n : Int).toNat * 2)))) else none) = _
      rw [if_pos (by omega), add_lit, Int.toNat_natCast, Nat.zero_add, Nat.mul_comm]
    simp only [go_sem, e, Nat.add_zero, hk]
    refine ⟨?_, trivial⟩
    clear h1 hk e
    match n, hn with
    | 0, _ => rfl
    | 1, _ => rfl
    | 2, _ => rfl
end Go.Proofs.YtefdokfnnokagaaGreatDoor
