/- How bits.Mul64 and Add64 lie in the program (written by a program of this session, lay.py). Conditions: none. -/
import Derived.Test.YtefdokfnnokagaaGreatDoorEb
import Derived.Test.YtefdokfnnokagaaGreatDoorProg
import Derived.Shelf.Bits.Mul64
import Derived.Shelf.Spec.BitsCarry
import Derived.Shelf.Strconv.Itoa0
set_option linter.unusedVariables false
set_option maxRecDepth 100000
namespace Go.Proofs.YtefdokfnnokagaaGreatDoor
open Go Go.Crisp
def ren_lay_Mul64 : Go.Shelf.Ren := ⟨fun n => match n with | 264 => 99 | n => n, fun n => match n with | 46 => 107 | 53 => 80 | n => n, fun n => n⟩
theorem lay_Mul64 : Go.Proofs.Lays.n264 Tryz.prog ren_lay_Mul64 where
  mixed := by kernel_rfl
  f264 := by kernel_rfl
  t46 := by kernel_rfl
  a46 := fun w => run_isAgg' (by kernel_rfl)
  z46 := fun w => run_sizeOf' (by kernel_rfl)
  v46 := fun w => run_zeroValue' (by kernel_rfl)
  t53 := by kernel_rfl
  a53 := fun w => run_isAgg' (by kernel_rfl)
  z53 := fun w => run_sizeOf' (by kernel_rfl)
  v53 := fun w => run_zeroValue' (by kernel_rfl)

def ren_lay_Len64 : Go.Shelf.Ren := ⟨fun n => match n with | 129 => 59 | n => n, fun n => match n with | 3 => 3 | 4 => 4 | 5 => 5 | 9 => 9 | 46 => 107 | 53 => 80 | n => n, fun n => n⟩
theorem lay_Len64 : Go.Proofs.Lays.n129 Tryz.prog ren_lay_Len64 where
  mixed := by kernel_rfl
  f129 := by kernel_rfl
  t3 := by kernel_rfl
  a3 := fun w => run_isAgg' (by kernel_rfl)
  z3 := fun w => run_sizeOf' (by kernel_rfl)
  v3 := fun w => run_zeroValue' (by kernel_rfl)
  t4 := by kernel_rfl
  a4 := fun w => run_isAgg' (by kernel_rfl)
  z4 := fun w => run_sizeOf' (by kernel_rfl)
  v4 := fun w => run_zeroValue' (by kernel_rfl)
  t5 := by kernel_rfl
  a5 := fun w => run_isAgg' (by kernel_rfl)
  z5 := fun w => run_sizeOf' (by kernel_rfl)
  v5 := fun w => run_zeroValue' (by kernel_rfl)
  t9 := by kernel_rfl
  a9 := fun w => run_isAgg' (by kernel_rfl)
  z9 := fun w => run_sizeOf' (by kernel_rfl)
  v9 := fun w => run_zeroValue' (by kernel_rfl)
  t46 := by kernel_rfl
  a46 := fun w => run_isAgg' (by kernel_rfl)
  z46 := fun w => run_sizeOf' (by kernel_rfl)
  v46 := fun w => run_zeroValue' (by kernel_rfl)
  t53 := by kernel_rfl
  a53 := fun w => run_isAgg' (by kernel_rfl)
  z53 := fun w => run_sizeOf' (by kernel_rfl)
  v53 := fun w => run_zeroValue' (by kernel_rfl)

def ren_lay_Add64 : Go.Shelf.Ren := ⟨fun n => match n with | 25 => 85 | n => n, fun n => match n with | 22 => 80 | n => n, fun n => n⟩
theorem lay_Add64 : Go.Proofs.Lays7.n25 Tryz.prog ren_lay_Add64 where
  mixed := by kernel_rfl
  f25 := by kernel_rfl
  t22 := by kernel_rfl
  a22 := fun w => run_isAgg' (by kernel_rfl)
  z22 := fun w => run_sizeOf' (by kernel_rfl)
  v22 := fun w => run_zeroValue' (by kernel_rfl)
  i22 := by kernel_rfl

end Go.Proofs.YtefdokfnnokagaaGreatDoor
