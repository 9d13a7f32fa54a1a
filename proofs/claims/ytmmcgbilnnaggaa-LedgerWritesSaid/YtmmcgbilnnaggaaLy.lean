/- How the library's functions over maps' keys, and the sort, lie in the program (written by a program of this session, lay.py). Conditions: none. -/
import Derived.Test.YtmmcgbilnnaggaaEb
import Derived.Test.YtmmcgbilnnaggaaProg
import Derived.Shelf.SlIterI.Sorted
import Derived.Shelf.Sort.Plain
set_option linter.unusedVariables false
set_option maxRecDepth 100000
namespace Go.Proofs.Ytmmcgbilnnaggaa
open Go Go.Crisp
def ren_lay_Collect64 : Go.Shelf.Ren := ⟨fun n => match n with | 8 => 65 | 11 => 76 | n => n, fun n => match n with | 0 => 0 | 24 => 51 | 26 => 2 | 28 => 101 | 33 => 91 | n => n, fun n => n⟩
theorem lay_Collect64 : Go.Proofs.SlLaysZI.n8 Try.prog ren_lay_Collect64 where
  mixed := by kernel_rfl
  f8 := ⟨"slices.Collect[int64]", by kernel_rfl, by kernel_rfl⟩
  f11 := ⟨"slices.AppendSeq[[]int64,int64]", by kernel_rfl, by kernel_rfl⟩
  t0 := by kernel_rfl
  a0 := fun w => run_isAgg' (by kernel_rfl)
  z0 := fun w => run_sizeOf' (by kernel_rfl)
  v0 := fun w => run_zeroValue' (by kernel_rfl)
  t24 := by kernel_rfl
  a24 := fun w => run_isAgg' (by kernel_rfl)
  z24 := fun w => run_sizeOf' (by kernel_rfl)
  v24 := fun w => run_zeroValue' (by kernel_rfl)
  t26 := by kernel_rfl
  a26 := fun w => run_isAgg' (by kernel_rfl)
  z26 := fun w => run_sizeOf' (by kernel_rfl)
  v26 := fun w => run_zeroValue' (by kernel_rfl)
  t28 := by kernel_rfl
  a28 := fun w => run_isAgg' (by kernel_rfl)
  z28 := fun w => run_sizeOf' (by kernel_rfl)
  v28 := fun w => run_zeroValue' (by kernel_rfl)
  i26 := by kernel_rfl

def ren_lay_Keys64 : Go.Shelf.Ren := ⟨fun n => match n with | 10 => 77 | n => n, fun n => match n with | 0 => 0 | 3 => 51 | 4 => 4 | 23 => 92 | 26 => 2 | 33 => 91 | n => n, fun n => n⟩
theorem lay_Keys64 : Go.Proofs.SlLaysZI.n10 Try.prog ren_lay_Keys64 where
  mixed := by kernel_rfl
  f10 := ⟨"maps.Keys[map[int64][]int64,int64,[]int64]$1", by kernel_rfl, by kernel_rfl⟩
  t0 := by kernel_rfl
  a0 := fun w => run_isAgg' (by kernel_rfl)
  z0 := fun w => run_sizeOf' (by kernel_rfl)
  v0 := fun w => run_zeroValue' (by kernel_rfl)
  t4 := by kernel_rfl
  a4 := fun w => run_isAgg' (by kernel_rfl)
  z4 := fun w => run_sizeOf' (by kernel_rfl)
  v4 := fun w => run_zeroValue' (by kernel_rfl)
  t23 := by kernel_rfl
  a23 := fun w => run_isAgg' (by kernel_rfl)
  z23 := fun w => run_sizeOf' (by kernel_rfl)
  v23 := fun w => run_zeroValue' (by kernel_rfl)
  t26 := by kernel_rfl
  a26 := fun w => run_isAgg' (by kernel_rfl)
  z26 := fun w => run_sizeOf' (by kernel_rfl)
  v26 := fun w => run_zeroValue' (by kernel_rfl)
  t33 := by kernel_rfl
  a33 := fun w => run_isAgg' (by kernel_rfl)
  z33 := fun w => run_sizeOf' (by kernel_rfl)
  v33 := fun w => run_zeroValue' (by kernel_rfl)

def ren_lay_Sorted : Go.Shelf.Ren := ⟨fun n => match n with | 6 => 74 | 8 => 78 | 9 => 79 | 11 => 81 | n => n, fun n => match n with | 0 => 0 | 24 => 22 | 26 => 3 | 28 => 116 | 33 => 107 | n => n, fun n => n⟩
theorem lay_Sorted : Go.Proofs.SlLaysZI.n6 Try.prog ren_lay_Sorted where
  mixed := by kernel_rfl
  f6 := ⟨"slices.Sorted[int]", by kernel_rfl, by kernel_rfl⟩
  f8 := ⟨"slices.Collect[int]", by kernel_rfl, by kernel_rfl⟩
  f11 := ⟨"slices.AppendSeq[[]int,int]", by kernel_rfl, by kernel_rfl⟩
  t0 := by kernel_rfl
  a0 := fun w => run_isAgg' (by kernel_rfl)
  z0 := fun w => run_sizeOf' (by kernel_rfl)
  v0 := fun w => run_zeroValue' (by kernel_rfl)
  t24 := by kernel_rfl
  a24 := fun w => run_isAgg' (by kernel_rfl)
  z24 := fun w => run_sizeOf' (by kernel_rfl)
  v24 := fun w => run_zeroValue' (by kernel_rfl)
  t26 := by kernel_rfl
  a26 := fun w => run_isAgg' (by kernel_rfl)
  z26 := fun w => run_sizeOf' (by kernel_rfl)
  v26 := fun w => run_zeroValue' (by kernel_rfl)
  t28 := by kernel_rfl
  a28 := fun w => run_isAgg' (by kernel_rfl)
  z28 := fun w => run_sizeOf' (by kernel_rfl)
  v28 := fun w => run_zeroValue' (by kernel_rfl)
  i26 := by kernel_rfl

def ren_lay_KeysB : Go.Shelf.Ren := ⟨fun n => match n with | 10 => 80 | n => n, fun n => match n with | 0 => 0 | 3 => 4 | 4 => 4 | 23 => 113 | 26 => 3 | 33 => 107 | n => n, fun n => n⟩
theorem lay_KeysB : Go.Proofs.SlLaysZI.n10 Try.prog ren_lay_KeysB where
  mixed := by kernel_rfl
  f10 := ⟨"maps.Keys[map[int]bool,int,bool]$1", by kernel_rfl, by kernel_rfl⟩
  t0 := by kernel_rfl
  a0 := fun w => run_isAgg' (by kernel_rfl)
  z0 := fun w => run_sizeOf' (by kernel_rfl)
  v0 := fun w => run_zeroValue' (by kernel_rfl)
  t4 := by kernel_rfl
  a4 := fun w => run_isAgg' (by kernel_rfl)
  z4 := fun w => run_sizeOf' (by kernel_rfl)
  v4 := fun w => run_zeroValue' (by kernel_rfl)
  t23 := by kernel_rfl
  a23 := fun w => run_isAgg' (by kernel_rfl)
  z23 := fun w => run_sizeOf' (by kernel_rfl)
  v23 := fun w => run_zeroValue' (by kernel_rfl)
  t26 := by kernel_rfl
  a26 := fun w => run_isAgg' (by kernel_rfl)
  z26 := fun w => run_sizeOf' (by kernel_rfl)
  v26 := fun w => run_zeroValue' (by kernel_rfl)
  t33 := by kernel_rfl
  a33 := fun w => run_isAgg' (by kernel_rfl)
  z33 := fun w => run_sizeOf' (by kernel_rfl)
  v33 := fun w => run_zeroValue' (by kernel_rfl)

def ren_lay_Sort : Go.Shelf.Ren := ⟨fun n => match n with | 125 => 83 | 128 => 93 | 129 => 94 | 189 => 79 | 215 => 100 | 216 => 90 | 257 => 82 | 294 => 84 | 295 => 85 | 296 => 86 | 297 => 87 | 298 => 88 | 299 => 89 | 300 => 91 | 301 => 92 | 328 => 95 | 329 => 96 | 330 => 97 | 331 => 98 | 332 => 99 | 343 => 101 | n => n, fun n => match n with | 0 => 0 | 3 => 3 | 4 => 4 | 5 => 5 | 9 => 9 | 28 => 22 | 46 => 123 | 51 => 133 | 53 => 135 | 131 => 130 | 182 => 125 | 183 => 126 | 218 => 136 | 222 => 140 | 228 => 142 | 229 => 143 | n => n, fun n => n⟩
theorem lay_Sort : Go.Proofs.Lays.n189 Try.prog ren_lay_Sort where
  mixed := by kernel_rfl
  f125 := by kernel_rfl
  f128 := by kernel_rfl
  f129 := by kernel_rfl
  f189 := by kernel_rfl
  f215 := by kernel_rfl
  f216 := by kernel_rfl
  f257 := by kernel_rfl
  f294 := by kernel_rfl
  f295 := by kernel_rfl
  f296 := by kernel_rfl
  f297 := by kernel_rfl
  f298 := by kernel_rfl
  f299 := by kernel_rfl
  f300 := by kernel_rfl
  f301 := by kernel_rfl
  f328 := by kernel_rfl
  f329 := by kernel_rfl
  f330 := by kernel_rfl
  f331 := by kernel_rfl
  f332 := by kernel_rfl
  f343 := by kernel_rfl
  t0 := by kernel_rfl
  a0 := fun w => run_isAgg' (by kernel_rfl)
  z0 := fun w => run_sizeOf' (by kernel_rfl)
  v0 := fun w => run_zeroValue' (by kernel_rfl)
  t3 := by kernel_rfl
  a3 := fun w => run_isAgg' (by kernel_rfl)
  z3 := fun w => run_sizeOf' (by kernel_rfl)
  v3 := fun w => run_zeroValue' (by kernel_rfl)
  t4 := by kernel_rfl
  a4 := fun w => run_isAgg' (by kernel_rfl)
  z4 := fun w => run_sizeOf' (by kernel_rfl)
  v4 := fun w => run_zeroValue' (by kernel_rfl)
  t5 := by kernel_rfl
  a5 := fun w => run_isAgg' (by kernel_rfl)
  z5 := fun w => run_sizeOf' (by kernel_rfl)
  v5 := fun w => run_zeroValue' (by kernel_rfl)
  t9 := by kernel_rfl
  a9 := fun w => run_isAgg' (by kernel_rfl)
  z9 := fun w => run_sizeOf' (by kernel_rfl)
  v9 := fun w => run_zeroValue' (by kernel_rfl)
  t28 := by kernel_rfl
  a28 := fun w => run_isAgg' (by kernel_rfl)
  z28 := fun w => run_sizeOf' (by kernel_rfl)
  v28 := fun w => run_zeroValue' (by kernel_rfl)
  t46 := by kernel_rfl
  a46 := fun w => run_isAgg' (by kernel_rfl)
  z46 := fun w => run_sizeOf' (by kernel_rfl)
  v46 := fun w => run_zeroValue' (by kernel_rfl)
  t51 := by kernel_rfl
  a51 := fun w => run_isAgg' (by kernel_rfl)
  z51 := fun w => run_sizeOf' (by kernel_rfl)
  v51 := fun w => run_zeroValue' (by kernel_rfl)
  t53 := by kernel_rfl
  a53 := fun w => run_isAgg' (by kernel_rfl)
  z53 := fun w => run_sizeOf' (by kernel_rfl)
  v53 := fun w => run_zeroValue' (by kernel_rfl)
  t131 := by kernel_rfl
  a131 := fun w => run_isAgg' (by kernel_rfl)
  z131 := fun w => run_sizeOf' (by kernel_rfl)
  v131 := fun w => run_zeroValue' (by kernel_rfl)
  t182 := by kernel_rfl
  a182 := fun w => run_isAgg' (by kernel_rfl)
  z182 := fun w => run_sizeOf' (by kernel_rfl)
  v182 := fun w => run_zeroValue' (by kernel_rfl)
  t183 := by kernel_rfl
  a183 := fun w => run_isAgg' (by kernel_rfl)
  z183 := fun w => run_sizeOf' (by kernel_rfl)
  v183 := fun w => run_zeroValue' (by kernel_rfl)
  t218 := by kernel_rfl
  a218 := fun w => run_isAgg' (by kernel_rfl)
  z218 := fun w => run_sizeOf' (by kernel_rfl)
  v218 := fun w => run_zeroValue' (by kernel_rfl)
  t222 := by kernel_rfl
  a222 := fun w => run_isAgg' (by kernel_rfl)
  z222 := fun w => run_sizeOf' (by kernel_rfl)
  v222 := fun w => run_zeroValue' (by kernel_rfl)
  t228 := by kernel_rfl
  a228 := fun w => run_isAgg' (by kernel_rfl)
  z228 := fun w => run_sizeOf' (by kernel_rfl)
  v228 := fun w => run_zeroValue' (by kernel_rfl)
  t229 := by kernel_rfl
  a229 := fun w => run_isAgg' (by kernel_rfl)
  z229 := fun w => run_sizeOf' (by kernel_rfl)
  v229 := fun w => run_zeroValue' (by kernel_rfl)

end Go.Proofs.Ytmmcgbilnnaggaa
