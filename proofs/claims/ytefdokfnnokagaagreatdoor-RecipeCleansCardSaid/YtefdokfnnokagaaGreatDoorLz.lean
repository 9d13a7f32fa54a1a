/- How the library's functions FormatInt, Itoa and Join lie in the program (written by a program of this session, lay.py). Conditions: none. -/
import Derived.Test.YtefdokfnnokagaaGreatDoorEb
import Derived.Test.YtefdokfnnokagaaGreatDoorProg
import Derived.Shelf.Strconv.Itoa4
import Derived.Shelf.Strconv.Itoa3
import Derived.Shelf.Strings.OnBuilder
set_option linter.unusedVariables false
set_option maxRecDepth 100000
namespace Go.Proofs.YtefdokfnnokagaaGreatDoor
open Go Go.Crisp
def ren_lay_FormatInt : Go.Shelf.Ren := ⟨fun n => match n with | 129 => 59 | 173 => 22 | 246 => 28 | 283 => 38 | 284 => 39 | 285 => 40 | 286 => 41 | 317 => 58 | 318 => 60 | 319 => 61 | 320 => 62 | 337 => 86 | 338 => 87 | n => n, fun n => match n with | 0 => 0 | 2 => 2 | 3 => 3 | 4 => 4 | 5 => 5 | 9 => 9 | 20 => 20 | 37 => 83 | 46 => 107 | 51 => 113 | 53 => 80 | 171 => 79 | 173 => 84 | 212 => 112 | 213 => 114 | 232 => 144 | 233 => 145 | n => n, fun n => match n with | 17 => 2 | 18 => 5 | 19 => 6 | n => n⟩
theorem lay_FormatInt : Go.Proofs.LaysM.n173 Tryz.prog ren_lay_FormatInt where
  mixed := by kernel_rfl
  f129 := by kernel_rfl
  f173 := by kernel_rfl
  f246 := by kernel_rfl
  f283 := by kernel_rfl
  f284 := by kernel_rfl
  f285 := by kernel_rfl
  f286 := by kernel_rfl
  f317 := by kernel_rfl
  f318 := by kernel_rfl
  f319 := by kernel_rfl
  f320 := by kernel_rfl
  f337 := by kernel_rfl
  f338 := by kernel_rfl
  t0 := by kernel_rfl
  a0 := fun w => run_isAgg' (by kernel_rfl)
  z0 := fun w => run_sizeOf' (by kernel_rfl)
  v0 := fun w => run_zeroValue' (by kernel_rfl)
  t2 := by kernel_rfl
  a2 := fun w => run_isAgg' (by kernel_rfl)
  z2 := fun w => run_sizeOf' (by kernel_rfl)
  v2 := fun w => run_zeroValue' (by kernel_rfl)
  t3 := by kernel_rfl
  a3 := fun w => run_isAgg' (by kernel_rfl)
  z3 := fun w => run_sizeOf' (by kernel_rfl)
  v3 := fun w => run_zeroValue' (by kernel_rfl)
  t4 := by kernel_rfl
  a4 := fun w => run_isAgg' (by kernel_rfl)
  z4 := fun w => run_sizeOf' (by kernel_rfl)
  v4 := fun w => run_zeroValue' (by kernel_rfl)
  t5 := by kernel_rfl
  a5 := fun w => run_isAgg' (by kernel_rfl)
  z5 := fun w => run_sizeOf' (by kernel_rfl)
  v5 := fun w => run_zeroValue' (by kernel_rfl)
  t9 := by kernel_rfl
  a9 := fun w => run_isAgg' (by kernel_rfl)
  z9 := fun w => run_sizeOf' (by kernel_rfl)
  v9 := fun w => run_zeroValue' (by kernel_rfl)
  t20 := by kernel_rfl
  a20 := fun w => run_isAgg' (by kernel_rfl)
  z20 := fun w => run_sizeOf' (by kernel_rfl)
  v20 := fun w => run_zeroValue' (by kernel_rfl)
  t37 := by kernel_rfl
  a37 := fun w => run_isAgg' (by kernel_rfl)
  z37 := fun w => run_sizeOf' (by kernel_rfl)
  v37 := fun w => run_zeroValue' (by kernel_rfl)
  t46 := by kernel_rfl
  a46 := fun w => run_isAgg' (by kernel_rfl)
  z46 := fun w => run_sizeOf' (by kernel_rfl)
  v46 := fun w => run_zeroValue' (by kernel_rfl)
  t51 := by kernel_rfl
  a51 := fun w => run_isAgg' (by kernel_rfl)
  z51 := fun w => run_sizeOf' (by kernel_rfl)
  v51 := fun w => run_zeroValue' (by kernel_rfl)
  t53 := by kernel_rfl
  a53 := fun w => run_isAgg' (by kernel_rfl)
  z53 := fun w => run_sizeOf' (by kernel_rfl)
  v53 := fun w => run_zeroValue' (by kernel_rfl)
  t171 := by kernel_rfl
  a171 := fun w => run_isAgg' (by kernel_rfl)
  z171 := fun w => run_sizeOf' (by kernel_rfl)
  v171 := fun w => run_zeroValue' (by kernel_rfl)
  t173 := by kernel_rfl
  a173 := fun w => run_isAgg' (by kernel_rfl)
  z173 := fun w => run_sizeOf' (by kernel_rfl)
  v173 := fun w => run_zeroValue' (by kernel_rfl)
  t212 := by kernel_rfl
  a212 := fun w => run_isAgg' (by kernel_rfl)
  z212 := fun w => run_sizeOf' (by kernel_rfl)
  v212 := fun w => run_zeroValue' (by kernel_rfl)
  t213 := by kernel_rfl
  a213 := fun w => run_isAgg' (by kernel_rfl)
  z213 := fun w => run_sizeOf' (by kernel_rfl)
  t232 := by kernel_rfl
  a232 := fun w => run_isAgg' (by kernel_rfl)
  z232 := fun w => run_sizeOf' (by kernel_rfl)
  v232 := fun w => run_zeroValue' (by kernel_rfl)
  t233 := by kernel_rfl
  a233 := fun w => run_isAgg' (by kernel_rfl)
  z233 := fun w => run_sizeOf' (by kernel_rfl)
  v233 := fun w => run_zeroValue' (by kernel_rfl)
  g17 := by kernel_rfl
  g18 := by kernel_rfl
  g19 := by kernel_rfl
  i0 := by kernel_rfl
  i2 := by kernel_rfl
  i3 := by kernel_rfl
  i4 := by kernel_rfl
  i5 := by kernel_rfl
  i9 := by kernel_rfl
  i20 := by kernel_rfl
  i37 := by kernel_rfl
  i46 := by kernel_rfl
  i51 := by kernel_rfl
  i53 := by kernel_rfl
  i171 := by kernel_rfl
  i173 := by kernel_rfl
  i212 := by kernel_rfl
  i232 := by kernel_rfl
  i233 := by kernel_rfl
  m17 := by kernel_rfl
  m18 := by kernel_rfl
  m19 := by kernel_rfl

def ren_lay_Itoa : Go.Shelf.Ren := ⟨fun n => match n with | 129 => 59 | 171 => 23 | 243 => 29 | 246 => 28 | 283 => 38 | 284 => 39 | 285 => 40 | 286 => 41 | 317 => 58 | 318 => 60 | 319 => 61 | 320 => 62 | 337 => 86 | 338 => 87 | n => n, fun n => match n with | 0 => 0 | 2 => 2 | 3 => 3 | 4 => 4 | 5 => 5 | 9 => 9 | 20 => 20 | 37 => 83 | 46 => 107 | 51 => 113 | 53 => 80 | 171 => 79 | 173 => 84 | 212 => 112 | 213 => 114 | 232 => 144 | 233 => 145 | n => n, fun n => match n with | 17 => 2 | 18 => 5 | 19 => 6 | n => n⟩
theorem lay_Itoa : Go.Proofs.LaysM.n171 Tryz.prog ren_lay_Itoa where
  mixed := by kernel_rfl
  f129 := by kernel_rfl
  f171 := by kernel_rfl
  f243 := by kernel_rfl
  f246 := by kernel_rfl
  f283 := by kernel_rfl
  f284 := by kernel_rfl
  f285 := by kernel_rfl
  f286 := by kernel_rfl
  f317 := by kernel_rfl
  f318 := by kernel_rfl
  f319 := by kernel_rfl
  f320 := by kernel_rfl
  f337 := by kernel_rfl
  f338 := by kernel_rfl
  t0 := by kernel_rfl
  a0 := fun w => run_isAgg' (by kernel_rfl)
  z0 := fun w => run_sizeOf' (by kernel_rfl)
  v0 := fun w => run_zeroValue' (by kernel_rfl)
  t2 := by kernel_rfl
  a2 := fun w => run_isAgg' (by kernel_rfl)
  z2 := fun w => run_sizeOf' (by kernel_rfl)
  v2 := fun w => run_zeroValue' (by kernel_rfl)
  t3 := by kernel_rfl
  a3 := fun w => run_isAgg' (by kernel_rfl)
  z3 := fun w => run_sizeOf' (by kernel_rfl)
  v3 := fun w => run_zeroValue' (by kernel_rfl)
  t4 := by kernel_rfl
  a4 := fun w => run_isAgg' (by kernel_rfl)
  z4 := fun w => run_sizeOf' (by kernel_rfl)
  v4 := fun w => run_zeroValue' (by kernel_rfl)
  t5 := by kernel_rfl
  a5 := fun w => run_isAgg' (by kernel_rfl)
  z5 := fun w => run_sizeOf' (by kernel_rfl)
  v5 := fun w => run_zeroValue' (by kernel_rfl)
  t9 := by kernel_rfl
  a9 := fun w => run_isAgg' (by kernel_rfl)
  z9 := fun w => run_sizeOf' (by kernel_rfl)
  v9 := fun w => run_zeroValue' (by kernel_rfl)
  t20 := by kernel_rfl
  a20 := fun w => run_isAgg' (by kernel_rfl)
  z20 := fun w => run_sizeOf' (by kernel_rfl)
  v20 := fun w => run_zeroValue' (by kernel_rfl)
  t37 := by kernel_rfl
  a37 := fun w => run_isAgg' (by kernel_rfl)
  z37 := fun w => run_sizeOf' (by kernel_rfl)
  v37 := fun w => run_zeroValue' (by kernel_rfl)
  t46 := by kernel_rfl
  a46 := fun w => run_isAgg' (by kernel_rfl)
  z46 := fun w => run_sizeOf' (by kernel_rfl)
  v46 := fun w => run_zeroValue' (by kernel_rfl)
  t51 := by kernel_rfl
  a51 := fun w => run_isAgg' (by kernel_rfl)
  z51 := fun w => run_sizeOf' (by kernel_rfl)
  v51 := fun w => run_zeroValue' (by kernel_rfl)
  t53 := by kernel_rfl
  a53 := fun w => run_isAgg' (by kernel_rfl)
  z53 := fun w => run_sizeOf' (by kernel_rfl)
  v53 := fun w => run_zeroValue' (by kernel_rfl)
  t171 := by kernel_rfl
  a171 := fun w => run_isAgg' (by kernel_rfl)
  z171 := fun w => run_sizeOf' (by kernel_rfl)
  v171 := fun w => run_zeroValue' (by kernel_rfl)
  t173 := by kernel_rfl
  a173 := fun w => run_isAgg' (by kernel_rfl)
  z173 := fun w => run_sizeOf' (by kernel_rfl)
  v173 := fun w => run_zeroValue' (by kernel_rfl)
  t212 := by kernel_rfl
  a212 := fun w => run_isAgg' (by kernel_rfl)
  z212 := fun w => run_sizeOf' (by kernel_rfl)
  v212 := fun w => run_zeroValue' (by kernel_rfl)
  t213 := by kernel_rfl
  a213 := fun w => run_isAgg' (by kernel_rfl)
  z213 := fun w => run_sizeOf' (by kernel_rfl)
  t232 := by kernel_rfl
  a232 := fun w => run_isAgg' (by kernel_rfl)
  z232 := fun w => run_sizeOf' (by kernel_rfl)
  v232 := fun w => run_zeroValue' (by kernel_rfl)
  t233 := by kernel_rfl
  a233 := fun w => run_isAgg' (by kernel_rfl)
  z233 := fun w => run_sizeOf' (by kernel_rfl)
  v233 := fun w => run_zeroValue' (by kernel_rfl)
  g17 := by kernel_rfl
  g18 := by kernel_rfl
  g19 := by kernel_rfl
  i0 := by kernel_rfl
  i2 := by kernel_rfl
  i3 := by kernel_rfl
  i4 := by kernel_rfl
  i5 := by kernel_rfl
  i9 := by kernel_rfl
  i20 := by kernel_rfl
  i37 := by kernel_rfl
  i46 := by kernel_rfl
  i51 := by kernel_rfl
  i53 := by kernel_rfl
  i171 := by kernel_rfl
  i173 := by kernel_rfl
  i212 := by kernel_rfl
  i232 := by kernel_rfl
  i233 := by kernel_rfl
  m17 := by kernel_rfl
  m18 := by kernel_rfl
  m19 := by kernel_rfl

def ren_lay_Join : Go.Shelf.Ren := ⟨fun n => match n with | 156 => 30 | 165 => 42 | 166 => 43 | 169 => 44 | 240 => 63 | 241 => 64 | 276 => 88 | 277 => 89 | n => n, fun n => match n with | 0 => 0 | 3 => 3 | 4 => 4 | 5 => 5 | 9 => 9 | 20 => 20 | 31 => 67 | 37 => 83 | 70 => 86 | 72 => 88 | 75 => 91 | 76 => 92 | 80 => 94 | 127 => 116 | 164 => 133 | n => n, fun n => n⟩
theorem lay_Join : Go.Proofs.Lays.n156 Tryz.prog ren_lay_Join where
  mixed := by kernel_rfl
  f156 := by kernel_rfl
  f165 := by kernel_rfl
  f166 := by kernel_rfl
  f169 := by kernel_rfl
  f240 := by kernel_rfl
  f241 := by kernel_rfl
  f276 := by kernel_rfl
  f277 := by kernel_rfl
  t0 := by kernel_rfl
  a0 := fun w => run_isAgg' (by kernel_rfl)
  z0 := fun w => run_sizeOf' (by kernel_rfl)
  v0 := fun w => run_zeroValue' (by kernel_rfl)
  t3 := by kernel_rfl
  a3 := fun w => run_isAgg' (by kernel_rfl)
  z3 := fun w => run_sizeOf' (by kernel_rfl)
  v3 := fun w => run_zeroValue' (by kernel_rfl)
  t4 := by kernel_rfl
  a4 := fun w => run_isAgg' (by kernel_rfl)
  z4 := fun w => run_sizeOf' (by kernel_rfl)
  v4 := fun w => run_zeroValue' (by kernel_rfl)
  t9 := by kernel_rfl
  a9 := fun w => run_isAgg' (by kernel_rfl)
  z9 := fun w => run_sizeOf' (by kernel_rfl)
  v9 := fun w => run_zeroValue' (by kernel_rfl)
  t20 := by kernel_rfl
  a20 := fun w => run_isAgg' (by kernel_rfl)
  z20 := fun w => run_sizeOf' (by kernel_rfl)
  v20 := fun w => run_zeroValue' (by kernel_rfl)
  t31 := by kernel_rfl
  a31 := fun w => run_isAgg' (by kernel_rfl)
  z31 := fun w => run_sizeOf' (by kernel_rfl)
  v31 := fun w => run_zeroValue' (by kernel_rfl)
  t37 := by kernel_rfl
  a37 := fun w => run_isAgg' (by kernel_rfl)
  z37 := fun w => run_sizeOf' (by kernel_rfl)
  v37 := fun w => run_zeroValue' (by kernel_rfl)
  t70 := by kernel_rfl
  a70 := fun w => run_isAgg' (by kernel_rfl)
  z70 := fun w => run_sizeOf' (by kernel_rfl)
  v70 := fun w => run_zeroValue' (by kernel_rfl)
  t72 := by kernel_rfl
  a72 := fun w => run_isAgg' (by kernel_rfl)
  z72 := fun w => run_sizeOf' (by kernel_rfl)
  v72 := fun w => run_zeroValue' (by kernel_rfl)
  t75 := by kernel_rfl
  a75 := fun w => run_isAgg' (by kernel_rfl)
  z75 := fun w => run_sizeOf' (by kernel_rfl)
  v75 := fun w => run_zeroValue' (by kernel_rfl)
  t76 := by kernel_rfl
  a76 := fun w => run_isAgg' (by kernel_rfl)
  z76 := fun w => run_sizeOf' (by kernel_rfl)
  v76 := fun w => run_zeroValue' (by kernel_rfl)
  t127 := by kernel_rfl
  a127 := fun w => run_isAgg' (by kernel_rfl)
  z127 := fun w => run_sizeOf' (by kernel_rfl)
  v127 := fun w => run_zeroValue' (by kernel_rfl)
  t164 := by kernel_rfl
  a164 := fun w => run_isAgg' (by kernel_rfl)
  z164 := fun w => run_sizeOf' (by kernel_rfl)
  v164 := fun w => run_zeroValue' (by kernel_rfl)

theorem lay_JoinX : Builder.Extra Tryz.prog ren_lay_Join where
  sizeBuilder := by kernel_rfl
  liesBuilder := by kernel_rfl
  t5 := by kernel_rfl
  a5 := fun w => run_isAgg' (by kernel_rfl)
  z5 := fun w => run_sizeOf' (by kernel_rfl)
  v5 := fun w => run_zeroValue' (by kernel_rfl)
  infoByte := by kernel_rfl
  cellsByte := by kernel_rfl
  sizeByte := by kernel_rfl
  neB5 := by decide
end Go.Proofs.YtefdokfnnokagaaGreatDoor
