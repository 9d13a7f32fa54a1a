/- The row of RecipeCleans: the given statement, out of what the function is shown to do. Conditions: none (the row lists variables; the card ties them). -/
import Derived.Test.YtefdokfnnokagaaGreatDoorRows
import Derived.Test.YtefdokfnnokagaaGreatDoorCards
import Derived.Test.YtefdokfnnokagaaGreatDoorTie
import Derived.SevenTiedAt
import Derived.Test.YtefdokfnnokagaaGreatDoorWa
import Derived.Test.YtefdokfnnokagaaGreatDoorRd
namespace Go.Proofs.YtefdokfnnokagaaGreatDoor
open Go Go.Crisp
set_option maxRecDepth 100000

theorem recipeCleans_door (os : Os) (args : Array Value) : laidMetH Tryz.prog Rows.recipeCleansRow.laid ((World.doorLaid Tryz.prog 400 os).forCall (fun _ _ => 0) ⟨#[], args, []⟩).memory :=
  laidMetH_of_parts3 (fuel := 8) (laidMet_of_run' 8 (by kernel_rfl) (by kernel_rfl)) (by kernel_rfl) (by kernel_rfl)

theorem recipeCleans_lifted (os : Os) (started : os.Started) (H : Type) (enc : TypeId × Value → H) :
    ReturnsInHanded {} Tryz.checked os 3 .any (fun w args => (Rows.recipeCleansSpec.pre enc Tryz.prog Tryz.f3 Rows.recipeCleansRow.domain false w args ∧ laidMetH Tryz.prog Rows.recipeCleansRow.laid w) ∧ sizedMet enc Tryz.prog Tryz.f3 (OpenSpec.ofChange Rows.recipeCleansSpec) false w args) (Rows.recipeCleansSpec.post enc Tryz.prog Tryz.f3 false true false false) :=
  row_laid (C := Tryz.checked) (ts := [(.st (.pair (.int .i64) (.pair (.int .i64) (.pair (.int .i64) (.pair (.int .i64) (.pair (.sl (.int .i64) 8) (.pair (.sl (.int .i64) 8) (.pair (.int .i64) (.pair (.int .i64) (.pair (.int .i64) .unit)))))))))), (.int .u8), (.int .u8)]) (rt := 4) (L := Rows.recipeCleansRow.laid) (by kernel_rfl) (by kernel_rfl) started (by kernel_rfl) Tryz.func3 (by kernel_rfl) rfl (by kernel_rfl) (by kernel_rfl) (by kernel_rfl) (by kernel_rfl)
    (fun ds hl => by
      match ds, hl with
      | [_, _, _], _ => rfl)
    (ChangeSpec.witness_shaped (enc := enc) (C := Tryz.checked) (os := os) (X := fun w _ => laidMetH Tryz.prog Rows.recipeCleansRow.laid w) false (World.doorLaid Tryz.prog 400 os) #[.agg #[.int .i64 0, .int .i64 0, .int .i64 0, .int .i64 0, .slice none 0 0, .slice none 0 0, .int .i64 0, .int .i64 0, .int .i64 0], .int .u8 0, .int .u8 0] 8 rfl (World.shaped_of_RefB (by kernel_rfl) (by kernel_rfl)) (by kernel_rfl) (by kernel_rfl) (by kernel_rfl) (recipeCleans_door os _))
    (r_RecipeCleans ⟨by kernel_rfl, .tail _ (.tail _ (.tail _ (.head _))), .tail _ (.tail _ (.tail _ (.tail _ (.head _)))), .tail _ (.tail _ (.head _))⟩)

/-- RecipeCleans: the bare row. -/
theorem recipeCleans_holds : Rows.RecipeCleansSaid :=
  OpenClaim.holds_of_wide 3 Tryz.f3 rfl rfl rfl rfl rfl rfl rfl ⟨rfl, rfl, rfl, rfl, rfl⟩ rfl rfl rfl rfl rfl (by kernel_rfl) Tryz.func3 (by kernel_rfl)
    (of_decide_eq_true (by kernel_rfl)) (by unfold Func.isWrapper; first | (rw [if_pos (by decide +kernel)]; kernel_rfl) | (rw [if_neg (by decide +kernel)]; exact ⟨rfl, rfl⟩))
    (fun os started H enc _ => recipeCleans_lifted os started H enc)

/-- RecipeCleans: the card, as given. -/
theorem recipeCleans_card_holds : Rows.RecipeCleansCardSaid :=
  Claim7.holds_tied_plain_at .later [] [.data, .data, .data, .widerDeep, .data] true (true, "6ab62efc6e3cd54b504996a0bfba106f1ce3cfd464c1561073c4b0280162357b") false
    recipeCleans_holds (fun _ h => by cases h) (by kernel_rfl) (fun _ h => by cases h) recipeCleans_row_tie rfl ⟨rfl, rfl⟩ (by kernel_rfl) rfl
    (fun f fn hf hfn => by
      obtain rfl : f = 3 := Option.some.inj ((show Tryz.prog.funcNamed "smalto/smaltolaw13.RecipeCleans" = some 3 by kernel_rfl).symm.trans hf) |>.symm
      obtain rfl : fn = Tryz.f3 := (Option.some.inj (Tryz.func3.symm.trans hfn)).symm
      exact ⟨by kernel_rfl, fun j t ht => by
        have hm : t ∈ [27, 5, 5] := by simpa [show Tryz.f3.params = #[27, 5, 5] from rfl] using Array.mem_of_getElem? ht
        have hall : ([27, 5, 5].all fun u => !Tryz.prog.wantsStandIn u) = true := by kernel_rfl
        exact (show Tryz.prog.wantsStandIn t = false by simpa using List.all_eq_true.1 hall t hm)⟩)
    (by kernel_rfl)
#print axioms recipeCleans_card_holds
end Go.Proofs.YtefdokfnnokagaaGreatDoor
