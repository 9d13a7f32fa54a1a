/- The row of RecipeSigns: the given statement, out of what the function is shown to do. Conditions: none (the row lists variables; the card ties them). -/
import Derived.Test.YtodmlimajnbmkaaDoorRows
import Derived.Test.YtodmlimajnbmkaaDoorCards
import Derived.Test.YtodmlimajnbmkaaDoorTie
import Derived.SevenTiedAt
import Derived.Test.YtodmlimajnbmkaaDoorSd
import Derived.Test.YtodmlimajnbmkaaDoorRd
namespace Go.Proofs.YtodmlimajnbmkaaDoor
open Go Go.Crisp
set_option maxRecDepth 100000

theorem recipeSigns_door (os : Os) (args : Array Value) : laidMetH Tryd.prog Rows.recipeSignsRow.laid ((World.doorLaid Tryd.prog 400 os).forCall (fun _ _ => 0) ⟨#[], args, []⟩).memory :=
  laidMetH_of_parts3 (fuel := 8) (laidMet_of_run' 8 (by kernel_rfl) (by kernel_rfl)) (by kernel_rfl) (by kernel_rfl)

theorem recipeSigns_lifted (os : Os) (started : os.Started) (H : Type) (enc : TypeId × Value → H) :
    ReturnsInHanded {} Tryd.checked os 3 .any (fun w args => (Rows.recipeSignsSpec.pre enc Tryd.prog Tryd.f3 Rows.recipeSignsRow.domain false w args ∧ laidMetH Tryd.prog Rows.recipeSignsRow.laid w) ∧ sizedMet enc Tryd.prog Tryd.f3 (OpenSpec.ofChange Rows.recipeSignsSpec) false w args) (Rows.recipeSignsSpec.post enc Tryd.prog Tryd.f3 false true false false) :=
  row_laid (C := Tryd.checked) (ts := [(.int .i64)]) (rt := 4) (L := Rows.recipeSignsRow.laid) (by kernel_rfl) started (by kernel_rfl) Tryd.func3 (by kernel_rfl) rfl (by kernel_rfl) (by kernel_rfl) (by kernel_rfl) (by kernel_rfl)
    (fun ds hl => by
      match ds, hl with
      | [_], _ => rfl)
    (ChangeSpec.witness_shaped (enc := enc) (C := Tryd.checked) (os := os) (X := fun w _ => laidMetH Tryd.prog Rows.recipeSignsRow.laid w) false (World.doorLaid Tryd.prog 400 os) #[.int .i64 0] 8 rfl (World.shaped_of_RefB (by kernel_rfl) (by kernel_rfl)) (by kernel_rfl) (by kernel_rfl) (by kernel_rfl) (recipeSigns_door os _))
    (r_RecipeSigns ⟨by kernel_rfl, .tail _ (.tail _ (.tail _ (.head _))), .tail _ (.tail _ (.tail _ (.tail _ (.head _)))), .tail _ (.tail _ (.head _))⟩)

/-- RecipeSigns: the bare row. -/
theorem recipeSigns_holds : Rows.RecipeSignsSaid :=
  OpenClaim.holds_of_wide 3 Tryd.f3 rfl rfl rfl rfl rfl rfl rfl ⟨rfl, rfl, rfl, rfl, rfl⟩ rfl rfl rfl rfl rfl (by kernel_rfl) Tryd.func3 (by kernel_rfl)
    (of_decide_eq_true (by kernel_rfl)) (by unfold Func.isWrapper; first | (rw [if_pos (by decide +kernel)]; kernel_rfl) | (rw [if_neg (by decide +kernel)]; exact ⟨rfl, rfl⟩))
    (fun os started H enc _ => recipeSigns_lifted os started H enc)

/-- RecipeSigns: the card, as given. -/
theorem recipeSigns_card_holds : Rows.RecipeSignsCardSaid :=
  Claim7.holds_tied_plain_at .later [] [.data, .data, .data, .widerDeep, .data] true (true, "5d68761b6376da9862a75e97a0c74c63e1e1f5f1009983dcf31a27386006c5e0") true
    recipeSigns_holds (fun _ h => by cases h) (by kernel_rfl) (fun _ h => by cases h) recipeSigns_row_tie rfl ⟨rfl, rfl⟩ (by kernel_rfl) rfl
    (fun f fn hf hfn => by
      obtain rfl : f = 3 := Option.some.inj ((show Tryd.prog.funcNamed "smalto/smaltolaw13.RecipeSigns" = some 3 by kernel_rfl).symm.trans hf) |>.symm
      obtain rfl : fn = Tryd.f3 := (Option.some.inj (Tryd.func3.symm.trans hfn)).symm
      exact ⟨by kernel_rfl, fun j t ht => by
        have hm : t ∈ [3] := by simpa [show Tryd.f3.params = #[3] from rfl] using Array.mem_of_getElem? ht
        have hall : ([3].all fun u => !Tryd.prog.wantsStandIn u) = true := by kernel_rfl
        exact (show Tryd.prog.wantsStandIn t = false by simpa using List.all_eq_true.1 hall t hm)⟩)
    (by kernel_rfl)
#print axioms recipeSigns_card_holds
end Go.Proofs.YtodmlimajnbmkaaDoor
