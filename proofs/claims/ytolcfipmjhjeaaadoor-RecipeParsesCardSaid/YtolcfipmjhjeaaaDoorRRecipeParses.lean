/- The row of RecipeParses: the given statement, out of what the function is shown to do. Conditions: none (the row lists variables; the card ties them). -/
import Derived.Test.YtolcfipmjhjeaaaDoorFRecipeParses
import Derived.Test.YtolcfipmjhjeaaaDoorRows
import Derived.Test.YtolcfipmjhjeaaaDoorCards
import Derived.Test.YtolcfipmjhjeaaaDoorTie
import Derived.SevenTiedAt
import Derived.Lay
import Derived.MakeChecks
import Derived.Test.YtolcfipmjhjeaaaDoorMp2
namespace Go.Proofs.YtolcfipmjhjeaaaDoor
open Go Go.Crisp
set_option maxRecDepth 100000

theorem recipeParses_door (os : Os) (args : Array Value) : laidMetH Tryd.prog Rows.recipeParsesRow.laid ((World.laidAll Tryd.prog os Rows.recipeParsesRow.laid).forCall (fun _ _ => 0) ⟨#[], args, []⟩).memory := by
  rw [MakeChecks.laidMetH_plain _ _ _ (by kernel_rfl)]
  exact laidMet_laidAll _ (by kernel_rfl) (by kernel_rfl)



theorem recipeParses_lifted (os : Os) (started : os.Started) (H : Type) (enc : TypeId × Value → H) :
    ReturnsInHanded {} Tryd.checked os 3 .any (fun w args => (Rows.recipeParsesSpec.pre enc Tryd.prog Tryd.f3 Rows.recipeParsesRow.domain false w args ∧ laidMetH Tryd.prog Rows.recipeParsesRow.laid w) ∧ sizedMet enc Tryd.prog Tryd.f3 (OpenSpec.ofChange Rows.recipeParsesSpec) false w args) (Rows.recipeParsesSpec.post enc Tryd.prog Tryd.f3 false true false false) :=
  row_shaped (C := Tryd.checked) (ts := [.str]) (rt := 4) (L := Rows.recipeParsesRow.laid) (by kernel_rfl) (by kernel_rfl) started (by kernel_rfl) Tryd.func3 (by kernel_rfl) rfl (by kernel_rfl) (by kernel_rfl) (by kernel_rfl) (by kernel_rfl)
    (fun ds hl => by
      match ds, hl with
      | [_], _ => rfl)
    (ChangeSpec.witness_shaped (enc := enc) (C := Tryd.checked) (os := os) (X := fun w _ => laidMetH Tryd.prog Rows.recipeParsesRow.laid w) false (World.laidAll Tryd.prog os Rows.recipeParsesRow.laid) #[.string ByteArray.empty] 8 (World.laidAll_os _ _ _) (World.shaped_of_ZipB (by kernel_rfl) (by kernel_rfl)) (by kernel_rfl) (by kernel_rfl) (by kernel_rfl) (recipeParses_door os _))
    (r_RecipeParses ⟨by kernel_rfl, .tail _ (.tail _ (.tail _ (.tail _ (.head _)))), .tail _ (.tail _ (.tail _ (.tail _ (.tail _ (.head _))))), .tail _ (.tail _ (.head _)), .tail _ (.tail _ (.tail _ (.head _))), .tail _ (.tail _ (.tail _ (.tail _ (.tail _ (.tail _ (.head _)))))), .tail _ (.tail _ (.tail _ (.tail _ (.tail _ (.tail _ (.tail _ (.head _))))))), .tail _ (.tail _ (.tail _ (.tail _ (.tail _ (.tail _ (.tail _ (.tail _ (.head _))))))))⟩)

/-- RecipeParses: the bare row. -/
theorem recipeParses_holds : Rows.RecipeParsesSaid :=
  OpenClaim.holds_of_wide 3 Tryd.f3 rfl rfl rfl rfl rfl rfl rfl ⟨rfl, rfl, rfl, rfl, rfl⟩ rfl rfl rfl rfl rfl (by kernel_rfl) Tryd.func3 recipeParses_closed
    (of_decide_eq_true (by kernel_rfl)) (by unfold Func.isWrapper; first | (rw [if_pos (by decide +kernel)]; kernel_rfl) | (rw [if_neg (by decide +kernel)]; exact ⟨rfl, rfl⟩))
    (fun os started H enc _ => recipeParses_lifted os started H enc)

/-- RecipeParses: the card, as given. -/
theorem recipeParses_card_holds : Rows.RecipeParsesCardSaid :=
  Claim7.holds_tied_plain_at .later [] [.data, .data, .data, .data, .widerDeep, .data, .sentinel, .sentinel, .pinned] true (true, "52973d543ea31dfffea19cb867a7d36dae158064467c4bfeb4ae5c5e0bcde1f1") true
    recipeParses_holds (fun _ h => by cases h) (by kernel_rfl) (fun _ h => by cases h) recipeParses_row_tie rfl ⟨rfl, rfl⟩ (by kernel_rfl) rfl
    (fun f fn hf hfn => by
      obtain rfl : f = 3 := Option.some.inj ((show Tryd.prog.funcNamed "smalto/smaltolaw13.RecipeParses" = some 3 by kernel_rfl).symm.trans hf) |>.symm
      obtain rfl : fn = Tryd.f3 := (Option.some.inj (Tryd.func3.symm.trans hfn)).symm
      exact ⟨by kernel_rfl, fun j t ht => by
        have hm : t ∈ [9] := by simpa [show Tryd.f3.params = #[9] from rfl] using Array.mem_of_getElem? ht
        have hall : ([9].all fun u => !Tryd.prog.wantsStandIn u) = true := by kernel_rfl
        exact (show Tryd.prog.wantsStandIn t = false by simpa using List.all_eq_true.1 hall t hm)⟩)
    (by kernel_rfl)
#print axioms recipeParses_card_holds
end Go.Proofs.YtolcfipmjhjeaaaDoor
