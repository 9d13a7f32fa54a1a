/- The row of RecipeJoins: the given statement, out of what the function is shown to do. Conditions: none (the row lists variables; the card ties them). -/
import Derived.Test.YtodmlimajnbmkaaDoorRows
import Derived.Test.YtodmlimajnbmkaaDoorCards
import Derived.Test.YtodmlimajnbmkaaDoorTie
import Derived.SevenTiedAt
import Derived.Test.YtodmlimajnbmkaaDoorSg
import Derived.Test.YtodmlimajnbmkaaDoorRd
namespace Go.Proofs.YtodmlimajnbmkaaDoor
open Go Go.Crisp
set_option maxRecDepth 100000

theorem recipeJoins_door (os : Os) (args : Array Value) : laidMetH Tryd.prog Rows.recipeJoinsRow.laid ((World.doorLaid Tryd.prog 400 os).forCall (fun _ _ => 0) ⟨#[], args, []⟩).memory :=
  laidMetH_of_parts3 (fuel := 8) (laidMet_of_run' 8 (by kernel_rfl) (by kernel_rfl)) (by kernel_rfl) (by kernel_rfl)

theorem recipeJoins_lifted (os : Os) (started : os.Started) (H : Type) (enc : TypeId × Value → H) :
    ReturnsInHanded {} Tryd.checked os 4 .any (fun w args => (Rows.recipeJoinsSpec.pre enc Tryd.prog Tryd.f4 Rows.recipeJoinsRow.domain false w args ∧ laidMetH Tryd.prog Rows.recipeJoinsRow.laid w) ∧ sizedMet enc Tryd.prog Tryd.f4 (OpenSpec.ofChange Rows.recipeJoinsSpec) false w args) (Rows.recipeJoinsSpec.post enc Tryd.prog Tryd.f4 false true false false) :=
  row_laid (C := Tryd.checked) (ts := [(.sl (.st (.pair (.int .i64) (.pair (.int .i64) (.pair (.int .i64) (.pair (.int .i64) (.pair (.sl (.int .i64) 8) (.pair (.sl (.int .i64) 8) (.pair (.int .i64) (.pair (.int .i64) (.pair (.int .i64) .unit)))))))))) 104), (.sl (.st (.pair (.int .i64) (.pair (.int .i64) (.pair (.int .i64) (.pair (.int .i64) (.pair (.sl (.int .i64) 8) (.pair (.sl (.int .i64) 8) (.pair (.int .i64) (.pair (.int .i64) (.pair (.int .i64) .unit)))))))))) 104)]) (rt := 4) (L := Rows.recipeJoinsRow.laid) (by kernel_rfl) started (by kernel_rfl) Tryd.func4 (by kernel_rfl) rfl (by kernel_rfl) (by kernel_rfl) (by kernel_rfl) (by kernel_rfl)
    (fun ds hl => by
      match ds, hl with
      | [_, _], _ => rfl)
    (ChangeSpec.witness_shaped (enc := enc) (C := Tryd.checked) (os := os) (X := fun w _ => laidMetH Tryd.prog Rows.recipeJoinsRow.laid w) false (World.doorLaid Tryd.prog 400 os) #[.slice none 0 0, .slice none 0 0] 8 rfl (World.shaped_of_RefB (by kernel_rfl) (by kernel_rfl)) (by kernel_rfl) (by kernel_rfl) (by kernel_rfl) (recipeJoins_door os _))
    (r_RecipeJoins ⟨by kernel_rfl, .tail _ (.tail _ (.tail _ (.head _))), .tail _ (.tail _ (.tail _ (.tail _ (.head _)))), .tail _ (.tail _ (.head _))⟩)

/-- RecipeJoins: the bare row. -/
theorem recipeJoins_holds : Rows.RecipeJoinsSaid :=
  OpenClaim.holds_of_wide 4 Tryd.f4 rfl rfl rfl rfl rfl rfl rfl ⟨rfl, rfl, rfl, rfl, rfl⟩ rfl rfl rfl rfl rfl (by kernel_rfl) Tryd.func4 (by kernel_rfl)
    (of_decide_eq_true (by kernel_rfl)) (by unfold Func.isWrapper; first | (rw [if_pos (by decide +kernel)]; kernel_rfl) | (rw [if_neg (by decide +kernel)]; exact ⟨rfl, rfl⟩))
    (fun os started H enc _ => recipeJoins_lifted os started H enc)

/-- RecipeJoins: the card, as given. -/
theorem recipeJoins_card_holds : Rows.RecipeJoinsCardSaid :=
  Claim7.holds_tied_plain_at .later [] [.data, .data, .data, .widerDeep, .data] true (true, "5d68761b6376da9862a75e97a0c74c63e1e1f5f1009983dcf31a27386006c5e0") true
    recipeJoins_holds (fun _ h => by cases h) (by kernel_rfl) (fun _ h => by cases h) recipeJoins_row_tie rfl ⟨rfl, rfl⟩ (by kernel_rfl) rfl
    (fun f fn hf hfn => by
      obtain rfl : f = 4 := Option.some.inj ((show Tryd.prog.funcNamed "smalto/smaltolaw13.RecipeJoins" = some 4 by kernel_rfl).symm.trans hf) |>.symm
      obtain rfl : fn = Tryd.f4 := (Option.some.inj (Tryd.func4.symm.trans hfn)).symm
      exact ⟨by kernel_rfl, fun j t ht => by
        have hm : t ∈ [27, 27] := by simpa [show Tryd.f4.params = #[27, 27] from rfl] using Array.mem_of_getElem? ht
        have hall : ([27, 27].all fun u => !Tryd.prog.wantsStandIn u) = true := by kernel_rfl
        exact (show Tryd.prog.wantsStandIn t = false by simpa using List.all_eq_true.1 hall t hm)⟩)
    (by kernel_rfl)
#print axioms recipeJoins_card_holds
end Go.Proofs.YtodmlimajnbmkaaDoor
