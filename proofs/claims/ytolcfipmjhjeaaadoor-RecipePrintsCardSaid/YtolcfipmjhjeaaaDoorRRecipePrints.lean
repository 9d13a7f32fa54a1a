/- The row of RecipePrints: the given statement, out of what the function is shown to do. Conditions: none (the row lists variables; the card ties them). -/
import Derived.Test.YtolcfipmjhjeaaaDoorFRecipePrints
import Derived.Test.YtolcfipmjhjeaaaDoorRows
import Derived.Test.YtolcfipmjhjeaaaDoorCards
import Derived.Test.YtolcfipmjhjeaaaDoorTie
import Derived.SevenTiedAt
import Derived.Lay
import Derived.MakeChecks
import Derived.Test.YtolcfipmjhjeaaaDoorMr2
namespace Go.Proofs.YtolcfipmjhjeaaaDoor
open Go Go.Crisp
set_option maxRecDepth 100000

theorem recipePrints_door (os : Os) (args : Array Value) : laidMetH Tryd.prog Rows.recipePrintsRow.laid ((World.laidAll Tryd.prog os Rows.recipePrintsRow.laid).forCall (fun _ _ => 0) ⟨#[], args, []⟩).memory := by
  rw [MakeChecks.laidMetH_plain _ _ _ (by kernel_rfl)]
  exact laidMet_laidAll _ (by kernel_rfl) (by kernel_rfl)



theorem recipePrints_lifted (os : Os) (started : os.Started) (H : Type) (enc : TypeId × Value → H) :
    ReturnsInHanded {} Tryd.checked os 4 .any (fun w args => (Rows.recipePrintsSpec.pre enc Tryd.prog Tryd.f4 Rows.recipePrintsRow.domain false w args ∧ laidMetH Tryd.prog Rows.recipePrintsRow.laid w) ∧ sizedMet enc Tryd.prog Tryd.f4 (OpenSpec.ofChange Rows.recipePrintsSpec) false w args) (Rows.recipePrintsSpec.post enc Tryd.prog Tryd.f4 false true false false) :=
  row_shaped (C := Tryd.checked) (ts := [(.sl (.st (.pair (.int .i64) (.pair (.int .i64) (.pair (.int .i64) (.pair (.int .i64) (.pair (.sl (.int .i64) 8) (.pair (.sl (.int .i64) 8) (.pair (.int .i64) (.pair (.int .i64) (.pair (.int .i64) .unit)))))))))) 104)]) (rt := 4) (L := Rows.recipePrintsRow.laid) (by kernel_rfl) (by kernel_rfl) started (by kernel_rfl) Tryd.func4 (by kernel_rfl) rfl (by kernel_rfl) (by kernel_rfl) (by kernel_rfl) (by kernel_rfl)
    (fun ds hl => by
      match ds, hl with
      | [_], _ => rfl)
    (ChangeSpec.witness_shaped (enc := enc) (C := Tryd.checked) (os := os) (X := fun w _ => laidMetH Tryd.prog Rows.recipePrintsRow.laid w) false (World.laidAll Tryd.prog os Rows.recipePrintsRow.laid) #[.slice none 0 0] 8 (World.laidAll_os _ _ _) (World.shaped_of_ZipB (by kernel_rfl) (by kernel_rfl)) (by kernel_rfl) (by kernel_rfl) (by kernel_rfl) (recipePrints_door os _))
    (r_RecipePrints ⟨by kernel_rfl, .tail _ (.tail _ (.tail _ (.tail _ (.head _)))), .tail _ (.tail _ (.tail _ (.tail _ (.tail _ (.head _))))), .tail _ (.tail _ (.head _)), .tail _ (.tail _ (.tail _ (.head _))), .tail _ (.tail _ (.tail _ (.tail _ (.tail _ (.tail _ (.head _)))))), .tail _ (.tail _ (.tail _ (.tail _ (.tail _ (.tail _ (.tail _ (.head _))))))), .tail _ (.tail _ (.tail _ (.tail _ (.tail _ (.tail _ (.tail _ (.tail _ (.head _))))))))⟩)

/-- RecipePrints: the bare row. -/
theorem recipePrints_holds : Rows.RecipePrintsSaid :=
  OpenClaim.holds_of_wide 4 Tryd.f4 rfl rfl rfl rfl rfl rfl rfl ⟨rfl, rfl, rfl, rfl, rfl⟩ rfl rfl rfl rfl rfl (by kernel_rfl) Tryd.func4 recipePrints_closed
    (of_decide_eq_true (by kernel_rfl)) (by unfold Func.isWrapper; first | (rw [if_pos (by decide +kernel)]; kernel_rfl) | (rw [if_neg (by decide +kernel)]; exact ⟨rfl, rfl⟩))
    (fun os started H enc _ => recipePrints_lifted os started H enc)

/-- RecipePrints: the card, as given. -/
theorem recipePrints_card_holds : Rows.RecipePrintsCardSaid :=
  Claim7.holds_tied_plain_at .later [] [.data, .data, .data, .data, .widerDeep, .data, .sentinel, .sentinel, .pinned] true (true, "52973d543ea31dfffea19cb867a7d36dae158064467c4bfeb4ae5c5e0bcde1f1") true
    recipePrints_holds (fun _ h => by cases h) (by kernel_rfl) (fun _ h => by cases h) recipePrints_row_tie rfl ⟨rfl, rfl⟩ (by kernel_rfl) rfl
    (fun f fn hf hfn => by
      obtain rfl : f = 4 := Option.some.inj ((show Tryd.prog.funcNamed "smalto/smaltolaw13.RecipePrints" = some 4 by kernel_rfl).symm.trans hf) |>.symm
      obtain rfl : fn = Tryd.f4 := (Option.some.inj (Tryd.func4.symm.trans hfn)).symm
      exact ⟨by kernel_rfl, fun j t ht => by
        have hm : t ∈ [23] := by simpa [show Tryd.f4.params = #[23] from rfl] using Array.mem_of_getElem? ht
        have hall : ([23].all fun u => !Tryd.prog.wantsStandIn u) = true := by kernel_rfl
        exact (show Tryd.prog.wantsStandIn t = false by simpa using List.all_eq_true.1 hall t hm)⟩)
    (by kernel_rfl)
#print axioms recipePrints_card_holds
end Go.Proofs.YtolcfipmjhjeaaaDoor
