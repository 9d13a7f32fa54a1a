/- The row of WindowParts: the given statement, out of what the function is shown to do. Conditions: none (the row lists variables; the card ties them). -/
import Derived.Test.YtojmncnelbnceaaGreatDoorRows
import Derived.Test.YtojmncnelbnceaaGreatDoorCards
import Derived.Test.YtojmncnelbnceaaGreatDoorTie
import Derived.SevenTiedAt
import Derived.Test.YtojmncnelbnceaaGreatDoorMg6
namespace Go.Proofs.YtojmncnelbnceaaGreatDoor
open Go Go.Crisp
set_option maxRecDepth 100000

theorem windowParts_door (os : Os) (args : Array Value) : laidMetH Tryz.prog Rows.windowPartsRow.laid ((World.doorLaid Tryz.prog 400 os).forCall (fun _ _ => 0) ⟨#[], args, []⟩).memory :=
  laidMetH_of_parts3 (fuel := 8) (laidMet_of_run' 8 (by kernel_rfl) (by kernel_rfl)) (by kernel_rfl) (by kernel_rfl)

theorem windowParts_lifted (os : Os) (started : os.Started) (H : Type) (enc : TypeId × Value → H) :
    ReturnsInHanded {} Tryz.checked os 6 .any (fun w args => (Rows.windowPartsSpec.pre enc Tryz.prog Tryz.f6 Rows.windowPartsRow.domain false w args ∧ laidMetH Tryz.prog Rows.windowPartsRow.laid w) ∧ sizedMet enc Tryz.prog Tryz.f6 (OpenSpec.ofChange Rows.windowPartsSpec) false w args) (Rows.windowPartsSpec.post enc Tryz.prog Tryz.f6 false true false false) :=
  row_laid (C := Tryz.checked) (ts := [(.st (.pair (.int .u16) (.pair (.int .u16) (.pair (.int .u16) (.pair (.int .u16) (.pair (.sl (.int .u16) 2) .unit)))))), (.st (.pair (.int .i64) (.pair (.int .i64) (.pair (.int .i64) (.pair (.int .i64) (.pair (.sl (.int .i64) 8) (.pair (.sl (.int .i64) 8) (.pair (.int .i64) (.pair (.int .i64) (.pair (.int .i64) .unit)))))))))), (.int .u8), (.int .u8), (.int .u8), (.int .u8), (.int .u8), .bool]) (rt := 4) (L := Rows.windowPartsRow.laid) (by kernel_rfl) (by kernel_rfl) started (by kernel_rfl) Tryz.func6 (by kernel_rfl) rfl (by kernel_rfl) (by kernel_rfl) (by kernel_rfl) (by kernel_rfl)
    (fun ds hl => by
      match ds, hl with
      | [_, _, _, _, _, _, _, _], _ => rfl)
    (ChangeSpec.witness_shaped (enc := enc) (C := Tryz.checked) (os := os) (X := fun w _ => laidMetH Tryz.prog Rows.windowPartsRow.laid w) false (World.doorLaid Tryz.prog 400 os) #[.agg #[.int .u16 0, .int .u16 0, .int .u16 0, .int .u16 0, .slice none 0 0], .agg #[.int .i64 0, .int .i64 0, .int .i64 0, .int .i64 0, .slice none 0 0, .slice none 0 0, .int .i64 0, .int .i64 0, .int .i64 0], .int .u8 0, .int .u8 0, .int .u8 0, .int .u8 0, .int .u8 0, .bool false] 8 rfl (World.shaped_of_RefB (by kernel_rfl) (by kernel_rfl)) (by kernel_rfl) (by kernel_rfl) (by kernel_rfl) (windowParts_door os _))
    (r_WindowParts ⟨by kernel_rfl, .head _, .tail _ (.head _)⟩)

/-- WindowParts: the bare row. -/
theorem windowParts_holds : Rows.WindowPartsSaid :=
  OpenClaim.holds_of_wide 6 Tryz.f6 rfl rfl rfl rfl rfl rfl rfl ⟨rfl, rfl, rfl, rfl, rfl⟩ rfl rfl rfl rfl rfl (by kernel_rfl) Tryz.func6 (by kernel_rfl)
    (of_decide_eq_true (by kernel_rfl)) (by unfold Func.isWrapper; first | (rw [if_pos (by decide +kernel)]; kernel_rfl) | (rw [if_neg (by decide +kernel)]; exact ⟨rfl, rfl⟩))
    (fun os started H enc _ => windowParts_lifted os started H enc)

/-- WindowParts: the card, as given. -/
theorem windowParts_card_holds : Rows.WindowPartsCardSaid :=
  Claim7.holds_tied_plain_at .later [] [.widerDeep, .data] true (true, "68e29bbb27b3d1b07877560fbb17c6b132563f2a5a844eb1dac3dc2c9d124989") false
    windowParts_holds (fun _ h => by cases h) (by kernel_rfl) (fun _ h => by cases h) windowParts_row_tie rfl ⟨rfl, rfl⟩ (by kernel_rfl) rfl
    (fun f fn hf hfn => by
      obtain rfl : f = 6 := Option.some.inj ((show Tryz.prog.funcNamed "smalto/smaltolaw17.WindowParts" = some 6 by kernel_rfl).symm.trans hf) |>.symm
      obtain rfl : fn = Tryz.f6 := (Option.some.inj (Tryz.func6.symm.trans hfn)).symm
      exact ⟨by kernel_rfl, fun j t ht => by
        have hm : t ∈ [25, 31, 5, 5, 5, 5, 5, 4] := by simpa [show Tryz.f6.params = #[25, 31, 5, 5, 5, 5, 5, 4] from rfl] using Array.mem_of_getElem? ht
        have hall : ([25, 31, 5, 5, 5, 5, 5, 4].all fun u => !Tryz.prog.wantsStandIn u) = true := by kernel_rfl
        exact (show Tryz.prog.wantsStandIn t = false by simpa using List.all_eq_true.1 hall t hm)⟩)
    (by kernel_rfl)
#print axioms windowParts_card_holds
end Go.Proofs.YtojmncnelbnceaaGreatDoor
