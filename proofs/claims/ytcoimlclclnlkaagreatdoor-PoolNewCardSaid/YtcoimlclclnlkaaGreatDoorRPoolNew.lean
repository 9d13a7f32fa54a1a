/- The row of PoolNew: the given statement, out of what the function is shown to do. Conditions: none (the row lists variables; the card ties them). -/
import Derived.Test.YtcoimlclclnlkaaGreatDoorFPoolNew
import Derived.Test.YtcoimlclclnlkaaGreatDoorRows
import Derived.Test.YtcoimlclclnlkaaGreatDoorCards
import Derived.Test.YtcoimlclclnlkaaGreatDoorTie
import Derived.SevenTiedAt
import Derived.Test.YtcoimlclclnlkaaGreatDoorMp6
namespace Go.Proofs.YtcoimlclclnlkaaGreatDoor
open Go Go.Crisp
set_option maxRecDepth 100000

theorem poolNew_door (os : Os) (args : Array Value) : laidMetH Tryz.prog Rows.poolNewRow.laid ((World.doorLaid Tryz.prog 400 os).forCall (fun _ _ => 0) ⟨#[], args, []⟩).memory :=
  laidMetH_of_parts3 (fuel := 8) (laidMet_of_run' 8 (by kernel_rfl) (by kernel_rfl)) (by kernel_rfl) (by kernel_rfl)

theorem poolNew_lifted (os : Os) (started : os.Started) (H : Type) (enc : TypeId × Value → H) :
    ReturnsInHanded {} Tryz.checked os 5 .any (fun w args => (Rows.poolNewSpec.pre enc Tryz.prog Tryz.f5 Rows.poolNewRow.domain false w args ∧ laidMetH Tryz.prog Rows.poolNewRow.laid w) ∧ sizedMet enc Tryz.prog Tryz.f5 (OpenSpec.ofChange Rows.poolNewSpec) false w args) (Rows.poolNewSpec.post enc Tryz.prog Tryz.f5 false true false false) :=
  row_laid (C := Tryz.checked) (ts := [(.st (.pair (.int .u16) (.pair (.int .u16) (.pair (.int .u16) (.pair (.int .u16) (.pair (.sl (.int .u16) 2) .unit)))))), (.st (.pair (.int .i64) (.pair (.int .i64) (.pair (.int .i64) (.pair (.int .i64) (.pair (.sl (.int .i64) 8) (.pair (.sl (.int .i64) 8) (.pair (.int .i64) (.pair (.int .i64) (.pair (.int .i64) .unit)))))))))), (.int .i64), (.int .i64), (.int .i64), (.int .i64), (.int .u8)]) (rt := 4) (L := Rows.poolNewRow.laid) (by kernel_rfl) (by kernel_rfl) started (by kernel_rfl) Tryz.func5 (by kernel_rfl) rfl (by kernel_rfl) (by kernel_rfl) (by kernel_rfl) (by kernel_rfl)
    (fun ds hl => by
      match ds, hl with
      | [_, _, _, _, _, _, _], _ => rfl)
    (ChangeSpec.witness_shaped (enc := enc) (C := Tryz.checked) (os := os) (X := fun w _ => laidMetH Tryz.prog Rows.poolNewRow.laid w) false (World.doorLaid Tryz.prog 400 os) #[.agg #[.int .u16 0, .int .u16 0, .int .u16 0, .int .u16 0, .slice none 0 0], .agg #[.int .i64 0, .int .i64 0, .int .i64 0, .int .i64 0, .slice none 0 0, .slice none 0 0, .int .i64 0, .int .i64 0, .int .i64 0], .int .i64 0, .int .i64 0, .int .i64 0, .int .i64 0, .int .u8 0] 8 rfl (World.shaped_of_RefB (by kernel_rfl) (by kernel_rfl)) (by kernel_rfl) (by kernel_rfl) (by kernel_rfl) (poolNew_door os _))
    (r_PoolNew ⟨by kernel_rfl, .head _, .tail _ (.head _)⟩)

/-- PoolNew: the bare row. -/
theorem poolNew_holds : Rows.PoolNewSaid :=
  OpenClaim.holds_of_wide 5 Tryz.f5 rfl rfl rfl rfl rfl rfl rfl ⟨rfl, rfl, rfl, rfl, rfl⟩ rfl rfl rfl rfl rfl (by kernel_rfl) Tryz.func5 poolNew_closed
    (of_decide_eq_true (by kernel_rfl)) (by unfold Func.isWrapper; first | (rw [if_pos (by decide +kernel)]; kernel_rfl) | (rw [if_neg (by decide +kernel)]; exact ⟨rfl, rfl⟩))
    (fun os started H enc _ => poolNew_lifted os started H enc)

/-- PoolNew: the card, as given. -/
theorem poolNew_card_holds : Rows.PoolNewCardSaid :=
  Claim7.holds_tied_plain_at .later [] [.widerDeep, .data] true (true, "0a2a619520c13a5d64d2660552a36c45b564f9a4d1243be4a122a38e2a614256") false
    poolNew_holds (fun _ h => by cases h) (by kernel_rfl) (fun _ h => by cases h) poolNew_row_tie rfl ⟨rfl, rfl⟩ (by kernel_rfl) rfl
    (fun f fn hf hfn => by
      obtain rfl : f = 5 := Option.some.inj ((show Tryz.prog.funcNamed "smalto/smaltolaw22.PoolNew" = some 5 by kernel_rfl).symm.trans hf) |>.symm
      obtain rfl : fn = Tryz.f5 := (Option.some.inj (Tryz.func5.symm.trans hfn)).symm
      exact ⟨by kernel_rfl, fun j t ht => by
        have hm : t ∈ [25, 31, 3, 3, 3, 3, 5] := by simpa [show Tryz.f5.params = #[25, 31, 3, 3, 3, 3, 5] from rfl] using Array.mem_of_getElem? ht
        have hall : ([25, 31, 3, 3, 3, 3, 5].all fun u => !Tryz.prog.wantsStandIn u) = true := by kernel_rfl
        exact (show Tryz.prog.wantsStandIn t = false by simpa using List.all_eq_true.1 hall t hm)⟩)
    (by kernel_rfl)
#print axioms poolNew_card_holds
end Go.Proofs.YtcoimlclclnlkaaGreatDoor
