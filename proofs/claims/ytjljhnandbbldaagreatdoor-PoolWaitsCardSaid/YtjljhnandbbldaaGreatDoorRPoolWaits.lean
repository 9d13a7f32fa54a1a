/- The row of PoolWaits: the given statement, out of what the function is shown to do. Conditions: none (the row lists variables; the card ties them). -/
import Derived.Test.YtjljhnandbbldaaGreatDoorFPoolWaits
import Derived.Test.YtjljhnandbbldaaGreatDoorRows
import Derived.Test.YtjljhnandbbldaaGreatDoorCards
import Derived.Test.YtjljhnandbbldaaGreatDoorTie
import Derived.SevenTiedAt
import Derived.Test.YtjljhnandbbldaaGreatDoorMv4
namespace Go.Proofs.YtjljhnandbbldaaGreatDoor
open Go Go.Crisp
set_option maxRecDepth 100000

theorem poolWaits_door (os : Os) (args : Array Value) : laidMetH Tryz.prog Rows.poolWaitsRow.laid ((World.doorLaid Tryz.prog 400 os).forCall (fun _ _ => 0) ⟨#[], args, []⟩).memory :=
  laidMetH_of_parts3 (fuel := 8) (laidMet_of_run' 8 (by kernel_rfl) (by kernel_rfl)) (by kernel_rfl) (by kernel_rfl)

theorem poolWaits_lifted (os : Os) (started : os.Started) (H : Type) (enc : TypeId × Value → H) :
    ReturnsInHanded {} Tryz.checked os 3 .any (fun w args => (Rows.poolWaitsSpec.pre enc Tryz.prog Tryz.f3 Rows.poolWaitsRow.domain false w args ∧ laidMetH Tryz.prog Rows.poolWaitsRow.laid w) ∧ sizedMet enc Tryz.prog Tryz.f3 (OpenSpec.ofChange Rows.poolWaitsSpec) false w args) (Rows.poolWaitsSpec.post enc Tryz.prog Tryz.f3 false true false false) :=
  row_laid (C := Tryz.checked) (ts := [(.st (.pair (.int .u16) (.pair (.int .u16) (.pair (.int .u16) (.pair (.int .u16) (.pair (.sl (.int .u16) 2) .unit)))))), (.st (.pair (.int .i64) (.pair (.int .i64) (.pair (.int .i64) (.pair (.int .i64) (.pair (.sl (.int .i64) 8) (.pair (.sl (.int .i64) 8) (.pair (.int .i64) (.pair (.int .i64) (.pair (.int .i64) .unit)))))))))), (.int .u8), (.int .u8), (.int .u8), (.int .u8), (.sl (.int .u8) 1)]) (rt := 4) (L := Rows.poolWaitsRow.laid) (by kernel_rfl) (by kernel_rfl) started (by kernel_rfl) Tryz.func3 (by kernel_rfl) rfl (by kernel_rfl) (by kernel_rfl) (by kernel_rfl) (by kernel_rfl)
    (fun ds hl => by
      match ds, hl with
      | [_, _, _, _, _, _, _], _ => rfl)
    (ChangeSpec.witness_shaped (enc := enc) (C := Tryz.checked) (os := os) (X := fun w _ => laidMetH Tryz.prog Rows.poolWaitsRow.laid w) false (World.doorLaid Tryz.prog 400 os) #[.agg #[.int .u16 0, .int .u16 0, .int .u16 0, .int .u16 0, .slice none 0 0], .agg #[.int .i64 0, .int .i64 0, .int .i64 0, .int .i64 0, .slice none 0 0, .slice none 0 0, .int .i64 0, .int .i64 0, .int .i64 0], .int .u8 0, .int .u8 0, .int .u8 0, .int .u8 0, .slice none 0 0] 8 rfl (World.shaped_of_RefB (by kernel_rfl) (by kernel_rfl)) (by kernel_rfl) (by kernel_rfl) (by kernel_rfl) (poolWaits_door os _))
    (r_PoolWaits ⟨by kernel_rfl, .head _, .tail _ (.head _)⟩)

/-- PoolWaits: the bare row. -/
theorem poolWaits_holds : Rows.PoolWaitsSaid :=
  OpenClaim.holds_of_wide 3 Tryz.f3 rfl rfl rfl rfl rfl rfl rfl ⟨rfl, rfl, rfl, rfl, rfl⟩ rfl rfl rfl rfl rfl (by kernel_rfl) Tryz.func3 poolWaits_closed
    (of_decide_eq_true (by kernel_rfl)) (by unfold Func.isWrapper; first | (rw [if_pos (by decide +kernel)]; kernel_rfl) | (rw [if_neg (by decide +kernel)]; exact ⟨rfl, rfl⟩))
    (fun os started H enc _ => poolWaits_lifted os started H enc)

/-- PoolWaits: the card, as given. -/
theorem poolWaits_card_holds : Rows.PoolWaitsCardSaid :=
  Claim7.holds_tied_plain_at .later [] [.widerDeep, .data] true (true, "40ee7874c560b843afe383334f75b6c51eb71c83532f5d812120555f9498be95") false
    poolWaits_holds (fun _ h => by cases h) (by kernel_rfl) (fun _ h => by cases h) poolWaits_row_tie rfl ⟨rfl, rfl⟩ (by kernel_rfl) rfl
    (fun f fn hf hfn => by
      obtain rfl : f = 3 := Option.some.inj ((show Tryz.prog.funcNamed "smalto/smaltolaw22.PoolWaits" = some 3 by kernel_rfl).symm.trans hf) |>.symm
      obtain rfl : fn = Tryz.f3 := (Option.some.inj (Tryz.func3.symm.trans hfn)).symm
      exact ⟨by kernel_rfl, fun j t ht => by
        have hm : t ∈ [25, 31, 5, 5, 5, 5, 32] := by simpa [show Tryz.f3.params = #[25, 31, 5, 5, 5, 5, 32] from rfl] using Array.mem_of_getElem? ht
        have hall : ([25, 31, 5, 5, 5, 5, 32].all fun u => !Tryz.prog.wantsStandIn u) = true := by kernel_rfl
        exact (show Tryz.prog.wantsStandIn t = false by simpa using List.all_eq_true.1 hall t hm)⟩)
    (by kernel_rfl)
#print axioms poolWaits_card_holds
end Go.Proofs.YtjljhnandbbldaaGreatDoor
