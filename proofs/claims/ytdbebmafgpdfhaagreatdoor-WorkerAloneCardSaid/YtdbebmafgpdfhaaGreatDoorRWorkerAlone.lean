/- The row of WorkerAlone: the given statement, out of what the function is shown to do. Conditions: none (the row lists variables; the card ties them). -/
import Derived.Test.YtdbebmafgpdfhaaGreatDoorRows
import Derived.Test.YtdbebmafgpdfhaaGreatDoorCards
import Derived.Test.YtdbebmafgpdfhaaGreatDoorTie
import Derived.SevenTiedAt
import Derived.Test.YtdbebmafgpdfhaaGreatDoorMk6
namespace Go.Proofs.YtdbebmafgpdfhaaGreatDoor
open Go Go.Crisp
set_option maxRecDepth 100000

theorem workerAlone_door (os : Os) (args : Array Value) : laidMetH Tryz.prog Rows.workerAloneRow.laid ((World.doorLaid Tryz.prog 400 os).forCall (fun _ _ => 0) ⟨#[], args, []⟩).memory :=
  laidMetH_of_parts3 (fuel := 8) (laidMet_of_run' 8 (by kernel_rfl) (by kernel_rfl)) (by kernel_rfl) (by kernel_rfl)

theorem workerAlone_lifted (os : Os) (started : os.Started) (H : Type) (enc : TypeId × Value → H) :
    ReturnsInHanded {} Tryz.checked os 6 .any (fun w args => (Rows.workerAloneSpec.pre enc Tryz.prog Tryz.f6 Rows.workerAloneRow.domain false w args ∧ laidMetH Tryz.prog Rows.workerAloneRow.laid w) ∧ sizedMet enc Tryz.prog Tryz.f6 (OpenSpec.ofChange Rows.workerAloneSpec) false w args) (Rows.workerAloneSpec.post enc Tryz.prog Tryz.f6 false true false false) :=
  row_laid (C := Tryz.checked) (ts := [(.st (.pair (.int .u16) (.pair (.int .u16) (.pair (.int .u16) (.pair (.int .u16) (.pair (.sl (.int .u16) 2) .unit)))))), (.st (.pair (.int .i64) (.pair (.int .i64) (.pair (.int .i64) (.pair (.int .i64) (.pair (.sl (.int .i64) 8) (.pair (.sl (.int .i64) 8) (.pair (.int .i64) (.pair (.int .i64) (.pair (.int .i64) .unit)))))))))), (.int .u8), (.int .u8)]) (rt := 4) (L := Rows.workerAloneRow.laid) (by kernel_rfl) (by kernel_rfl) started (by kernel_rfl) Tryz.func6 (by kernel_rfl) rfl (by kernel_rfl) (by kernel_rfl) (by kernel_rfl) (by kernel_rfl)
    (fun ds hl => by
      match ds, hl with
      | [_, _, _, _], _ => rfl)
    (ChangeSpec.witness_shaped (enc := enc) (C := Tryz.checked) (os := os) (X := fun w _ => laidMetH Tryz.prog Rows.workerAloneRow.laid w) false (World.doorLaid Tryz.prog 400 os) #[.agg #[.int .u16 0, .int .u16 0, .int .u16 0, .int .u16 0, .slice none 0 0], .agg #[.int .i64 0, .int .i64 0, .int .i64 0, .int .i64 0, .slice none 0 0, .slice none 0 0, .int .i64 0, .int .i64 0, .int .i64 0], .int .u8 0, .int .u8 0] 8 rfl (World.shaped_of_RefB (by kernel_rfl) (by kernel_rfl)) (by kernel_rfl) (by kernel_rfl) (by kernel_rfl) (workerAlone_door os _))
    (r_WorkerAlone ⟨by kernel_rfl, .head _, .tail _ (.head _)⟩)

/-- WorkerAlone: the bare row. -/
theorem workerAlone_holds : Rows.WorkerAloneSaid :=
  OpenClaim.holds_of_wide 6 Tryz.f6 rfl rfl rfl rfl rfl rfl rfl ⟨rfl, rfl, rfl, rfl, rfl⟩ rfl rfl rfl rfl rfl (by kernel_rfl) Tryz.func6 (by kernel_rfl)
    (of_decide_eq_true (by kernel_rfl)) (by unfold Func.isWrapper; first | (rw [if_pos (by decide +kernel)]; kernel_rfl) | (rw [if_neg (by decide +kernel)]; exact ⟨rfl, rfl⟩))
    (fun os started H enc _ => workerAlone_lifted os started H enc)

/-- WorkerAlone: the card, as given. -/
theorem workerAlone_card_holds : Rows.WorkerAloneCardSaid :=
  Claim7.holds_tied_plain_at .later [] [.widerDeep, .data] true (true, "743f9d45cc6a0b1575798f026a8f96daa71876b0b2b860f443a09b310279c2ef") false
    workerAlone_holds (fun _ h => by cases h) (by kernel_rfl) (fun _ h => by cases h) workerAlone_row_tie rfl ⟨rfl, rfl⟩ (by kernel_rfl) rfl
    (fun f fn hf hfn => by
      obtain rfl : f = 6 := Option.some.inj ((show Tryz.prog.funcNamed "smalto/smaltolaw21.WorkerAlone" = some 6 by kernel_rfl).symm.trans hf) |>.symm
      obtain rfl : fn = Tryz.f6 := (Option.some.inj (Tryz.func6.symm.trans hfn)).symm
      exact ⟨by kernel_rfl, fun j t ht => by
        have hm : t ∈ [47, 53, 5, 5] := by simpa [show Tryz.f6.params = #[47, 53, 5, 5] from rfl] using Array.mem_of_getElem? ht
        have hall : ([47, 53, 5, 5].all fun u => !Tryz.prog.wantsStandIn u) = true := by kernel_rfl
        exact (show Tryz.prog.wantsStandIn t = false by simpa using List.all_eq_true.1 hall t hm)⟩)
    (by kernel_rfl)
#print axioms workerAlone_card_holds
end Go.Proofs.YtdbebmafgpdfhaaGreatDoor
