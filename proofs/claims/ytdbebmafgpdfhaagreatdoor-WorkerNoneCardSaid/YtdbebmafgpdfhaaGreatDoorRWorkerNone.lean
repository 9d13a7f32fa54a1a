/- The row of WorkerNone: the given statement, out of what the function is shown to do. Conditions: none (the row lists variables; the card ties them). -/
import Derived.Test.YtdbebmafgpdfhaaGreatDoorRows
import Derived.Test.YtdbebmafgpdfhaaGreatDoorCards
import Derived.Test.YtdbebmafgpdfhaaGreatDoorTie
import Derived.SevenTiedAt
import Derived.Test.YtdbebmafgpdfhaaGreatDoorMk6
namespace Go.Proofs.YtdbebmafgpdfhaaGreatDoor
open Go Go.Crisp
set_option maxRecDepth 100000

theorem workerNone_door (os : Os) (args : Array Value) : laidMetH Tryz.prog Rows.workerNoneRow.laid ((World.doorLaid Tryz.prog 400 os).forCall (fun _ _ => 0) ⟨#[], args, []⟩).memory :=
  laidMetH_of_parts3 (fuel := 8) (laidMet_of_run' 8 (by kernel_rfl) (by kernel_rfl)) (by kernel_rfl) (by kernel_rfl)

theorem workerNone_lifted (os : Os) (started : os.Started) (H : Type) (enc : TypeId × Value → H) :
    ReturnsInHanded {} Tryz.checked os 3 .any (fun w args => (Rows.workerNoneSpec.pre enc Tryz.prog Tryz.f3 Rows.workerNoneRow.domain false w args ∧ laidMetH Tryz.prog Rows.workerNoneRow.laid w) ∧ sizedMet enc Tryz.prog Tryz.f3 (OpenSpec.ofChange Rows.workerNoneSpec) false w args) (Rows.workerNoneSpec.post enc Tryz.prog Tryz.f3 false true false false) :=
  row_laid (C := Tryz.checked) (ts := [(.sl (.int .i64) 8), .bool]) (rt := 4) (L := Rows.workerNoneRow.laid) (by kernel_rfl) (by kernel_rfl) started (by kernel_rfl) Tryz.func3 (by kernel_rfl) rfl (by kernel_rfl) (by kernel_rfl) (by kernel_rfl) (by kernel_rfl)
    (fun ds hl => by
      match ds, hl with
      | [_, _], _ => rfl)
    (ChangeSpec.witness_shaped (enc := enc) (C := Tryz.checked) (os := os) (X := fun w _ => laidMetH Tryz.prog Rows.workerNoneRow.laid w) false (World.doorLaid Tryz.prog 400 os) #[.slice none 0 0, .bool false] 8 rfl (World.shaped_of_RefB (by kernel_rfl) (by kernel_rfl)) (by kernel_rfl) (by kernel_rfl) (by kernel_rfl) (workerNone_door os _))
    (r_WorkerNone ⟨by kernel_rfl, .head _, .tail _ (.head _)⟩)

/-- WorkerNone: the bare row. -/
theorem workerNone_holds : Rows.WorkerNoneSaid :=
  OpenClaim.holds_of_wide 3 Tryz.f3 rfl rfl rfl rfl rfl rfl rfl ⟨rfl, rfl, rfl, rfl, rfl⟩ rfl rfl rfl rfl rfl (by kernel_rfl) Tryz.func3 (by kernel_rfl)
    (of_decide_eq_true (by kernel_rfl)) (by unfold Func.isWrapper; first | (rw [if_pos (by decide +kernel)]; kernel_rfl) | (rw [if_neg (by decide +kernel)]; exact ⟨rfl, rfl⟩))
    (fun os started H enc _ => workerNone_lifted os started H enc)

/-- WorkerNone: the card, as given. -/
theorem workerNone_card_holds : Rows.WorkerNoneCardSaid :=
  Claim7.holds_tied_plain_at .later [] [.widerDeep, .data] true (true, "743f9d45cc6a0b1575798f026a8f96daa71876b0b2b860f443a09b310279c2ef") false
    workerNone_holds (fun _ h => by cases h) (by kernel_rfl) (fun _ h => by cases h) workerNone_row_tie rfl ⟨rfl, rfl⟩ (by kernel_rfl) rfl
    (fun f fn hf hfn => by
      obtain rfl : f = 3 := Option.some.inj ((show Tryz.prog.funcNamed "smalto/smaltolaw21.WorkerNone" = some 3 by kernel_rfl).symm.trans hf) |>.symm
      obtain rfl : fn = Tryz.f3 := (Option.some.inj (Tryz.func3.symm.trans hfn)).symm
      exact ⟨by kernel_rfl, fun j t ht => by
        have hm : t ∈ [22, 4] := by simpa [show Tryz.f3.params = #[22, 4] from rfl] using Array.mem_of_getElem? ht
        have hall : ([22, 4].all fun u => !Tryz.prog.wantsStandIn u) = true := by kernel_rfl
        exact (show Tryz.prog.wantsStandIn t = false by simpa using List.all_eq_true.1 hall t hm)⟩)
    (by kernel_rfl)
#print axioms workerNone_card_holds
end Go.Proofs.YtdbebmafgpdfhaaGreatDoor
