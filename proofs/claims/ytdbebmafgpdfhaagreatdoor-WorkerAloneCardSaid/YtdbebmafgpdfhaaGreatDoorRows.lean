/-
  NARROWER THAN 'FOR EVERY INPUT', by the rows' own cells (each row's printed sentence says how): WorkerNone: laid · WorkerPlays: laid · WorkerScratch: laid · WorkerAlone: laid.
  DERIVED. THE GIVEN ROWS OF THIS SEAT. 4 by the template 'for every input the law returns true; each argument reads behind the call as it read before'; 0 by the template 'total and deterministic' (their statements: YtdbebmafgpdfhaaGreatDoorTotals.lean).
  GIVEN WITH THE SEED: the statements are not yours to turn. If you find one false, say at which input.
  Laid BY PROGRAM, IN A SANDBOX (cutbox-rows.mjs): the forced cells as the released guide's own fill.sh prints them over the translation b6c3964340132ccf… (all of the seat's roots in one cut). By AI agents, Wed Nov 11 2026. No macro, syntax, notation, axiom, sorry.
-/
import Derived.Test.YtdbebmafgpdfhaaGreatDoorChecked
import GoSem.Claim
import GoSem.ClaimJoined
import GoSem.ClaimMapViews
import Derived.JoinedTies
import Derived.KernelRfl
namespace Go.Proofs.YtdbebmafgpdfhaaGreatDoor
/- THE CELL 'sum', in the pinned program and in every row, IS THE sha256 OF THE DUMP (.gsa) THAT YtdbebmafgpdfhaaGreatDoorProg.lean LOADS. Nothing in Lean hashes anything: it is a label: what it is worth is what the hold of that sum in a sandbox is worth. -/
noncomputable def Tryz.pinned : Pinned := { name := "ytdbebmafgpdfhaagreatdoor", sum := "b6c3964340132ccfd703d86a4ec4e74fb95d09d517eccc8d810b6bd1f462ae59", checked := Tryz.checked }
namespace Rows
def none {H : Type} : Left H := { results := [], args := [] }

/- WHAT THE LISTED PACKAGE-LEVEL VARIABLES READ AS WHEN THE CALL BEGINS. Each datum BY PROGRAM (the guide's laid-datum.mjs) off the statement by which the dump's own 'gosem.cut.vars' lays the variable. In a bare row this is a premise. The card (YtdbebmafgpdfhaaGreatDoorCards.lean) ties it to the program's text. -/
def laid_smalto_border_names {H : Type} : DataW H := .slice [.lit (.string [99, 108, 97, 109, 112]), .lit (.string [109, 105, 114, 114, 111, 114]), .lit (.string [119, 114, 97, 112])] []
def laid_smalto_raw_kinds {H : Type} : DataW H := .agg [.agg [.lit (.string [98, 111, 120]), .lit (.int .i64 0)], .agg [.lit (.string [99, 117, 98, 105, 99]), .lit (.int .i64 2)], .agg [.lit (.string [108, 97, 110, 99, 122, 111, 115]), .lit (.int .i64 3)]]

/-- 'smaltolaw21.WorkerNone': WHATEVER THE INPUT: true; the input reads as it did. -/
def workerNoneSpec : ChangeSpec := { name := "workerNone", fn := fun _ => fun
  | [d1, d2] => { results := [.lit (.bool true)], args := [d1, d2] }
  | _ => none }
def workerNoneRow : OpenClaim := { program := "ytdbebmafgpdfhaagreatdoor", sum := "b6c3964340132ccfd703d86a4ec4e74fb95d09d517eccc8d810b6bd1f462ae59", func := "smalto/smaltolaw21.WorkerNone", spec := "workerNone", inPlace := ["math/bits.Add64"], unfollowed := true, recurses := true, named := ["smalto/border.names", "smalto/raw.kinds", "math/bits.divideError", "math/bits.overflowError"], apart := false, laid := [("smalto/border.names", laid_smalto_border_names), ("smalto/raw.kinds", laid_smalto_raw_kinds)] }
def WorkerNoneSaid : Prop := workerNoneRow.holds Tryz.pinned (OpenSpec.ofChange workerNoneSpec)

/-- ITS FALSE NEIGHBOUR: 'it returns false'. Refute it at one input. -/
def workerNoneWrong : ChangeSpec := { name := "workerNone", fn := fun _ => fun
  | [d1, d2] => { results := [.lit (.bool false)], args := [d1, d2] }
  | _ => none }
def WorkerNoneWrongFalsely : Prop := workerNoneRow.holds Tryz.pinned (OpenSpec.ofChange workerNoneWrong)

/-- 'smaltolaw21.WorkerPlays': WHATEVER THE INPUT: true; the input reads as it did. -/
def workerPlaysSpec : ChangeSpec := { name := "workerPlays", fn := fun _ => fun
  | [d1, d2, d3, d4, d5, d6] => { results := [.lit (.bool true)], args := [d1, d2, d3, d4, d5, d6] }
  | _ => none }
def workerPlaysRow : OpenClaim := { program := "ytdbebmafgpdfhaagreatdoor", sum := "b6c3964340132ccfd703d86a4ec4e74fb95d09d517eccc8d810b6bd1f462ae59", func := "smalto/smaltolaw21.WorkerPlays", spec := "workerPlays", inPlace := ["math/bits.Add64"], unfollowed := true, recurses := true, named := ["smalto/border.names", "smalto/raw.kinds", "math/bits.divideError", "math/bits.overflowError"], apart := false, laid := [("smalto/border.names", laid_smalto_border_names), ("smalto/raw.kinds", laid_smalto_raw_kinds)] }
def WorkerPlaysSaid : Prop := workerPlaysRow.holds Tryz.pinned (OpenSpec.ofChange workerPlaysSpec)

/-- ITS FALSE NEIGHBOUR: 'it returns false'. Refute it at one input. -/
def workerPlaysWrong : ChangeSpec := { name := "workerPlays", fn := fun _ => fun
  | [d1, d2, d3, d4, d5, d6] => { results := [.lit (.bool false)], args := [d1, d2, d3, d4, d5, d6] }
  | _ => none }
def WorkerPlaysWrongFalsely : Prop := workerPlaysRow.holds Tryz.pinned (OpenSpec.ofChange workerPlaysWrong)

/-- 'smaltolaw21.WorkerScratch': WHATEVER THE INPUT: true; the input reads as it did. -/
def workerScratchSpec : ChangeSpec := { name := "workerScratch", fn := fun _ => fun
  | [d1, d2, d3, d4] => { results := [.lit (.bool true)], args := [d1, d2, d3, d4] }
  | _ => none }
def workerScratchRow : OpenClaim := { program := "ytdbebmafgpdfhaagreatdoor", sum := "b6c3964340132ccfd703d86a4ec4e74fb95d09d517eccc8d810b6bd1f462ae59", func := "smalto/smaltolaw21.WorkerScratch", spec := "workerScratch", inPlace := ["math/bits.Add64"], unfollowed := true, recurses := true, named := ["smalto/border.names", "smalto/raw.kinds", "math/bits.divideError", "math/bits.overflowError"], apart := false, laid := [("smalto/border.names", laid_smalto_border_names), ("smalto/raw.kinds", laid_smalto_raw_kinds)] }
def WorkerScratchSaid : Prop := workerScratchRow.holds Tryz.pinned (OpenSpec.ofChange workerScratchSpec)

/-- ITS FALSE NEIGHBOUR: 'it returns false'. Refute it at one input. -/
def workerScratchWrong : ChangeSpec := { name := "workerScratch", fn := fun _ => fun
  | [d1, d2, d3, d4] => { results := [.lit (.bool false)], args := [d1, d2, d3, d4] }
  | _ => none }
def WorkerScratchWrongFalsely : Prop := workerScratchRow.holds Tryz.pinned (OpenSpec.ofChange workerScratchWrong)

/-- 'smaltolaw21.WorkerAlone': WHATEVER THE INPUT: true; the input reads as it did. -/
def workerAloneSpec : ChangeSpec := { name := "workerAlone", fn := fun _ => fun
  | [d1, d2, d3, d4] => { results := [.lit (.bool true)], args := [d1, d2, d3, d4] }
  | _ => none }
def workerAloneRow : OpenClaim := { program := "ytdbebmafgpdfhaagreatdoor", sum := "b6c3964340132ccfd703d86a4ec4e74fb95d09d517eccc8d810b6bd1f462ae59", func := "smalto/smaltolaw21.WorkerAlone", spec := "workerAlone", inPlace := ["math/bits.Add64"], unfollowed := true, recurses := true, named := ["smalto/border.names", "smalto/raw.kinds", "math/bits.divideError", "math/bits.overflowError"], apart := false, laid := [("smalto/border.names", laid_smalto_border_names), ("smalto/raw.kinds", laid_smalto_raw_kinds)] }
def WorkerAloneSaid : Prop := workerAloneRow.holds Tryz.pinned (OpenSpec.ofChange workerAloneSpec)

/-- ITS FALSE NEIGHBOUR: 'it returns false'. Refute it at one input. -/
def workerAloneWrong : ChangeSpec := { name := "workerAlone", fn := fun _ => fun
  | [d1, d2, d3, d4] => { results := [.lit (.bool false)], args := [d1, d2, d3, d4] }
  | _ => none }
def WorkerAloneWrongFalsely : Prop := workerAloneRow.holds Tryz.pinned (OpenSpec.ofChange workerAloneWrong)

/- THE SECOND FORM. 'bulk': how many values and letters a reading holds, each counted each time it is reached (what is shared counts as often as it is met; a slice's spare places count too). A statement '..UptoSaid' is the law's where the arguments, and the package variables that the reading takes, are together of bulk at most 1048576: NARROWER than '..Said'. Prove '..Said' where nothing that the law and all that it calls make is longer than what came in: it says more and counts as full. Else prove '..UptoSaid'. A law counts once. -/
mutual
def uptoBulk {H : Type} : DataW H → Nat
  | .lit (.string bytes) => bytes.length + 1
  | .lit _ => 1
  | .nil => 1
  | .ptr d => uptoBulk d + 1
  | .slice elems spare => uptoBulkAll elems + uptoBulkAll spare + 1
  | .agg parts => uptoBulkAll parts + 1
  | .iface _ d => uptoBulk d + 1
  | .map entries => uptoBulkEntries entries + 1
  | .held _ => 1
def uptoBulkAll {H : Type} : List (DataW H) → Nat
  | [] => 0
  | d :: r => uptoBulk d + uptoBulkAll r
def uptoBulkEntries {H : Type} : List (Lit × DataW H) → Nat
  | [] => 0
  | x :: r => uptoBulkEntry x + uptoBulkEntries r
def uptoBulkEntry {H : Type} : Lit × DataW H → Nat
  | (.string bytes, d) => bytes.length + uptoBulk d + 1
  | (_, d) => uptoBulk d + 1
 end
def uptoSmall : (H : Type) → List (DataW H) → Bool := fun _ ds => decide (uptoBulkAll ds ≤ 1048576)
def OpenSpec.upto (s : _root_.Go.ChangeSpec) : _root_.Go.OpenSpec := { _root_.Go.OpenSpec.ofChange s with cond := some uptoSmall }

/-- 'smaltolaw21.WorkerNone', WHERE WHAT IT READS IS OF BULK AT MOST 1048576: true; the input reads as it did. -/
def workerNoneUptoRow : OpenClaim := { program := "ytdbebmafgpdfhaagreatdoor", sum := "b6c3964340132ccfd703d86a4ec4e74fb95d09d517eccc8d810b6bd1f462ae59", func := "smalto/smaltolaw21.WorkerNone", spec := "workerNone", inPlace := ["math/bits.Add64"], unfollowed := true, recurses := true, named := ["smalto/border.names", "smalto/raw.kinds", "math/bits.divideError", "math/bits.overflowError"], apart := false, laid := [("smalto/border.names", laid_smalto_border_names), ("smalto/raw.kinds", laid_smalto_raw_kinds)], narrowed := true }
def WorkerNoneUptoSaid : Prop := workerNoneUptoRow.holds Tryz.pinned (OpenSpec.upto workerNoneSpec)

/-- 'smaltolaw21.WorkerPlays', WHERE WHAT IT READS IS OF BULK AT MOST 1048576: true; the input reads as it did. -/
def workerPlaysUptoRow : OpenClaim := { program := "ytdbebmafgpdfhaagreatdoor", sum := "b6c3964340132ccfd703d86a4ec4e74fb95d09d517eccc8d810b6bd1f462ae59", func := "smalto/smaltolaw21.WorkerPlays", spec := "workerPlays", inPlace := ["math/bits.Add64"], unfollowed := true, recurses := true, named := ["smalto/border.names", "smalto/raw.kinds", "math/bits.divideError", "math/bits.overflowError"], apart := false, laid := [("smalto/border.names", laid_smalto_border_names), ("smalto/raw.kinds", laid_smalto_raw_kinds)], narrowed := true }
def WorkerPlaysUptoSaid : Prop := workerPlaysUptoRow.holds Tryz.pinned (OpenSpec.upto workerPlaysSpec)

/-- 'smaltolaw21.WorkerScratch', WHERE WHAT IT READS IS OF BULK AT MOST 1048576: true; the input reads as it did. -/
def workerScratchUptoRow : OpenClaim := { program := "ytdbebmafgpdfhaagreatdoor", sum := "b6c3964340132ccfd703d86a4ec4e74fb95d09d517eccc8d810b6bd1f462ae59", func := "smalto/smaltolaw21.WorkerScratch", spec := "workerScratch", inPlace := ["math/bits.Add64"], unfollowed := true, recurses := true, named := ["smalto/border.names", "smalto/raw.kinds", "math/bits.divideError", "math/bits.overflowError"], apart := false, laid := [("smalto/border.names", laid_smalto_border_names), ("smalto/raw.kinds", laid_smalto_raw_kinds)], narrowed := true }
def WorkerScratchUptoSaid : Prop := workerScratchUptoRow.holds Tryz.pinned (OpenSpec.upto workerScratchSpec)

/-- 'smaltolaw21.WorkerAlone', WHERE WHAT IT READS IS OF BULK AT MOST 1048576: true; the input reads as it did. -/
def workerAloneUptoRow : OpenClaim := { program := "ytdbebmafgpdfhaagreatdoor", sum := "b6c3964340132ccfd703d86a4ec4e74fb95d09d517eccc8d810b6bd1f462ae59", func := "smalto/smaltolaw21.WorkerAlone", spec := "workerAlone", inPlace := ["math/bits.Add64"], unfollowed := true, recurses := true, named := ["smalto/border.names", "smalto/raw.kinds", "math/bits.divideError", "math/bits.overflowError"], apart := false, laid := [("smalto/border.names", laid_smalto_border_names), ("smalto/raw.kinds", laid_smalto_raw_kinds)], narrowed := true }
def WorkerAloneUptoSaid : Prop := workerAloneUptoRow.holds Tryz.pinned (OpenSpec.upto workerAloneSpec)

end Rows
end Go.Proofs.YtdbebmafgpdfhaaGreatDoor
