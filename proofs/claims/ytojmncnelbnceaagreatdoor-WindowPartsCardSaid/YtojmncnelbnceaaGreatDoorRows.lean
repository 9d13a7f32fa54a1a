/-
  NARROWER THAN 'FOR EVERY INPUT', by the rows' own cells (each row's printed sentence says how): WindowOnce: laid · WindowNew: laid · WindowWrites: laid · WindowParts: laid · WindowSteps: laid.
  DERIVED. THE GIVEN ROWS OF THIS SEAT. 5 by the template 'for every input the law returns true; each argument reads behind the call as it read before'; 0 by the template 'total and deterministic' (their statements: YtojmncnelbnceaaGreatDoorTotals.lean).
  GIVEN WITH THE SEED: the statements are not yours to turn. If you find one false, say at which input.
  Laid BY PROGRAM, IN A SANDBOX (cutbox-rows.mjs): the forced cells as the released guide's own fill.sh prints them over the translation cc99cb405b17bb48… (all of the seat's roots in one cut). By AI agents, Wed Nov 11 2026. No macro, syntax, notation, axiom, sorry.
-/
import Derived.Test.YtojmncnelbnceaaGreatDoorChecked
import GoSem.Claim
import GoSem.ClaimJoined
import GoSem.ClaimMapViews
import Derived.JoinedTies
import Derived.KernelRfl
namespace Go.Proofs.YtojmncnelbnceaaGreatDoor
/- THE CELL 'sum', in the pinned program and in every row, IS THE sha256 OF THE DUMP (.gsa) THAT YtojmncnelbnceaaGreatDoorProg.lean LOADS. Nothing in Lean hashes anything: it is a label: what it is worth is what the hold of that sum in a sandbox is worth. -/
noncomputable def Tryz.pinned : Pinned := { name := "ytojmncnelbnceaagreatdoor", sum := "cc99cb405b17bb489db45a0fafc772da591a18431ea309ff600ead84daf780ad", checked := Tryz.checked }
namespace Rows
def none {H : Type} : Left H := { results := [], args := [] }

/- WHAT THE LISTED PACKAGE-LEVEL VARIABLES READ AS WHEN THE CALL BEGINS. Each datum BY PROGRAM (the guide's laid-datum.mjs) off the statement by which the dump's own 'gosem.cut.vars' lays the variable. In a bare row this is a premise. The card (YtojmncnelbnceaaGreatDoorCards.lean) ties it to the program's text. -/
def laid_smalto_border_names {H : Type} : DataW H := .slice [.lit (.string [99, 108, 97, 109, 112]), .lit (.string [109, 105, 114, 114, 111, 114]), .lit (.string [119, 114, 97, 112])] []
def laid_smalto_raw_kinds {H : Type} : DataW H := .agg [.agg [.lit (.string [98, 111, 120]), .lit (.int .i64 0)], .agg [.lit (.string [99, 117, 98, 105, 99]), .lit (.int .i64 2)], .agg [.lit (.string [108, 97, 110, 99, 122, 111, 115]), .lit (.int .i64 3)]]

/-- 'smaltolaw17.WindowOnce': WHATEVER THE INPUT: true; the input reads as it did. -/
def windowOnceSpec : ChangeSpec := { name := "windowOnce", fn := fun _ => fun
  | [d1, d2, d3, d4, d5, d6] => { results := [.lit (.bool true)], args := [d1, d2, d3, d4, d5, d6] }
  | _ => none }
def windowOnceRow : OpenClaim := { program := "ytojmncnelbnceaagreatdoor", sum := "cc99cb405b17bb489db45a0fafc772da591a18431ea309ff600ead84daf780ad", func := "smalto/smaltolaw17.WindowOnce", spec := "windowOnce", inPlace := ["math/bits.Add64"], unfollowed := true, recurses := true, named := ["smalto/border.names", "smalto/raw.kinds", "math/bits.divideError", "math/bits.overflowError"], apart := false, laid := [("smalto/border.names", laid_smalto_border_names), ("smalto/raw.kinds", laid_smalto_raw_kinds)] }
def WindowOnceSaid : Prop := windowOnceRow.holds Tryz.pinned (OpenSpec.ofChange windowOnceSpec)

/-- ITS FALSE NEIGHBOUR: 'it returns false'. Refute it at one input. -/
def windowOnceWrong : ChangeSpec := { name := "windowOnce", fn := fun _ => fun
  | [d1, d2, d3, d4, d5, d6] => { results := [.lit (.bool false)], args := [d1, d2, d3, d4, d5, d6] }
  | _ => none }
def WindowOnceWrongFalsely : Prop := windowOnceRow.holds Tryz.pinned (OpenSpec.ofChange windowOnceWrong)

/-- 'smaltolaw17.WindowNew': WHATEVER THE INPUT: true; the input reads as it did. -/
def windowNewSpec : ChangeSpec := { name := "windowNew", fn := fun _ => fun
  | [d1, d2, d3, d4, d5, d6, d7] => { results := [.lit (.bool true)], args := [d1, d2, d3, d4, d5, d6, d7] }
  | _ => none }
def windowNewRow : OpenClaim := { program := "ytojmncnelbnceaagreatdoor", sum := "cc99cb405b17bb489db45a0fafc772da591a18431ea309ff600ead84daf780ad", func := "smalto/smaltolaw17.WindowNew", spec := "windowNew", inPlace := ["math/bits.Add64"], unfollowed := true, recurses := true, named := ["smalto/border.names", "smalto/raw.kinds", "math/bits.divideError", "math/bits.overflowError"], apart := false, laid := [("smalto/border.names", laid_smalto_border_names), ("smalto/raw.kinds", laid_smalto_raw_kinds)] }
def WindowNewSaid : Prop := windowNewRow.holds Tryz.pinned (OpenSpec.ofChange windowNewSpec)

/-- ITS FALSE NEIGHBOUR: 'it returns false'. Refute it at one input. -/
def windowNewWrong : ChangeSpec := { name := "windowNew", fn := fun _ => fun
  | [d1, d2, d3, d4, d5, d6, d7] => { results := [.lit (.bool false)], args := [d1, d2, d3, d4, d5, d6, d7] }
  | _ => none }
def WindowNewWrongFalsely : Prop := windowNewRow.holds Tryz.pinned (OpenSpec.ofChange windowNewWrong)

/-- 'smaltolaw17.WindowWrites': WHATEVER THE INPUT: true; the input reads as it did. -/
def windowWritesSpec : ChangeSpec := { name := "windowWrites", fn := fun _ => fun
  | [d1, d2, d3, d4, d5, d6, d7] => { results := [.lit (.bool true)], args := [d1, d2, d3, d4, d5, d6, d7] }
  | _ => none }
def windowWritesRow : OpenClaim := { program := "ytojmncnelbnceaagreatdoor", sum := "cc99cb405b17bb489db45a0fafc772da591a18431ea309ff600ead84daf780ad", func := "smalto/smaltolaw17.WindowWrites", spec := "windowWrites", inPlace := ["math/bits.Add64"], unfollowed := true, recurses := true, named := ["smalto/border.names", "smalto/raw.kinds", "math/bits.divideError", "math/bits.overflowError"], apart := false, laid := [("smalto/border.names", laid_smalto_border_names), ("smalto/raw.kinds", laid_smalto_raw_kinds)] }
def WindowWritesSaid : Prop := windowWritesRow.holds Tryz.pinned (OpenSpec.ofChange windowWritesSpec)

/-- ITS FALSE NEIGHBOUR: 'it returns false'. Refute it at one input. -/
def windowWritesWrong : ChangeSpec := { name := "windowWrites", fn := fun _ => fun
  | [d1, d2, d3, d4, d5, d6, d7] => { results := [.lit (.bool false)], args := [d1, d2, d3, d4, d5, d6, d7] }
  | _ => none }
def WindowWritesWrongFalsely : Prop := windowWritesRow.holds Tryz.pinned (OpenSpec.ofChange windowWritesWrong)

/-- 'smaltolaw17.WindowParts': WHATEVER THE INPUT: true; the input reads as it did. -/
def windowPartsSpec : ChangeSpec := { name := "windowParts", fn := fun _ => fun
  | [d1, d2, d3, d4, d5, d6, d7, d8] => { results := [.lit (.bool true)], args := [d1, d2, d3, d4, d5, d6, d7, d8] }
  | _ => none }
def windowPartsRow : OpenClaim := { program := "ytojmncnelbnceaagreatdoor", sum := "cc99cb405b17bb489db45a0fafc772da591a18431ea309ff600ead84daf780ad", func := "smalto/smaltolaw17.WindowParts", spec := "windowParts", inPlace := ["math/bits.Add64"], unfollowed := true, recurses := true, named := ["smalto/border.names", "smalto/raw.kinds", "math/bits.divideError", "math/bits.overflowError"], apart := false, laid := [("smalto/border.names", laid_smalto_border_names), ("smalto/raw.kinds", laid_smalto_raw_kinds)] }
def WindowPartsSaid : Prop := windowPartsRow.holds Tryz.pinned (OpenSpec.ofChange windowPartsSpec)

/-- ITS FALSE NEIGHBOUR: 'it returns false'. Refute it at one input. -/
def windowPartsWrong : ChangeSpec := { name := "windowParts", fn := fun _ => fun
  | [d1, d2, d3, d4, d5, d6, d7, d8] => { results := [.lit (.bool false)], args := [d1, d2, d3, d4, d5, d6, d7, d8] }
  | _ => none }
def WindowPartsWrongFalsely : Prop := windowPartsRow.holds Tryz.pinned (OpenSpec.ofChange windowPartsWrong)

/-- 'smaltolaw17.WindowSteps': WHATEVER THE INPUT: true; the input reads as it did. -/
def windowStepsSpec : ChangeSpec := { name := "windowSteps", fn := fun _ => fun
  | [d1, d2, d3, d4, d5, d6] => { results := [.lit (.bool true)], args := [d1, d2, d3, d4, d5, d6] }
  | _ => none }
def windowStepsRow : OpenClaim := { program := "ytojmncnelbnceaagreatdoor", sum := "cc99cb405b17bb489db45a0fafc772da591a18431ea309ff600ead84daf780ad", func := "smalto/smaltolaw17.WindowSteps", spec := "windowSteps", inPlace := ["math/bits.Add64"], unfollowed := true, recurses := true, named := ["smalto/border.names", "smalto/raw.kinds", "math/bits.divideError", "math/bits.overflowError"], apart := false, laid := [("smalto/border.names", laid_smalto_border_names), ("smalto/raw.kinds", laid_smalto_raw_kinds)] }
def WindowStepsSaid : Prop := windowStepsRow.holds Tryz.pinned (OpenSpec.ofChange windowStepsSpec)

/-- ITS FALSE NEIGHBOUR: 'it returns false'. Refute it at one input. -/
def windowStepsWrong : ChangeSpec := { name := "windowSteps", fn := fun _ => fun
  | [d1, d2, d3, d4, d5, d6] => { results := [.lit (.bool false)], args := [d1, d2, d3, d4, d5, d6] }
  | _ => none }
def WindowStepsWrongFalsely : Prop := windowStepsRow.holds Tryz.pinned (OpenSpec.ofChange windowStepsWrong)

/- THE SECOND FORM. 'bulk': how many values and letters a reading holds, each counted each time it is reached (what is shared counts as often as it is met; a slice's spare places count too). A statement '..UptoSaid' is the law's where the arguments, and the package variables that the reading takes, are together of bulk at most 1048576: NARROWER than '..Said'. Prove '..Said' where nothing that the law and all that it calls make is longer than what came in: it says more and counts as full. Else prove '..UptoSaid'. A law counts once. -/
mutual
def uptoBulk {H : Type} : DataW H → Nat
  | .lit (.string bytes) => bytes.length + 1
  | .lit _ => 1
  | .nil => 1
  | .ptr d => uptoBulk d + 1
  | .slice elems spare => uptoBulkAll elems + uptoBulkAll spare + 1
  | .agg parts => uptoBulkAll parts + 1
  | .iface _ d => uptoBulk d + 1
  | .map entries => uptoBulkEntries entries + 1
  | .held _ => 1
def uptoBulkAll {H : Type} : List (DataW H) → Nat
  | [] => 0
  | d :: r => uptoBulk d + uptoBulkAll r
def uptoBulkEntries {H : Type} : List (Lit × DataW H) → Nat
  | [] => 0
  | x :: r => uptoBulkEntry x + uptoBulkEntries r
def uptoBulkEntry {H : Type} : Lit × DataW H → Nat
  | (.string bytes, d) => bytes.length + uptoBulk d + 1
  | (_, d) => uptoBulk d + 1
 end
def uptoSmall : (H : Type) → List (DataW H) → Bool := fun _ ds => decide (uptoBulkAll ds ≤ 1048576)
def OpenSpec.upto (s : _root_.Go.ChangeSpec) : _root_.Go.OpenSpec := { _root_.Go.OpenSpec.ofChange s with cond := some uptoSmall }

/-- 'smaltolaw17.WindowOnce', WHERE WHAT IT READS IS OF BULK AT MOST 1048576: true; the input reads as it did. -/
def windowOnceUptoRow : OpenClaim := { program := "ytojmncnelbnceaagreatdoor", sum := "cc99cb405b17bb489db45a0fafc772da591a18431ea309ff600ead84daf780ad", func := "smalto/smaltolaw17.WindowOnce", spec := "windowOnce", inPlace := ["math/bits.Add64"], unfollowed := true, recurses := true, named := ["smalto/border.names", "smalto/raw.kinds", "math/bits.divideError", "math/bits.overflowError"], apart := false, laid := [("smalto/border.names", laid_smalto_border_names), ("smalto/raw.kinds", laid_smalto_raw_kinds)], narrowed := true }
def WindowOnceUptoSaid : Prop := windowOnceUptoRow.holds Tryz.pinned (OpenSpec.upto windowOnceSpec)

/-- 'smaltolaw17.WindowNew', WHERE WHAT IT READS IS OF BULK AT MOST 1048576: true; the input reads as it did. -/
def windowNewUptoRow : OpenClaim := { program := "ytojmncnelbnceaagreatdoor", sum := "cc99cb405b17bb489db45a0fafc772da591a18431ea309ff600ead84daf780ad", func := "smalto/smaltolaw17.WindowNew", spec := "windowNew", inPlace := ["math/bits.Add64"], unfollowed := true, recurses := true, named := ["smalto/border.names", "smalto/raw.kinds", "math/bits.divideError", "math/bits.overflowError"], apart := false, laid := [("smalto/border.names", laid_smalto_border_names), ("smalto/raw.kinds", laid_smalto_raw_kinds)], narrowed := true }
def WindowNewUptoSaid : Prop := windowNewUptoRow.holds Tryz.pinned (OpenSpec.upto windowNewSpec)

/-- 'smaltolaw17.WindowWrites', WHERE WHAT IT READS IS OF BULK AT MOST 1048576: true; the input reads as it did. -/
def windowWritesUptoRow : OpenClaim := { program := "ytojmncnelbnceaagreatdoor", sum := "cc99cb405b17bb489db45a0fafc772da591a18431ea309ff600ead84daf780ad", func := "smalto/smaltolaw17.WindowWrites", spec := "windowWrites", inPlace := ["math/bits.Add64"], unfollowed := true, recurses := true, named := ["smalto/border.names", "smalto/raw.kinds", "math/bits.divideError", "math/bits.overflowError"], apart := false, laid := [("smalto/border.names", laid_smalto_border_names), ("smalto/raw.kinds", laid_smalto_raw_kinds)], narrowed := true }
def WindowWritesUptoSaid : Prop := windowWritesUptoRow.holds Tryz.pinned (OpenSpec.upto windowWritesSpec)

/-- 'smaltolaw17.WindowParts', WHERE WHAT IT READS IS OF BULK AT MOST 1048576: true; the input reads as it did. -/
def windowPartsUptoRow : OpenClaim := { program := "ytojmncnelbnceaagreatdoor", sum := "cc99cb405b17bb489db45a0fafc772da591a18431ea309ff600ead84daf780ad", func := "smalto/smaltolaw17.WindowParts", spec := "windowParts", inPlace := ["math/bits.Add64"], unfollowed := true, recurses := true, named := ["smalto/border.names", "smalto/raw.kinds", "math/bits.divideError", "math/bits.overflowError"], apart := false, laid := [("smalto/border.names", laid_smalto_border_names), ("smalto/raw.kinds", laid_smalto_raw_kinds)], narrowed := true }
def WindowPartsUptoSaid : Prop := windowPartsUptoRow.holds Tryz.pinned (OpenSpec.upto windowPartsSpec)

/-- 'smaltolaw17.WindowSteps', WHERE WHAT IT READS IS OF BULK AT MOST 1048576: true; the input reads as it did. -/
def windowStepsUptoRow : OpenClaim := { program := "ytojmncnelbnceaagreatdoor", sum := "cc99cb405b17bb489db45a0fafc772da591a18431ea309ff600ead84daf780ad", func := "smalto/smaltolaw17.WindowSteps", spec := "windowSteps", inPlace := ["math/bits.Add64"], unfollowed := true, recurses := true, named := ["smalto/border.names", "smalto/raw.kinds", "math/bits.divideError", "math/bits.overflowError"], apart := false, laid := [("smalto/border.names", laid_smalto_border_names), ("smalto/raw.kinds", laid_smalto_raw_kinds)], narrowed := true }
def WindowStepsUptoSaid : Prop := windowStepsUptoRow.holds Tryz.pinned (OpenSpec.upto windowStepsSpec)

end Rows
end Go.Proofs.YtojmncnelbnceaaGreatDoor
