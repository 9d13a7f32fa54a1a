/-
  NARROWER THAN 'FOR EVERY INPUT', by the rows' own cells (each row's printed sentence says how): PoolWaits: laid · PoolScratch: laid · PoolPlays: laid · PoolRaces: laid.
  DERIVED. THE GIVEN ROWS OF THIS SEAT. 4 by the template 'for every input the law returns true; each argument reads behind the call as it read before'; 0 by the template 'total and deterministic' (their statements: YtjljhnandbbldaaGreatDoorTotals.lean).
  GIVEN WITH THE SEED: the statements are not yours to turn. If you find one false, say at which input.
  Laid BY PROGRAM, IN A SANDBOX (cutbox-rows.mjs): the forced cells as the released guide's own fill.sh prints them over the translation 8df9f38794aa12d7… (all of the seat's roots in one cut). By AI agents, Wed Nov 11 2026. No macro, syntax, notation, axiom, sorry.
-/
import Derived.Test.YtjljhnandbbldaaGreatDoorChecked
import GoSem.Claim
import GoSem.ClaimJoined
import GoSem.ClaimMapViews
import Derived.JoinedTies
import Derived.KernelRfl
namespace Go.Proofs.YtjljhnandbbldaaGreatDoor
/- THE CELL 'sum', in the pinned program and in every row, IS THE sha256 OF THE DUMP (.gsa) THAT YtjljhnandbbldaaGreatDoorProg.lean LOADS. Nothing in Lean hashes anything: it is a label: what it is worth is what the hold of that sum in a sandbox is worth. -/
noncomputable def Tryz.pinned : Pinned := { name := "ytjljhnandbbldaagreatdoor", sum := "8df9f38794aa12d75895cde3fed798fb0a8c468606514c4b46356068b293f68d", checked := Tryz.checked }
namespace Rows
def none {H : Type} : Left H := { results := [], args := [] }

/- WHAT THE LISTED PACKAGE-LEVEL VARIABLES READ AS WHEN THE CALL BEGINS. Each datum BY PROGRAM (the guide's laid-datum.mjs) off the statement by which the dump's own 'gosem.cut.vars' lays the variable. In a bare row this is a premise. The card (YtjljhnandbbldaaGreatDoorCards.lean) ties it to the program's text. -/
def laid_smalto_border_names {H : Type} : DataW H := .slice [.lit (.string [99, 108, 97, 109, 112]), .lit (.string [109, 105, 114, 114, 111, 114]), .lit (.string [119, 114, 97, 112])] []
def laid_smalto_raw_kinds {H : Type} : DataW H := .agg [.agg [.lit (.string [98, 111, 120]), .lit (.int .i64 0)], .agg [.lit (.string [99, 117, 98, 105, 99]), .lit (.int .i64 2)], .agg [.lit (.string [108, 97, 110, 99, 122, 111, 115]), .lit (.int .i64 3)]]

/-- 'smaltolaw22.PoolWaits': WHATEVER THE INPUT: true; the input reads as it did. -/
def poolWaitsSpec : ChangeSpec := { name := "poolWaits", fn := fun _ => fun
  | [d1, d2, d3, d4, d5, d6, d7] => { results := [.lit (.bool true)], args := [d1, d2, d3, d4, d5, d6, d7] }
  | _ => none }
def poolWaitsRow : OpenClaim := { program := "ytjljhnandbbldaagreatdoor", sum := "8df9f38794aa12d75895cde3fed798fb0a8c468606514c4b46356068b293f68d", func := "smalto/smaltolaw22.PoolWaits", spec := "poolWaits", inPlace := ["math/bits.Add64"], unfollowed := true, recurses := true, named := ["smalto/border.names", "smalto/raw.kinds", "math/bits.divideError", "math/bits.overflowError"], apart := false, laid := [("smalto/border.names", laid_smalto_border_names), ("smalto/raw.kinds", laid_smalto_raw_kinds)] }
def PoolWaitsSaid : Prop := poolWaitsRow.holds Tryz.pinned (OpenSpec.ofChange poolWaitsSpec)

/-- ITS FALSE NEIGHBOUR: 'it returns false'. Refute it at one input. -/
def poolWaitsWrong : ChangeSpec := { name := "poolWaits", fn := fun _ => fun
  | [d1, d2, d3, d4, d5, d6, d7] => { results := [.lit (.bool false)], args := [d1, d2, d3, d4, d5, d6, d7] }
  | _ => none }
def PoolWaitsWrongFalsely : Prop := poolWaitsRow.holds Tryz.pinned (OpenSpec.ofChange poolWaitsWrong)

/-- 'smaltolaw22.PoolScratch': WHATEVER THE INPUT: true; the input reads as it did. -/
def poolScratchSpec : ChangeSpec := { name := "poolScratch", fn := fun _ => fun
  | [d1, d2, d3, d4, d5, d6, d7] => { results := [.lit (.bool true)], args := [d1, d2, d3, d4, d5, d6, d7] }
  | _ => none }
def poolScratchRow : OpenClaim := { program := "ytjljhnandbbldaagreatdoor", sum := "8df9f38794aa12d75895cde3fed798fb0a8c468606514c4b46356068b293f68d", func := "smalto/smaltolaw22.PoolScratch", spec := "poolScratch", inPlace := ["math/bits.Add64"], unfollowed := true, recurses := true, named := ["smalto/border.names", "smalto/raw.kinds", "math/bits.divideError", "math/bits.overflowError"], apart := false, laid := [("smalto/border.names", laid_smalto_border_names), ("smalto/raw.kinds", laid_smalto_raw_kinds)] }
def PoolScratchSaid : Prop := poolScratchRow.holds Tryz.pinned (OpenSpec.ofChange poolScratchSpec)

/-- ITS FALSE NEIGHBOUR: 'it returns false'. Refute it at one input. -/
def poolScratchWrong : ChangeSpec := { name := "poolScratch", fn := fun _ => fun
  | [d1, d2, d3, d4, d5, d6, d7] => { results := [.lit (.bool false)], args := [d1, d2, d3, d4, d5, d6, d7] }
  | _ => none }
def PoolScratchWrongFalsely : Prop := poolScratchRow.holds Tryz.pinned (OpenSpec.ofChange poolScratchWrong)

/-- 'smaltolaw22.PoolPlays': WHATEVER THE INPUT: true; the input reads as it did. -/
def poolPlaysSpec : ChangeSpec := { name := "poolPlays", fn := fun _ => fun
  | [d1, d2, d3, d4, d5, d6, d7] => { results := [.lit (.bool true)], args := [d1, d2, d3, d4, d5, d6, d7] }
  | _ => none }
def poolPlaysRow : OpenClaim := { program := "ytjljhnandbbldaagreatdoor", sum := "8df9f38794aa12d75895cde3fed798fb0a8c468606514c4b46356068b293f68d", func := "smalto/smaltolaw22.PoolPlays", spec := "poolPlays", inPlace := ["math/bits.Add64"], unfollowed := true, recurses := true, named := ["smalto/border.names", "smalto/raw.kinds", "math/bits.divideError", "math/bits.overflowError"], apart := false, laid := [("smalto/border.names", laid_smalto_border_names), ("smalto/raw.kinds", laid_smalto_raw_kinds)] }
def PoolPlaysSaid : Prop := poolPlaysRow.holds Tryz.pinned (OpenSpec.ofChange poolPlaysSpec)

/-- ITS FALSE NEIGHBOUR: 'it returns false'. Refute it at one input. -/
def poolPlaysWrong : ChangeSpec := { name := "poolPlays", fn := fun _ => fun
  | [d1, d2, d3, d4, d5, d6, d7] => { results := [.lit (.bool false)], args := [d1, d2, d3, d4, d5, d6, d7] }
  | _ => none }
def PoolPlaysWrongFalsely : Prop := poolPlaysRow.holds Tryz.pinned (OpenSpec.ofChange poolPlaysWrong)

/-- 'smaltolaw22.PoolRaces': WHATEVER THE INPUT: true; the input reads as it did. -/
def poolRacesSpec : ChangeSpec := { name := "poolRaces", fn := fun _ => fun
  | [d1, d2, d3, d4, d5, d6, d7] => { results := [.lit (.bool true)], args := [d1, d2, d3, d4, d5, d6, d7] }
  | _ => none }
def poolRacesRow : OpenClaim := { program := "ytjljhnandbbldaagreatdoor", sum := "8df9f38794aa12d75895cde3fed798fb0a8c468606514c4b46356068b293f68d", func := "smalto/smaltolaw22.PoolRaces", spec := "poolRaces", inPlace := ["math/bits.Add64"], unfollowed := true, recurses := true, named := ["smalto/border.names", "smalto/raw.kinds", "math/bits.divideError", "math/bits.overflowError"], apart := false, laid := [("smalto/border.names", laid_smalto_border_names), ("smalto/raw.kinds", laid_smalto_raw_kinds)] }
def PoolRacesSaid : Prop := poolRacesRow.holds Tryz.pinned (OpenSpec.ofChange poolRacesSpec)

/-- ITS FALSE NEIGHBOUR: 'it returns false'. Refute it at one input. -/
def poolRacesWrong : ChangeSpec := { name := "poolRaces", fn := fun _ => fun
  | [d1, d2, d3, d4, d5, d6, d7] => { results := [.lit (.bool false)], args := [d1, d2, d3, d4, d5, d6, d7] }
  | _ => none }
def PoolRacesWrongFalsely : Prop := poolRacesRow.holds Tryz.pinned (OpenSpec.ofChange poolRacesWrong)

/- THE SECOND FORM. 'bulk': how many values and letters a reading holds, each counted each time it is reached (what is shared counts as often as it is met; a slice's spare places count too). A statement '..UptoSaid' is the law's where the arguments, and the package variables that the reading takes, are together of bulk at most 1048576: NARROWER than '..Said'. Prove '..Said' where nothing that the law and all that it calls make is longer than what came in: it says more and counts as full. Else prove '..UptoSaid'. A law counts once. -/
mutual
def uptoBulk {H : Type} : DataW H → Nat
  | .lit (.string bytes) => bytes.length + 1
  | .lit _ => 1
  | .nil => 1
  | .ptr d => uptoBulk d + 1
  | .slice elems spare => uptoBulkAll elems + uptoBulkAll spare + 1
  | .agg parts => uptoBulkAll parts + 1
  | .iface _ d => uptoBulk d + 1
  | .map entries => uptoBulkEntries entries + 1
  | .held _ => 1
def uptoBulkAll {H : Type} : List (DataW H) → Nat
  | [] => 0
  | d :: r => uptoBulk d + uptoBulkAll r
def uptoBulkEntries {H : Type} : List (Lit × DataW H) → Nat
  | [] => 0
  | x :: r => uptoBulkEntry x + uptoBulkEntries r
def uptoBulkEntry {H : Type} : Lit × DataW H → Nat
  | (.string bytes, d) => bytes.length + uptoBulk d + 1
  | (_, d) => uptoBulk d + 1
 end
def uptoSmall : (H : Type) → List (DataW H) → Bool := fun _ ds => decide (uptoBulkAll ds ≤ 1048576)
def OpenSpec.upto (s : _root_.Go.ChangeSpec) : _root_.Go.OpenSpec := { _root_.Go.OpenSpec.ofChange s with cond := some uptoSmall }

/-- 'smaltolaw22.PoolWaits', WHERE WHAT IT READS IS OF BULK AT MOST 1048576: true; the input reads as it did. -/
def poolWaitsUptoRow : OpenClaim := { program := "ytjljhnandbbldaagreatdoor", sum := "8df9f38794aa12d75895cde3fed798fb0a8c468606514c4b46356068b293f68d", func := "smalto/smaltolaw22.PoolWaits", spec := "poolWaits", inPlace := ["math/bits.Add64"], unfollowed := true, recurses := true, named := ["smalto/border.names", "smalto/raw.kinds", "math/bits.divideError", "math/bits.overflowError"], apart := false, laid := [("smalto/border.names", laid_smalto_border_names), ("smalto/raw.kinds", laid_smalto_raw_kinds)], narrowed := true }
def PoolWaitsUptoSaid : Prop := poolWaitsUptoRow.holds Tryz.pinned (OpenSpec.upto poolWaitsSpec)

/-- 'smaltolaw22.PoolScratch', WHERE WHAT IT READS IS OF BULK AT MOST 1048576: true; the input reads as it did. -/
def poolScratchUptoRow : OpenClaim := { program := "ytjljhnandbbldaagreatdoor", sum := "8df9f38794aa12d75895cde3fed798fb0a8c468606514c4b46356068b293f68d", func := "smalto/smaltolaw22.PoolScratch", spec := "poolScratch", inPlace := ["math/bits.Add64"], unfollowed := true, recurses := true, named := ["smalto/border.names", "smalto/raw.kinds", "math/bits.divideError", "math/bits.overflowError"], apart := false, laid := [("smalto/border.names", laid_smalto_border_names), ("smalto/raw.kinds", laid_smalto_raw_kinds)], narrowed := true }
def PoolScratchUptoSaid : Prop := poolScratchUptoRow.holds Tryz.pinned (OpenSpec.upto poolScratchSpec)

/-- 'smaltolaw22.PoolPlays', WHERE WHAT IT READS IS OF BULK AT MOST 1048576: true; the input reads as it did. -/
def poolPlaysUptoRow : OpenClaim := { program := "ytjljhnandbbldaagreatdoor", sum := "8df9f38794aa12d75895cde3fed798fb0a8c468606514c4b46356068b293f68d", func := "smalto/smaltolaw22.PoolPlays", spec := "poolPlays", inPlace := ["math/bits.Add64"], unfollowed := true, recurses := true, named := ["smalto/border.names", "smalto/raw.kinds", "math/bits.divideError", "math/bits.overflowError"], apart := false, laid := [("smalto/border.names", laid_smalto_border_names), ("smalto/raw.kinds", laid_smalto_raw_kinds)], narrowed := true }
def PoolPlaysUptoSaid : Prop := poolPlaysUptoRow.holds Tryz.pinned (OpenSpec.upto poolPlaysSpec)

/-- 'smaltolaw22.PoolRaces', WHERE WHAT IT READS IS OF BULK AT MOST 1048576: true; the input reads as it did. -/
def poolRacesUptoRow : OpenClaim := { program := "ytjljhnandbbldaagreatdoor", sum := "8df9f38794aa12d75895cde3fed798fb0a8c468606514c4b46356068b293f68d", func := "smalto/smaltolaw22.PoolRaces", spec := "poolRaces", inPlace := ["math/bits.Add64"], unfollowed := true, recurses := true, named := ["smalto/border.names", "smalto/raw.kinds", "math/bits.divideError", "math/bits.overflowError"], apart := false, laid := [("smalto/border.names", laid_smalto_border_names), ("smalto/raw.kinds", laid_smalto_raw_kinds)], narrowed := true }
def PoolRacesUptoSaid : Prop := poolRacesUptoRow.holds Tryz.pinned (OpenSpec.upto poolRacesSpec)

end Rows
end Go.Proofs.YtjljhnandbbldaaGreatDoor
