/-
  No cell of these rows narrows 'for every input' (looked for: loops, veiled, ifaces, maps, wideKeys, modest, calm, conditions, laid).
  DERIVED. THE GIVEN ROWS OF THIS SEAT. 12 by the template 'for every input the law returns true; each argument reads behind the call as it read before'; 0 by the template 'total and deterministic' (their statements: YtmmcgbilnnaggaaTotals.lean).
  GIVEN WITH THE SEED: the statements are not yours to turn. If you find one false, say at which input.
  Laid BY PROGRAM, IN A SANDBOX (cutbox-rows.mjs): the forced cells as the released guide's own fill.sh prints them over the translation ee4d4a45541ed53e… (all of the seat's roots in one cut). By AI agents, Wed Nov 11 2026. No macro, syntax, notation, axiom, sorry.
-/
import Derived.Test.YtmmcgbilnnaggaaChecked
import GoSem.Claim
import GoSem.ClaimJoined
import GoSem.ClaimMapViews
import Derived.JoinedTies
import Derived.KernelRfl
namespace Go.Proofs.Ytmmcgbilnnaggaa
/- THE CELL 'sum', in the pinned program and in every row, IS THE sha256 OF THE DUMP (.gsa) THAT YtmmcgbilnnaggaaProg.lean LOADS. Nothing in Lean hashes anything: it is a label: what it is worth is what the hold of that sum in a sandbox is worth. -/
noncomputable def Try.pinned : Pinned := { name := "ytmmcgbilnnaggaa", sum := "ee4d4a45541ed53ebe8ea1094ccaf60cfa15e0632ba98e86ec421ed0225b606b", checked := Try.checked }
namespace Rows
def none {H : Type} : Left H := { results := [], args := [] }

/-- 'smaltolaw20.LedgerRace': WHATEVER THE INPUT: true; the input reads as it did. -/
def ledgerRaceSpec : ChangeSpec := { name := "ledgerRace", fn := fun _ => fun
  | [d1, d2] => { results := [.lit (.bool true)], args := [d1, d2] }
  | _ => none }
def ledgerRaceRow : OpenClaim := { program := "ytmmcgbilnnaggaa", sum := "ee4d4a45541ed53ebe8ea1094ccaf60cfa15e0632ba98e86ec421ed0225b606b", func := "smalto/smaltolaw20.LedgerRace", spec := "ledgerRace", apart := false }
def LedgerRaceSaid : Prop := ledgerRaceRow.holds Try.pinned (OpenSpec.ofChange ledgerRaceSpec)

/-- ITS FALSE NEIGHBOUR: 'it returns false'. Refute it at one input. -/
def ledgerRaceWrong : ChangeSpec := { name := "ledgerRace", fn := fun _ => fun
  | [d1, d2] => { results := [.lit (.bool false)], args := [d1, d2] }
  | _ => none }
def LedgerRaceWrongFalsely : Prop := ledgerRaceRow.holds Try.pinned (OpenSpec.ofChange ledgerRaceWrong)

/-- 'smaltolaw20.LedgerOrdered': WHATEVER THE INPUT: true; the input reads as it did. -/
def ledgerOrderedSpec : ChangeSpec := { name := "ledgerOrdered", fn := fun _ => fun
  | [d1, d2] => { results := [.lit (.bool true)], args := [d1, d2] }
  | _ => none }
def ledgerOrderedRow : OpenClaim := { program := "ytmmcgbilnnaggaa", sum := "ee4d4a45541ed53ebe8ea1094ccaf60cfa15e0632ba98e86ec421ed0225b606b", func := "smalto/smaltolaw20.LedgerOrdered", spec := "ledgerOrdered", apart := false }
def LedgerOrderedSaid : Prop := ledgerOrderedRow.holds Try.pinned (OpenSpec.ofChange ledgerOrderedSpec)

/-- ITS FALSE NEIGHBOUR: 'it returns false'. Refute it at one input. -/
def ledgerOrderedWrong : ChangeSpec := { name := "ledgerOrdered", fn := fun _ => fun
  | [d1, d2] => { results := [.lit (.bool false)], args := [d1, d2] }
  | _ => none }
def LedgerOrderedWrongFalsely : Prop := ledgerOrderedRow.holds Try.pinned (OpenSpec.ofChange ledgerOrderedWrong)

/-- 'smaltolaw19.ClockJoins': WHATEVER THE INPUT: true; the input reads as it did. -/
def clockJoinsSpec : ChangeSpec := { name := "clockJoins", fn := fun _ => fun
  | [d1, d2] => { results := [.lit (.bool true)], args := [d1, d2] }
  | _ => none }
def clockJoinsRow : OpenClaim := { program := "ytmmcgbilnnaggaa", sum := "ee4d4a45541ed53ebe8ea1094ccaf60cfa15e0632ba98e86ec421ed0225b606b", func := "smalto/smaltolaw19.ClockJoins", spec := "clockJoins", apart := false }
def ClockJoinsSaid : Prop := clockJoinsRow.holds Try.pinned (OpenSpec.ofChange clockJoinsSpec)

/-- ITS FALSE NEIGHBOUR: 'it returns false'. Refute it at one input. -/
def clockJoinsWrong : ChangeSpec := { name := "clockJoins", fn := fun _ => fun
  | [d1, d2] => { results := [.lit (.bool false)], args := [d1, d2] }
  | _ => none }
def ClockJoinsWrongFalsely : Prop := clockJoinsRow.holds Try.pinned (OpenSpec.ofChange clockJoinsWrong)

/-- 'smaltolaw20.LedgerRaces': WHATEVER THE INPUT: true; the input reads as it did. -/
def ledgerRacesSpec : ChangeSpec := { name := "ledgerRaces", fn := fun _ => fun
  | [d] => { results := [.lit (.bool true)], args := [d] }
  | _ => none }
def ledgerRacesRow : OpenClaim := { program := "ytmmcgbilnnaggaa", sum := "ee4d4a45541ed53ebe8ea1094ccaf60cfa15e0632ba98e86ec421ed0225b606b", func := "smalto/smaltolaw20.LedgerRaces", spec := "ledgerRaces", apart := false }
def LedgerRacesSaid : Prop := ledgerRacesRow.holds Try.pinned (OpenSpec.ofChange ledgerRacesSpec)

/-- ITS FALSE NEIGHBOUR: 'it returns false'. Refute it at one input. -/
def ledgerRacesWrong : ChangeSpec := { name := "ledgerRaces", fn := fun _ => fun
  | [d] => { results := [.lit (.bool false)], args := [d] }
  | _ => none }
def LedgerRacesWrongFalsely : Prop := ledgerRacesRow.holds Try.pinned (OpenSpec.ofChange ledgerRacesWrong)

/-- 'smaltolaw16.RingBelow': WHATEVER THE INPUT: true; the input reads as it did. -/
def ringBelowSpec : ChangeSpec := { name := "ringBelow", fn := fun _ => fun
  | [d1, d2] => { results := [.lit (.bool true)], args := [d1, d2] }
  | _ => none }
def ringBelowRow : OpenClaim := { program := "ytmmcgbilnnaggaa", sum := "ee4d4a45541ed53ebe8ea1094ccaf60cfa15e0632ba98e86ec421ed0225b606b", func := "smalto/smaltolaw16.RingBelow", spec := "ringBelow", unfollowed := true, recurses := true, apart := false }
def RingBelowSaid : Prop := ringBelowRow.holds Try.pinned (OpenSpec.ofChange ringBelowSpec)

/-- ITS FALSE NEIGHBOUR: 'it returns false'. Refute it at one input. -/
def ringBelowWrong : ChangeSpec := { name := "ringBelow", fn := fun _ => fun
  | [d1, d2] => { results := [.lit (.bool false)], args := [d1, d2] }
  | _ => none }
def RingBelowWrongFalsely : Prop := ringBelowRow.holds Try.pinned (OpenSpec.ofChange ringBelowWrong)

/-- 'smaltolaw16.RingSizes': WHATEVER THE INPUT: true; the input reads as it did. -/
def ringSizesSpec : ChangeSpec := { name := "ringSizes", fn := fun _ => fun
  | [d1, d2] => { results := [.lit (.bool true)], args := [d1, d2] }
  | _ => none }
def ringSizesRow : OpenClaim := { program := "ytmmcgbilnnaggaa", sum := "ee4d4a45541ed53ebe8ea1094ccaf60cfa15e0632ba98e86ec421ed0225b606b", func := "smalto/smaltolaw16.RingSizes", spec := "ringSizes", unfollowed := true, recurses := true, apart := false }
def RingSizesSaid : Prop := ringSizesRow.holds Try.pinned (OpenSpec.ofChange ringSizesSpec)

/-- ITS FALSE NEIGHBOUR: 'it returns false'. Refute it at one input. -/
def ringSizesWrong : ChangeSpec := { name := "ringSizes", fn := fun _ => fun
  | [d1, d2] => { results := [.lit (.bool false)], args := [d1, d2] }
  | _ => none }
def RingSizesWrongFalsely : Prop := ringSizesRow.holds Try.pinned (OpenSpec.ofChange ringSizesWrong)

/-- 'smaltolaw19.ClockStamps': WHATEVER THE INPUT: true; the input reads as it did. -/
def clockStampsSpec : ChangeSpec := { name := "clockStamps", fn := fun _ => fun
  | [d1, d2] => { results := [.lit (.bool true)], args := [d1, d2] }
  | _ => none }
def clockStampsRow : OpenClaim := { program := "ytmmcgbilnnaggaa", sum := "ee4d4a45541ed53ebe8ea1094ccaf60cfa15e0632ba98e86ec421ed0225b606b", func := "smalto/smaltolaw19.ClockStamps", spec := "clockStamps", apart := false }
def ClockStampsSaid : Prop := clockStampsRow.holds Try.pinned (OpenSpec.ofChange clockStampsSpec)

/-- ITS FALSE NEIGHBOUR: 'it returns false'. Refute it at one input. -/
def clockStampsWrong : ChangeSpec := { name := "clockStamps", fn := fun _ => fun
  | [d1, d2] => { results := [.lit (.bool false)], args := [d1, d2] }
  | _ => none }
def ClockStampsWrongFalsely : Prop := clockStampsRow.holds Try.pinned (OpenSpec.ofChange clockStampsWrong)

/-- 'smaltolaw19.ClockOrders': WHATEVER THE INPUT: true; the input reads as it did. -/
def clockOrdersSpec : ChangeSpec := { name := "clockOrders", fn := fun _ => fun
  | [d] => { results := [.lit (.bool true)], args := [d] }
  | _ => none }
def clockOrdersRow : OpenClaim := { program := "ytmmcgbilnnaggaa", sum := "ee4d4a45541ed53ebe8ea1094ccaf60cfa15e0632ba98e86ec421ed0225b606b", func := "smalto/smaltolaw19.ClockOrders", spec := "clockOrders", apart := false }
def ClockOrdersSaid : Prop := clockOrdersRow.holds Try.pinned (OpenSpec.ofChange clockOrdersSpec)

/-- ITS FALSE NEIGHBOUR: 'it returns false'. Refute it at one input. -/
def clockOrdersWrong : ChangeSpec := { name := "clockOrders", fn := fun _ => fun
  | [d] => { results := [.lit (.bool false)], args := [d] }
  | _ => none }
def ClockOrdersWrongFalsely : Prop := clockOrdersRow.holds Try.pinned (OpenSpec.ofChange clockOrdersWrong)

/-- 'smaltolaw16.RingSlides': WHATEVER THE INPUT: true; the input reads as it did. -/
def ringSlidesSpec : ChangeSpec := { name := "ringSlides", fn := fun _ => fun
  | [d1, d2, d3] => { results := [.lit (.bool true)], args := [d1, d2, d3] }
  | _ => none }
def ringSlidesRow : OpenClaim := { program := "ytmmcgbilnnaggaa", sum := "ee4d4a45541ed53ebe8ea1094ccaf60cfa15e0632ba98e86ec421ed0225b606b", func := "smalto/smaltolaw16.RingSlides", spec := "ringSlides", unfollowed := true, recurses := true, apart := false }
def RingSlidesSaid : Prop := ringSlidesRow.holds Try.pinned (OpenSpec.ofChange ringSlidesSpec)

/-- ITS FALSE NEIGHBOUR: 'it returns false'. Refute it at one input. -/
def ringSlidesWrong : ChangeSpec := { name := "ringSlides", fn := fun _ => fun
  | [d1, d2, d3] => { results := [.lit (.bool false)], args := [d1, d2, d3] }
  | _ => none }
def RingSlidesWrongFalsely : Prop := ringSlidesRow.holds Try.pinned (OpenSpec.ofChange ringSlidesWrong)

/-- 'smaltolaw16.RingReset': WHATEVER THE INPUT: true; the input reads as it did. -/
def ringResetSpec : ChangeSpec := { name := "ringReset", fn := fun _ => fun
  | [d1, d2, d3] => { results := [.lit (.bool true)], args := [d1, d2, d3] }
  | _ => none }
def ringResetRow : OpenClaim := { program := "ytmmcgbilnnaggaa", sum := "ee4d4a45541ed53ebe8ea1094ccaf60cfa15e0632ba98e86ec421ed0225b606b", func := "smalto/smaltolaw16.RingReset", spec := "ringReset", unfollowed := true, recurses := true, apart := false }
def RingResetSaid : Prop := ringResetRow.holds Try.pinned (OpenSpec.ofChange ringResetSpec)

/-- ITS FALSE NEIGHBOUR: 'it returns false'. Refute it at one input. -/
def ringResetWrong : ChangeSpec := { name := "ringReset", fn := fun _ => fun
  | [d1, d2, d3] => { results := [.lit (.bool false)], args := [d1, d2, d3] }
  | _ => none }
def RingResetWrongFalsely : Prop := ringResetRow.holds Try.pinned (OpenSpec.ofChange ringResetWrong)

/-- 'smaltolaw16.RingPlays': WHATEVER THE INPUT: true; the input reads as it did. -/
def ringPlaysSpec : ChangeSpec := { name := "ringPlays", fn := fun _ => fun
  | [d1, d2, d3] => { results := [.lit (.bool true)], args := [d1, d2, d3] }
  | _ => none }
def ringPlaysRow : OpenClaim := { program := "ytmmcgbilnnaggaa", sum := "ee4d4a45541ed53ebe8ea1094ccaf60cfa15e0632ba98e86ec421ed0225b606b", func := "smalto/smaltolaw16.RingPlays", spec := "ringPlays", unfollowed := true, recurses := true, apart := false }
def RingPlaysSaid : Prop := ringPlaysRow.holds Try.pinned (OpenSpec.ofChange ringPlaysSpec)

/-- ITS FALSE NEIGHBOUR: 'it returns false'. Refute it at one input. -/
def ringPlaysWrong : ChangeSpec := { name := "ringPlays", fn := fun _ => fun
  | [d1, d2, d3] => { results := [.lit (.bool false)], args := [d1, d2, d3] }
  | _ => none }
def RingPlaysWrongFalsely : Prop := ringPlaysRow.holds Try.pinned (OpenSpec.ofChange ringPlaysWrong)

/-- 'smaltolaw20.LedgerWrites': WHATEVER THE INPUT: true; the input reads as it did. -/
def ledgerWritesSpec : ChangeSpec := { name := "ledgerWrites", fn := fun _ => fun
  | [d1, d2, d3] => { results := [.lit (.bool true)], args := [d1, d2, d3] }
  | _ => none }
def ledgerWritesRow : OpenClaim := { program := "ytmmcgbilnnaggaa", sum := "ee4d4a45541ed53ebe8ea1094ccaf60cfa15e0632ba98e86ec421ed0225b606b", func := "smalto/smaltolaw20.LedgerWrites", spec := "ledgerWrites", unfollowed := true, recurses := true, apart := false }
def LedgerWritesSaid : Prop := ledgerWritesRow.holds Try.pinned (OpenSpec.ofChange ledgerWritesSpec)

/-- ITS FALSE NEIGHBOUR: 'it returns false'. Refute it at one input. -/
def ledgerWritesWrong : ChangeSpec := { name := "ledgerWrites", fn := fun _ => fun
  | [d1, d2, d3] => { results := [.lit (.bool false)], args := [d1, d2, d3] }
  | _ => none }
def LedgerWritesWrongFalsely : Prop := ledgerWritesRow.holds Try.pinned (OpenSpec.ofChange ledgerWritesWrong)

/- THE SECOND FORM. 'bulk': how many values and letters a reading holds, each counted each time it is reached (what is shared counts as often as it is met; a slice's spare places count too). A statement '..UptoSaid' is the law's where the arguments, and the package variables that the reading takes, are together of bulk at most 1048576: NARROWER than '..Said'. Prove '..Said' where nothing that the law and all that it calls make is longer than what came in: it says more and counts as full. Else prove '..UptoSaid'. A law counts once. -/
mutual
def uptoBulk {H : Type} : DataW H → Nat
  | .lit (.string bytes) => bytes.length + 1
  | .lit _ => 1
  | .nil => 1
  | .ptr d => uptoBulk d + 1
  | .slice elems spare => uptoBulkAll elems + uptoBulkAll spare + 1
  | .agg parts => uptoBulkAll parts + 1
  | .iface _ d => uptoBulk d + 1
  | .map entries => uptoBulkEntries entries + 1
  | .held _ => 1
def uptoBulkAll {H : Type} : List (DataW H) → Nat
  | [] => 0
  | d :: r => uptoBulk d + uptoBulkAll r
def uptoBulkEntries {H : Type} : List (Lit × DataW H) → Nat
  | [] => 0
  | x :: r => uptoBulkEntry x + uptoBulkEntries r
def uptoBulkEntry {H : Type} : Lit × DataW H → Nat
  | (.string bytes, d) => bytes.length + uptoBulk d + 1
  | (_, d) => uptoBulk d + 1
 end
def uptoSmall : (H : Type) → List (DataW H) → Bool := fun _ ds => decide (uptoBulkAll ds ≤ 1048576)
def OpenSpec.upto (s : _root_.Go.ChangeSpec) : _root_.Go.OpenSpec := { _root_.Go.OpenSpec.ofChange s with cond := some uptoSmall }

/-- 'smaltolaw20.LedgerRace', WHERE WHAT IT READS IS OF BULK AT MOST 1048576: true; the input reads as it did. -/
def ledgerRaceUptoRow : OpenClaim := { program := "ytmmcgbilnnaggaa", sum := "ee4d4a45541ed53ebe8ea1094ccaf60cfa15e0632ba98e86ec421ed0225b606b", func := "smalto/smaltolaw20.LedgerRace", spec := "ledgerRace", apart := false, narrowed := true }
def LedgerRaceUptoSaid : Prop := ledgerRaceUptoRow.holds Try.pinned (OpenSpec.upto ledgerRaceSpec)

/-- 'smaltolaw20.LedgerOrdered', WHERE WHAT IT READS IS OF BULK AT MOST 1048576: true; the input reads as it did. -/
def ledgerOrderedUptoRow : OpenClaim := { program := "ytmmcgbilnnaggaa", sum := "ee4d4a45541ed53ebe8ea1094ccaf60cfa15e0632ba98e86ec421ed0225b606b", func := "smalto/smaltolaw20.LedgerOrdered", spec := "ledgerOrdered", apart := false, narrowed := true }
def LedgerOrderedUptoSaid : Prop := ledgerOrderedUptoRow.holds Try.pinned (OpenSpec.upto ledgerOrderedSpec)

/-- 'smaltolaw19.ClockJoins', WHERE WHAT IT READS IS OF BULK AT MOST 1048576: true; the input reads as it did. -/
def clockJoinsUptoRow : OpenClaim := { program := "ytmmcgbilnnaggaa", sum := "ee4d4a45541ed53ebe8ea1094ccaf60cfa15e0632ba98e86ec421ed0225b606b", func := "smalto/smaltolaw19.ClockJoins", spec := "clockJoins", apart := false, narrowed := true }
def ClockJoinsUptoSaid : Prop := clockJoinsUptoRow.holds Try.pinned (OpenSpec.upto clockJoinsSpec)

/-- 'smaltolaw20.LedgerRaces', WHERE WHAT IT READS IS OF BULK AT MOST 1048576: true; the input reads as it did. -/
def ledgerRacesUptoRow : OpenClaim := { program := "ytmmcgbilnnaggaa", sum := "ee4d4a45541ed53ebe8ea1094ccaf60cfa15e0632ba98e86ec421ed0225b606b", func := "smalto/smaltolaw20.LedgerRaces", spec := "ledgerRaces", apart := false, narrowed := true }
def LedgerRacesUptoSaid : Prop := ledgerRacesUptoRow.holds Try.pinned (OpenSpec.upto ledgerRacesSpec)

/-- 'smaltolaw16.RingBelow', WHERE WHAT IT READS IS OF BULK AT MOST 1048576: true; the input reads as it did. -/
def ringBelowUptoRow : OpenClaim := { program := "ytmmcgbilnnaggaa", sum := "ee4d4a45541ed53ebe8ea1094ccaf60cfa15e0632ba98e86ec421ed0225b606b", func := "smalto/smaltolaw16.RingBelow", spec := "ringBelow", unfollowed := true, recurses := true, apart := false, narrowed := true }
def RingBelowUptoSaid : Prop := ringBelowUptoRow.holds Try.pinned (OpenSpec.upto ringBelowSpec)

/-- 'smaltolaw16.RingSizes', WHERE WHAT IT READS IS OF BULK AT MOST 1048576: true; the input reads as it did. -/
def ringSizesUptoRow : OpenClaim := { program := "ytmmcgbilnnaggaa", sum := "ee4d4a45541ed53ebe8ea1094ccaf60cfa15e0632ba98e86ec421ed0225b606b", func := "smalto/smaltolaw16.RingSizes", spec := "ringSizes", unfollowed := true, recurses := true, apart := false, narrowed := true }
def RingSizesUptoSaid : Prop := ringSizesUptoRow.holds Try.pinned (OpenSpec.upto ringSizesSpec)

/-- 'smaltolaw19.ClockStamps', WHERE WHAT IT READS IS OF BULK AT MOST 1048576: true; the input reads as it did. -/
def clockStampsUptoRow : OpenClaim := { program := "ytmmcgbilnnaggaa", sum := "ee4d4a45541ed53ebe8ea1094ccaf60cfa15e0632ba98e86ec421ed0225b606b", func := "smalto/smaltolaw19.ClockStamps", spec := "clockStamps", apart := false, narrowed := true }
def ClockStampsUptoSaid : Prop := clockStampsUptoRow.holds Try.pinned (OpenSpec.upto clockStampsSpec)

/-- 'smaltolaw19.ClockOrders', WHERE WHAT IT READS IS OF BULK AT MOST 1048576: true; the input reads as it did. -/
def clockOrdersUptoRow : OpenClaim := { program := "ytmmcgbilnnaggaa", sum := "ee4d4a45541ed53ebe8ea1094ccaf60cfa15e0632ba98e86ec421ed0225b606b", func := "smalto/smaltolaw19.ClockOrders", spec := "clockOrders", apart := false, narrowed := true }
def ClockOrdersUptoSaid : Prop := clockOrdersUptoRow.holds Try.pinned (OpenSpec.upto clockOrdersSpec)

/-- 'smaltolaw16.RingSlides', WHERE WHAT IT READS IS OF BULK AT MOST 1048576: true; the input reads as it did. -/
def ringSlidesUptoRow : OpenClaim := { program := "ytmmcgbilnnaggaa", sum := "ee4d4a45541ed53ebe8ea1094ccaf60cfa15e0632ba98e86ec421ed0225b606b", func := "smalto/smaltolaw16.RingSlides", spec := "ringSlides", unfollowed := true, recurses := true, apart := false, narrowed := true }
def RingSlidesUptoSaid : Prop := ringSlidesUptoRow.holds Try.pinned (OpenSpec.upto ringSlidesSpec)

/-- 'smaltolaw16.RingReset', WHERE WHAT IT READS IS OF BULK AT MOST 1048576: true; the input reads as it did. -/
def ringResetUptoRow : OpenClaim := { program := "ytmmcgbilnnaggaa", sum := "ee4d4a45541ed53ebe8ea1094ccaf60cfa15e0632ba98e86ec421ed0225b606b", func := "smalto/smaltolaw16.RingReset", spec := "ringReset", unfollowed := true, recurses := true, apart := false, narrowed := true }
def RingResetUptoSaid : Prop := ringResetUptoRow.holds Try.pinned (OpenSpec.upto ringResetSpec)

/-- 'smaltolaw16.RingPlays', WHERE WHAT IT READS IS OF BULK AT MOST 1048576: true; the input reads as it did. -/
def ringPlaysUptoRow : OpenClaim := { program := "ytmmcgbilnnaggaa", sum := "ee4d4a45541ed53ebe8ea1094ccaf60cfa15e0632ba98e86ec421ed0225b606b", func := "smalto/smaltolaw16.RingPlays", spec := "ringPlays", unfollowed := true, recurses := true, apart := false, narrowed := true }
def RingPlaysUptoSaid : Prop := ringPlaysUptoRow.holds Try.pinned (OpenSpec.upto ringPlaysSpec)

/-- 'smaltolaw20.LedgerWrites', WHERE WHAT IT READS IS OF BULK AT MOST 1048576: true; the input reads as it did. -/
def ledgerWritesUptoRow : OpenClaim := { program := "ytmmcgbilnnaggaa", sum := "ee4d4a45541ed53ebe8ea1094ccaf60cfa15e0632ba98e86ec421ed0225b606b", func := "smalto/smaltolaw20.LedgerWrites", spec := "ledgerWrites", unfollowed := true, recurses := true, apart := false, narrowed := true }
def LedgerWritesUptoSaid : Prop := ledgerWritesUptoRow.holds Try.pinned (OpenSpec.upto ledgerWritesSpec)

end Rows
end Go.Proofs.Ytmmcgbilnnaggaa
