/- The row of RingBelow: the given statement, out of what the function is shown to do. Conditions: none. -/
import Derived.Test.YtmmcgbilnnaggaaRows
import Derived.Test.YtmmcgbilnnaggaaNc
import Derived.Test.YtmmcgbilnnaggaaRa
namespace Go.Proofs.Ytmmcgbilnnaggaa
open Go Go.Crisp
set_option maxRecDepth 100000

theorem ringBelow_lifted (os : Os) (started : os.Started) (H : Type) (enc : TypeId × Value → H) :
    ReturnsInHanded {} Try.checked os 7 .any (Rows.ringBelowSpec.pre6 enc Try.prog Try.f7 Rows.ringBelowRow.domain false) (Rows.ringBelowSpec.post enc Try.prog Try.f7 false true false false) :=
  row_true (C := Try.checked) (ts := [(.int .i32), (.int .i32)]) (rt := 4) (by kernel_rfl) started (by kernel_rfl) Try.func7 (by kernel_rfl) rfl (by kernel_rfl) (by kernel_rfl) (by kernel_rfl) (by kernel_rfl)
    (fun ds hl => by
      match ds, hl with
      | [_, _], _ => rfl)
    (ChangeSpec.witness6 (enc := enc) (C := Try.checked) false ⟨#[], #[.int .i32 0, .int .i32 0], []⟩ 8 (by kernel_rfl) (by kernel_rfl) (by kernel_rfl) (by kernel_rfl))
    r_RingBelow

/-- RingBelow, as given. -/
theorem ringBelow_holds : Rows.RingBelowSaid :=
  OpenClaim.holds_of_wide 7 Try.f7 rfl rfl rfl rfl rfl rfl rfl ⟨rfl, rfl, rfl, rfl, rfl⟩ rfl rfl rfl rfl rfl (by kernel_rfl) Try.func7 (by kernel_rfl)
    (of_decide_eq_true (by kernel_rfl)) (by unfold Func.isWrapper; first | (rw [if_pos (by decide +kernel)]; kernel_rfl) | (rw [if_neg (by decide +kernel)]; exact ⟨rfl, rfl⟩))
    (fun os started H enc _ => ringBelow_lifted os started H enc)
#print axioms ringBelow_holds
end Go.Proofs.Ytmmcgbilnnaggaa
