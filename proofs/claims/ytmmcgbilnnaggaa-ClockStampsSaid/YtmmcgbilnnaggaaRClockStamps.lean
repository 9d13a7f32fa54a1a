/- The row of ClockStamps: the given statement, out of what the function is shown to do. Conditions: none. -/
import Derived.Test.YtmmcgbilnnaggaaRows
import Derived.Test.YtmmcgbilnnaggaaKi
import Derived.Test.YtmmcgbilnnaggaaRa
namespace Go.Proofs.Ytmmcgbilnnaggaa
open Go Go.Crisp
set_option maxRecDepth 100000

theorem clockStamps_lifted (os : Os) (started : os.Started) (H : Type) (enc : TypeId × Value → H) :
    ReturnsInHanded {} Try.checked os 9 .any (Rows.clockStampsSpec.pre6 enc Try.prog Try.f9 Rows.clockStampsRow.domain false) (Rows.clockStampsSpec.post enc Try.prog Try.f9 false true false false) :=
  row_true (C := Try.checked) (ts := [(.sl (.int .i64) 8), (.sl (.int .i64) 8)]) (rt := 4) (by kernel_rfl) started (by kernel_rfl) Try.func9 (by kernel_rfl) rfl (by kernel_rfl) (by kernel_rfl) (by kernel_rfl) (by kernel_rfl)
    (fun ds hl => by
      match ds, hl with
      | [_, _], _ => rfl)
    (ChangeSpec.witness6 (enc := enc) (C := Try.checked) false ⟨#[], #[.slice none 0 0, .slice none 0 0], []⟩ 8 (by kernel_rfl) (by kernel_rfl) (by kernel_rfl) (by kernel_rfl))
    r_ClockStamps

/-- ClockStamps, as given. -/
theorem clockStamps_holds : Rows.ClockStampsSaid :=
  OpenClaim.holds_of_wide 9 Try.f9 rfl rfl rfl rfl rfl rfl rfl ⟨rfl, rfl, rfl, rfl, rfl⟩ rfl rfl rfl rfl rfl (by kernel_rfl) Try.func9 (by kernel_rfl)
    (of_decide_eq_true (by kernel_rfl)) (by unfold Func.isWrapper; first | (rw [if_pos (by decide +kernel)]; kernel_rfl) | (rw [if_neg (by decide +kernel)]; exact ⟨rfl, rfl⟩))
    (fun os started H enc _ => clockStamps_lifted os started H enc)
#print axioms clockStamps_holds
end Go.Proofs.Ytmmcgbilnnaggaa
