/- The row of RingPlays: the given statement, out of what the function is shown to do. Conditions: none. -/
import Derived.Test.YtmmcgbilnnaggaaRows
import Derived.Test.YtmmcgbilnnaggaaNj
import Derived.Test.YtmmcgbilnnaggaaRa
namespace Go.Proofs.Ytmmcgbilnnaggaa
open Go Go.Crisp
set_option maxRecDepth 100000

theorem ringPlays_lifted (os : Os) (started : os.Started) (H : Type) (enc : TypeId × Value → H) :
    ReturnsInHanded {} Try.checked os 13 .any (Rows.ringPlaysSpec.pre6 enc Try.prog Try.f13 Rows.ringPlaysRow.domain false) (Rows.ringPlaysSpec.post enc Try.prog Try.f13 false true false false) :=
  row_true (C := Try.checked) (ts := [(.int .i64), (.int .i64), (.sl (.st (.pair (.int .u8) (.pair (.int .i64) (.pair (.int .i64) (.pair (.int .i64) .unit))))) 32)]) (rt := 4) (by kernel_rfl) started (by kernel_rfl) Try.func13 (by kernel_rfl) rfl (by kernel_rfl) (by kernel_rfl) (by kernel_rfl) (by kernel_rfl)
    (fun ds hl => by
      match ds, hl with
      | [_, _, _], _ => rfl)
    (ChangeSpec.witness6 (enc := enc) (C := Try.checked) false ⟨#[], #[.int .i64 0, .int .i64 0, .slice none 0 0], []⟩ 8 (by kernel_rfl) (by kernel_rfl) (by kernel_rfl) (by kernel_rfl))
    r_RingPlays

/-- RingPlays, as given. -/
theorem ringPlays_holds : Rows.RingPlaysSaid :=
  OpenClaim.holds_of_wide 13 Try.f13 rfl rfl rfl rfl rfl rfl rfl ⟨rfl, rfl, rfl, rfl, rfl⟩ rfl rfl rfl rfl rfl (by kernel_rfl) Try.func13 (by kernel_rfl)
    (of_decide_eq_true (by kernel_rfl)) (by unfold Func.isWrapper; first | (rw [if_pos (by decide +kernel)]; kernel_rfl) | (rw [if_neg (by decide +kernel)]; exact ⟨rfl, rfl⟩))
    (fun os started H enc _ => ringPlays_lifted os started H enc)
#print axioms ringPlays_holds
end Go.Proofs.Ytmmcgbilnnaggaa
