/- The row of LedgerRaces: the given statement, out of what the function is shown to do. Conditions: none. -/
import Derived.Test.YtmmcgbilnnaggaaRows
import Derived.Test.YtmmcgbilnnaggaaLe
import Derived.Test.YtmmcgbilnnaggaaRa
namespace Go.Proofs.Ytmmcgbilnnaggaa
open Go Go.Crisp
set_option maxRecDepth 100000

theorem ledgerRaces_lifted (os : Os) (started : os.Started) (H : Type) (enc : TypeId × Value → H) :
    ReturnsInHanded {} Try.checked os 6 .any (Rows.ledgerRacesSpec.pre6 enc Try.prog Try.f6 Rows.ledgerRacesRow.domain false) (Rows.ledgerRacesSpec.post enc Try.prog Try.f6 false true false false) :=
  row_true (C := Try.checked) (ts := [(.sl (.st (.pair (.int .i64) (.pair (.sl (.int .i64) 8) (.pair (.int .i64) (.pair (.int .i64) (.pair (.int .i64) (.pair .bool .unit))))))) 64)]) (rt := 4) (by kernel_rfl) started (by kernel_rfl) Try.func6 (by kernel_rfl) rfl (by kernel_rfl) (by kernel_rfl) (by kernel_rfl) (by kernel_rfl)
    (fun ds hl => by
      match ds, hl with
      | [_], _ => rfl)
    (ChangeSpec.witness6 (enc := enc) (C := Try.checked) false ⟨#[], #[.slice none 0 0], []⟩ 8 (by kernel_rfl) (by kernel_rfl) (by kernel_rfl) (by kernel_rfl))
    r_LedgerRaces

/-- LedgerRaces, as given. -/
theorem ledgerRaces_holds : Rows.LedgerRacesSaid :=
  OpenClaim.holds_of_wide 6 Try.f6 rfl rfl rfl rfl rfl rfl rfl ⟨rfl, rfl, rfl, rfl, rfl⟩ rfl rfl rfl rfl rfl (by kernel_rfl) Try.func6 (by kernel_rfl)
    (of_decide_eq_true (by kernel_rfl)) (by unfold Func.isWrapper; first | (rw [if_pos (by decide +kernel)]; kernel_rfl) | (rw [if_neg (by decide +kernel)]; exact ⟨rfl, rfl⟩))
    (fun os started H enc _ => ledgerRaces_lifted os started H enc)
#print axioms ledgerRaces_holds
end Go.Proofs.Ytmmcgbilnnaggaa
