/- The row of LedgerWrites: the given statement, out of what the function is shown to do. Conditions: none. -/
import Derived.Test.YtmmcgbilnnaggaaRows
import Derived.Test.YtmmcgbilnnaggaaLf
import Derived.Test.YtmmcgbilnnaggaaRa
namespace Go.Proofs.Ytmmcgbilnnaggaa
open Go Go.Crisp
set_option maxRecDepth 100000

theorem ledgerWrites_lifted (os : Os) (started : os.Started) (H : Type) (enc : TypeId × Value → H) :
    ReturnsInHanded {} Try.checked os 14 .any (Rows.ledgerWritesSpec.pre6 enc Try.prog Try.f14 Rows.ledgerWritesRow.domain false) (Rows.ledgerWritesSpec.post enc Try.prog Try.f14 false true false false) :=
  row_true (C := Try.checked) (ts := [(.sl (.st (.pair (.int .i64) (.pair (.sl (.int .i64) 8) (.pair (.int .i64) (.pair (.int .i64) (.pair (.int .i64) (.pair .bool .unit))))))) 64), (.int .i64), (.int .i64)]) (rt := 4) (by kernel_rfl) started (by kernel_rfl) Try.func14 (by kernel_rfl) rfl (by kernel_rfl) (by kernel_rfl) (by kernel_rfl) (by kernel_rfl)
    (fun ds hl => by
      match ds, hl with
      | [_, _, _], _ => rfl)
    (ChangeSpec.witness6 (enc := enc) (C := Try.checked) false ⟨#[], #[.slice none 0 0, .int .i64 0, .int .i64 0], []⟩ 8 (by kernel_rfl) (by kernel_rfl) (by kernel_rfl) (by kernel_rfl))
    r_LedgerWrites

/-- LedgerWrites, as given. -/
theorem ledgerWrites_holds : Rows.LedgerWritesSaid :=
  OpenClaim.holds_of_wide 14 Try.f14 rfl rfl rfl rfl rfl rfl rfl ⟨rfl, rfl, rfl, rfl, rfl⟩ rfl rfl rfl rfl rfl (by kernel_rfl) Try.func14 (by kernel_rfl)
    (of_decide_eq_true (by kernel_rfl)) (by unfold Func.isWrapper; first | (rw [if_pos (by decide +kernel)]; kernel_rfl) | (rw [if_neg (by decide +kernel)]; exact ⟨rfl, rfl⟩))
    (fun os started H enc _ => ledgerWrites_lifted os started H enc)
#print axioms ledgerWrites_holds
end Go.Proofs.Ytmmcgbilnnaggaa
