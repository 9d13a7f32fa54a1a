/- The variables that rows list: what they hold where the call begins. Conditions: none. -/
import Derived.Test.YtefdokfnnokagaaGreatDoorSt
set_option linter.unusedVariables false
set_option linter.unusedSimpArgs false
namespace Go.Proofs.YtefdokfnnokagaaGreatDoor
open Go Go.Crisp

/-- The variables that the recipe's rows list. -/
structure Lists (L : List (String × DataW Unit)) : Prop where
  plain : (L.all fun x => x.2.handleName?.isNone) = true
  names : ("smalto/border.names", Rows.laid_smalto_border_names) ∈ L
  kinds : ("smalto/raw.kinds", Rows.laid_smalto_raw_kinds) ∈ L
  tab : ("internal/strconv.uint64pow10", Rows.laid_internal_strconv_uint64pow10) ∈ L
theorem Lists.glob {L : List (String × DataW Unit)} (l : Lists L) {h : Heap} (H : Listed Tryz.prog L h) : GlobH h := globH_of H l.plain l.names l.kinds l.tab
end Go.Proofs.YtefdokfnnokagaaGreatDoor
