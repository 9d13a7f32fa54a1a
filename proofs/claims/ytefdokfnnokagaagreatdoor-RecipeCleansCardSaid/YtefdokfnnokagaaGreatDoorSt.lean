/- What the listed package variables hold: the powers of ten. Conditions: none. -/
import Derived.Test.YtefdokfnnokagaaGreatDoorSa
import Derived.Test.YtefdokfnnokagaaGreatDoorRd
import Derived.Test.YtefdokfnnokagaaGreatDoorRows
set_option linter.unusedVariables false
set_option linter.unusedSimpArgs false
namespace Go.Proofs.YtefdokfnnokagaaGreatDoor
open Go Go.Crisp

theorem globT_of {L : List (String × DataW Unit)} {h : Heap} (H : Listed Tryz.prog L h) (hn : (L.all fun x => x.2.handleName?.isNone) = true)
    (m3 : ("internal/strconv.uint64pow10", Rows.laid_internal_strconv_uint64pow10) ∈ L) : TabH h "internal/strconv.uint64pow10" .u64 Lib.pow10Tab := by
  let w : World := ⟨h, fun _ _ => 0, 0, default, #[]⟩
  obtain ⟨t, cs, fuel, p, hg, hk, hv, hc, ht⟩ := H.kind hn m3 w rfl (g := (Tryz.prog.globalNamed "internal/strconv.uint64pow10").getD 0) (k := isArr 20 (isInt .u64)) (by kernel_rfl)
  exact tabH_of (t := t) hg hv (trod_ints (k := .u64) (zs := Lib.pow10Tab) hk ht)
theorem globH_of {L : List (String × DataW Unit)} {h : Heap} (H : Listed Tryz.prog L h) (hn : (L.all fun x => x.2.handleName?.isNone) = true)
    (m1 : ("smalto/border.names", Rows.laid_smalto_border_names) ∈ L) (m2 : ("smalto/raw.kinds", Rows.laid_smalto_raw_kinds) ∈ L) (m3 : ("internal/strconv.uint64pow10", Rows.laid_internal_strconv_uint64pow10) ∈ L) : GlobH h :=
  ⟨globB_of H hn m1 m2, globT_of H hn m3⟩
end Go.Proofs.YtefdokfnnokagaaGreatDoor
