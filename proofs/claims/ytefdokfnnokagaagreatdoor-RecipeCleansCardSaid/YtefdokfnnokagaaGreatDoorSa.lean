/- What the listed package variables hold: border.names, raw.kinds, the powers of ten. Conditions: none. -/
import Derived.Test.YtefdokfnnokagaaGreatDoorGa
import Derived.Test.YtefdokfnnokagaaGreatDoorRd
import Derived.Test.YtefdokfnnokagaaGreatDoorRows
set_option linter.unusedVariables false
set_option linter.unusedSimpArgs false
namespace Go.Proofs.YtefdokfnnokagaaGreatDoor
open Go Go.Crisp

theorem globB_of {L : List (String × DataW Unit)} {h : Heap} (H : Listed Tryz.prog L h) (hn : (L.all fun x => x.2.handleName?.isNone) = true)
    (m1 : ("smalto/border.names", Rows.laid_smalto_border_names) ∈ L) (m2 : ("smalto/raw.kinds", Rows.laid_smalto_raw_kinds) ∈ L) : GlobB h := by
  let w : World := ⟨h, fun _ _ => 0, 0, default, #[]⟩
  refine ⟨?_, ?_⟩
  · obtain ⟨t, cs, fuel, p, _, hk, _, hc, ht⟩ := H.kind hn m1 w rfl (g := G_border_names) (k := isSlice isStr) (by kernel_rfl)
    obtain ⟨b, o, cap, he, hx⟩ := trod_strs (h := h) rfl (zs := [[99, 108, 97, 109, 112], [109, 105, 114, 114, 111, 114], [119, 114, 97, 112]]) (by simp) hk ht
    have h0 := hc 0
    obtain ⟨l⟩ := cs
    rw [show l = _ from he] at h0
    refine ⟨_, h0, by simp, some ⟨b, o, none⟩, cap, rfl, .inr ⟨b, o, rfl, fun j hj => ?_⟩⟩
    have := hx j hj
    rw [this]
    match j, hj with
    | 0, _ => rfl
    | 1, _ => rfl
    | 2, _ => rfl
  · obtain ⟨t, cs, fuel, p, _, hk, _, hc, ht⟩ := H.kind hn m2 w rfl (g := G_raw_kinds) (k := isArr 3 (isPair isStr (isInt .i64))) (by kernel_rfl)
    have := trod_pairs (zs := [([98, 111, 120], 0), ([99, 117, 98, 105, 99], 2), ([108, 97, 110, 99, 122, 111, 115], 3)]) hk ht
    intro i hi
    have h1 := this i hi
    rw [hc, hc]
    rw [Array.getElem?_toList, Array.getElem?_toList] at h1
    rw [h1.1, h1.2]
    match i, hi with
    | 0, _ => exact ⟨rfl, rfl⟩
    | 1, _ => exact ⟨rfl, rfl⟩
    | 2, _ => exact ⟨rfl, rfl⟩
end Go.Proofs.YtefdokfnnokagaaGreatDoor
