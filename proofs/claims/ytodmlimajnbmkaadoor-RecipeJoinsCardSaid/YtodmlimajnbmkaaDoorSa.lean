/- What the listed package variables hold: border.names, raw.kinds, the powers of ten. Conditions: none. -/
import Derived.Test.YtodmlimajnbmkaaDoorEd
import Derived.Test.YtodmlimajnbmkaaDoorRd
import Derived.Test.YtodmlimajnbmkaaDoorRows
import Derived.Test.YtodmlimajnbmkaaDoorSh0
import Derived.Lib.ItoaNum
import Derived.Lib.LaidTab
set_option linter.unusedVariables false
set_option linter.unusedSimpArgs false
namespace Go.Proofs.YtodmlimajnbmkaaDoor
open Go Go.Crisp

def borderName : Nat → ByteArray
  | 0 => ⟨#[99, 108, 97, 109, 112]⟩
  | 1 => ⟨#[109, 105, 114, 114, 111, 114]⟩
  | 2 => ⟨#[119, 114, 97, 112]⟩
  | _ => ⟨#[]⟩
def filterName : Nat → ByteArray
  | 0 => ⟨#[98, 111, 120]⟩
  | 1 => ⟨#[99, 117, 98, 105, 99]⟩
  | 2 => ⟨#[108, 97, 110, 99, 122, 111, 115]⟩
  | _ => ⟨#[]⟩
def filterReach : Nat → Int
  | 0 => 0
  | 1 => 2
  | _ => 3
/-- A table of numbers of a package. -/
def TabH (h : Heap) (name : String) (k : IntKind) (zs : List Int) : Prop := ∃ g t f, Tryd.prog.globalNamed name = some g ∧ h[g]? = some (.cells (zs.map fun z => Value.int k z).toArray t f)
theorem TabH.ext {h h' : Heap} {name : String} {k : IntKind} {zs : List Int} (H : TabH h name k zs) (e : Ext h h') : TabH h' name k zs := by
  obtain ⟨g, t, f, h1, h2⟩ := H
  exact ⟨g, t, f, h1, e.row h2⟩
theorem TabH.is {h : Heap} {name : String} {k : IntKind} {zs : List Int} (H : TabH h name k zs) (w : World) (hw : w.heap = h) : Lib.TabIs Tryd.prog w name k zs := by
  obtain ⟨g, t, f, h1, h2⟩ := H
  subst hw
  unfold Lib.TabIs World.var?
  rw [h1, Option.bind_some, h2]
theorem tabH_of {h : Heap} {name : String} {k : IntKind} {zs : List Int} {g : Nat} {t : TypeId} {cs : Array Value} (h1 : Tryd.prog.globalNamed name = some g) (h2 : (World.mk h (fun _ _ => 0) 0 default #[]).var? Tryd.prog name = some cs) (h3 : cs.toList = zs.map fun z => Value.int k z) : TabH h name k zs := by
  unfold World.var? at h2
  rw [h1, Option.bind_some] at h2
  split at h2
  · rename_i c t f he
    cases h2
    refine ⟨g, t, f, h1, ?_⟩
    rw [← h3, Array.toArray_toList]; exact he
  · cases h2

structure GlobH (h : Heap) : Prop where
  names : ∃ v, cellOf h ⟨G_border_names, 0, none⟩ = some v ∧ SlC 1 h v 3 [.string (borderName 0), .string (borderName 1), .string (borderName 2)]
  kinds : ∀ i, i < 3 → cellOf h ⟨G_raw_kinds, 2 * i, none⟩ = some (.string (filterName i)) ∧ cellOf h ⟨G_raw_kinds, 2 * i + 1, none⟩ = some (.int .i64 (filterReach i))
  tab : TabH h "internal/strconv.uint64pow10" .u64 Lib.pow10Tab
theorem GlobH.ext {h h' : Heap} (H : GlobH h) (e : Ext h h') : GlobH h' := by
  obtain ⟨⟨v, h1, h2⟩, h3, h4⟩ := H
  exact ⟨⟨v, e.cell h1, h2.ext e⟩, fun i hi => ⟨e.cell (h3 i hi).1, e.cell (h3 i hi).2⟩, h4.ext e⟩

theorem globH_of {L : List (String × DataW Unit)} {h : Heap} (H : Listed Tryd.prog L h) (hn : (L.all fun x => x.2.handleName?.isNone) = true)
    (m1 : ("smalto/border.names", Rows.laid_smalto_border_names) ∈ L) (m2 : ("smalto/raw.kinds", Rows.laid_smalto_raw_kinds) ∈ L) (m3 : ("internal/strconv.uint64pow10", Rows.laid_internal_strconv_uint64pow10) ∈ L) : GlobH h := by
  let w : World := ⟨h, fun _ _ => 0, 0, default, #[]⟩
  refine ⟨?_, ?_, ?_⟩
  · obtain ⟨t, cs, fuel, p, _, hk, _, hc, ht⟩ := H.kind hn m1 w rfl (g := G_border_names) (k := isSlice isStr) (by kernel_rfl)
    obtain ⟨b, o, cap, he, hx⟩ := trod_strs (h := h) rfl (zs := [[99, 108, 97, 109, 112], [109, 105, 114, 114, 111, 114], [119, 114, 97, 112]]) (by simp) hk ht
    have h0 := hc 0
    obtain ⟨l⟩ := cs
    rw [show l = _ from he] at h0
    refine ⟨_, h0, by simp, some ⟨b, o, none⟩, cap, rfl, .inr ⟨b, o, rfl, fun j hj => ?_⟩⟩
    have := hx j hj
    rw [this]
    match j, hj with
    | 0, _ => rfl
    | 1, _ => rfl
    | 2, _ => rfl
  · obtain ⟨t, cs, fuel, p, _, hk, _, hc, ht⟩ := H.kind hn m2 w rfl (g := G_raw_kinds) (k := isArr 3 (isPair isStr (isInt .i64))) (by kernel_rfl)
    have := trod_pairs (zs := [([98, 111, 120], 0), ([99, 117, 98, 105, 99], 2), ([108, 97, 110, 99, 122, 111, 115], 3)]) hk ht
    intro i hi
    have h1 := this i hi
    rw [hc, hc]
    rw [Array.getElem?_toList, Array.getElem?_toList] at h1
    rw [h1.1, h1.2]
    match i, hi with
    | 0, _ => exact ⟨rfl, rfl⟩
    | 1, _ => exact ⟨rfl, rfl⟩
    | 2, _ => exact ⟨rfl, rfl⟩
  · obtain ⟨t, cs, fuel, p, hg, hk, hv, hc, ht⟩ := H.kind hn m3 w rfl (g := (Tryd.prog.globalNamed "internal/strconv.uint64pow10").getD 0) (k := isArr 20 (isInt .u64)) (by kernel_rfl)
    exact tabH_of (t := t) hg hv (trod_ints (k := .u64) (zs := Lib.pow10Tab) hk ht)
end Go.Proofs.YtodmlimajnbmkaaDoor
