/- What package variables hold: border.names, raw.kinds; tables of numbers. Conditions: none. -/
import Derived.Test.YtefdokfnnokagaaGreatDoorEd
import Derived.Test.YtefdokfnnokagaaGreatDoorShz
import Derived.Lib.ItoaNum
import Derived.Lib.LaidTab
set_option linter.unusedVariables false
set_option linter.unusedSimpArgs false
namespace Go.Proofs.YtefdokfnnokagaaGreatDoor
open Go Go.Crisp

def borderName : Nat → ByteArray
  | 0 => ⟨#[99, 108, 97, 109, 112]⟩
  | 1 => ⟨#[109, 105, 114, 114, 111, 114]⟩
  | 2 => ⟨#[119, 114, 97, 112]⟩
  | _ => ⟨#[]⟩
def filterName : Nat → ByteArray
  | 0 => ⟨#[98, 111, 120]⟩
  | 1 => ⟨#[99, 117, 98, 105, 99]⟩
  | 2 => ⟨#[108, 97, 110, 99, 122, 111, 115]⟩
  | _ => ⟨#[]⟩
def filterReach : Nat → Int
  | 0 => 0
  | 1 => 2
  | _ => 3
/-- A table of numbers of a package. -/
def TabH (h : Heap) (name : String) (k : IntKind) (zs : List Int) : Prop := ∃ g t f, Tryz.prog.globalNamed name = some g ∧ h[g]? = some (.cells (zs.map fun z => Value.int k z).toArray t f)
theorem TabH.ext {h h' : Heap} {name : String} {k : IntKind} {zs : List Int} (H : TabH h name k zs) (e : Ext h h') : TabH h' name k zs := by
  obtain ⟨g, t, f, h1, h2⟩ := H
  exact ⟨g, t, f, h1, e.row h2⟩
theorem TabH.is {h : Heap} {name : String} {k : IntKind} {zs : List Int} (H : TabH h name k zs) (w : World) (hw : w.heap = h) : Lib.TabIs Tryz.prog w name k zs := by
  obtain ⟨g, t, f, h1, h2⟩ := H
  subst hw
  unfold Lib.TabIs World.var?
  rw [h1, Option.bind_some, h2]
theorem tabH_of {h : Heap} {name : String} {k : IntKind} {zs : List Int} {g : Nat} {t : TypeId} {cs : Array Value} (h1 : Tryz.prog.globalNamed name = some g) (h2 : (World.mk h (fun _ _ => 0) 0 default #[]).var? Tryz.prog name = some cs) (h3 : cs.toList = zs.map fun z => Value.int k z) : TabH h name k zs := by
  unfold World.var? at h2
  rw [h1, Option.bind_some] at h2
  split at h2
  · rename_i c t f he
    cases h2
    refine ⟨g, t, f, h1, ?_⟩
    rw [← h3, Array.toArray_toList]; exact he
  · cases h2

/-- The names of borders, and the kinds of filters. -/
structure GlobB (h : Heap) : Prop where
  names : ∃ v, cellOf h ⟨G_border_names, 0, none⟩ = some v ∧ SlC 1 h v 3 [.string (borderName 0), .string (borderName 1), .string (borderName 2)]
  kinds : ∀ i, i < 3 → cellOf h ⟨G_raw_kinds, 2 * i, none⟩ = some (.string (filterName i)) ∧ cellOf h ⟨G_raw_kinds, 2 * i + 1, none⟩ = some (.int .i64 (filterReach i))
theorem GlobB.ext {h h' : Heap} (H : GlobB h) (e : Ext h h') : GlobB h' := by
  obtain ⟨⟨v, h1, h2⟩, h3⟩ := H
  exact ⟨⟨v, e.cell h1, h2.ext e⟩, fun i hi => ⟨e.cell (h3 i hi).1, e.cell (h3 i hi).2⟩⟩
/-- The same, and the powers of ten. -/
structure GlobH (h : Heap) : Prop extends GlobB h where
  tab : TabH h "internal/strconv.uint64pow10" .u64 Lib.pow10Tab
theorem GlobH.ext {h h' : Heap} (H : GlobH h) (e : Ext h h') : GlobH h' := ⟨H.toGlobB.ext e, H.tab.ext e⟩
end Go.Proofs.YtefdokfnnokagaaGreatDoor
