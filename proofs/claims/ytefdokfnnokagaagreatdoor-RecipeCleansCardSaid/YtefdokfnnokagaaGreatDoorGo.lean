/- Operations, as they lie in memory. Conditions: none. -/
import Derived.Test.YtefdokfnnokagaaGreatDoorEe
import Derived.Test.YtefdokfnnokagaaGreatDoorTa
set_option linter.unusedVariables false
set_option linter.unusedSimpArgs false
set_option maxRecDepth 10000
namespace Go.Proofs.YtefdokfnnokagaaGreatDoor
open Go Go.Crisp

abbrev rI : Rp Int := Rp.int .i64
/-- An operation. -/
structure OpD where
  kind : Int
  border : Int
  sigma : Int
  radius : Int
  x : List Int
  y : List Int
  filter : Int
  w : Int
  hh : Int
structure OpD.Wf (o : OpD) : Prop where
  kind : I64 o.kind
  border : I64 o.border
  sigma : I64 o.sigma
  radius : I64 o.radius
  filter : I64 o.filter
  w : I64 o.w
  hh : I64 o.hh
  x : ∀ n ∈ o.x, I64 n
  y : ∀ n ∈ o.y, I64 n
/-- An operation in memory. -/
def rOp : Rp OpD where
  w := 9
  R := fun Z h cs o => ∃ s t, cs = [.int .i64 o.kind, .int .i64 o.border, .int .i64 o.sigma, .int .i64 o.radius, s, t, .int .i64 o.filter, .int .i64 o.w, .int .i64 o.hh] ∧ Rp.Sl rI Z h s o.x ∧ Rp.Sl rI Z h t o.y
  len := by rintro _ _ _ _ ⟨s, t, rfl, _⟩; rfl
  one := by
    rintro _ _ _ _ ⟨s, t, rfl, H, K⟩ v hv
    have := H.one
    have := K.one
    simp only [List.mem_cons, List.not_mem_nil, or_false] at hv
    rcases hv with rfl | rfl | rfl | rfl | rfl | rfl | rfl | rfl | rfl <;> first | rfl | assumption
  fr := by rintro _ _ _ _ _ _ ⟨s, t, rfl, H, K⟩ f q; exact ⟨s, t, rfl, H.fr f q, K.fr f q⟩
  mono := by rintro _ _ _ _ _ ⟨s, t, rfl, H, K⟩ q; exact ⟨s, t, rfl, H.mono q, K.mono q⟩

end Go.Proofs.YtefdokfnnokagaaGreatDoor
