/- How arguments that are rows of structs read. Conditions: none. -/
import Derived.Test.YtefdokfnnokagaaGreatDoorRb
import Derived.Test.YtefdokfnnokagaaGreatDoorEe
set_option linter.unusedVariables false
set_option linter.unusedSimpArgs false
namespace Go.Crisp
open Go
/-- A row of such elements, as an argument. -/
theorem sl_rd {α : Type} {e : TS} {E : Rp α} {z : Nat} {h : Heap} {cs : List Value} {l : List e.T} (f : e.T → α) (hw : e.w = E.w) (hp : 0 < e.w) (he : ∀ ds x, Rd e h ds x → E.R (fun _ => True) h ds (f x)) (H : Rd (.sl e z) h cs l) :
    ∃ v, cs = [v] ∧ Rp.Sl E (fun _ => True) h v (l.map f) ∧ l.length * z ≤ 140737488351232 := by
  obtain ⟨a, cap, rfl, h1, _, h2, hl⟩ := H
  have hz : l.length * z ≤ 140737488351232 := Nat.le_trans (Nat.mul_le_mul_right z h1) h2
  rcases hl with hl | ⟨b, o, ha, hl⟩
  · have : l = [] := List.eq_nil_of_length_eq_zero hl
    subst this
    exact ⟨_, rfl, ⟨[], ⟨by simp, a, cap, rfl, .inl rfl⟩, fun h => absurd rfl h, fun i hi => absurd hi (by simp)⟩, hz⟩
  · have ha : a = some ⟨b, o, none⟩ := ha.resolve_left (by omega)
    subst ha
    -- the cells, one behind the other
    have cell : ∀ n, n < l.length * e.w → ∃ c, cellOf h ⟨b, o + n, none⟩ = some c := by
      intro n hn
      have hi : n / e.w < l.length := by rw [Nat.div_lt_iff_lt_mul hp]; exact hn
      obtain ⟨ds, hd, hc, _⟩ := hl (n / e.w) hi
      have hj : n % e.w < ds.length := by rw [hd]; exact Nat.mod_lt _ hp
      have := hc (n % e.w) hj
      rw [Nat.add_assoc, Nat.mul_comm, Nat.div_add_mod] at this
      exact ⟨_, this⟩
    let g (n : Nat) : Value := if hn : n < l.length * e.w then Classical.choose (cell n hn) else undef
    have hg : ∀ n, n < l.length * e.w → cellOf h ⟨b, o + n, none⟩ = some (g n) := fun n hn => by
      have : g n = Classical.choose (cell n hn) := dif_pos hn
      rw [this]; exact Classical.choose_spec (cell n hn)
    refine ⟨_, rfl, ⟨(List.range (l.length * e.w)).map g, ⟨by simp [hw], _, cap, by rw [List.length_map], .inr ⟨b, o, rfl, fun j hj => ?_⟩⟩, fun _ _ _ => trivial, fun i hi => ?_⟩, hz⟩
    · rw [List.length_map, List.length_range] at hj
      rw [List.getElem_map, List.getElem_range]
      exact hg j hj
    · rw [List.length_map] at hi
      obtain ⟨ds, hd, hc, hr⟩ := hl i hi
      have hiw : i * e.w + e.w ≤ l.length * e.w := by rw [← Nat.succ_mul]; exact Nat.mul_le_mul_right e.w hi
      have hds : Rp.el E.w ((List.range (l.length * e.w)).map g) i = ds := by
        rw [← hw]
        apply List.ext_getElem
        · rw [hd]; simp; omega
        · intro j hj1 hj2
          have hj : j < e.w := by omega
          have h3 := hc j hj2
          rw [Nat.add_assoc, hg (i * e.w + j) (by omega)] at h3
          simp
          exact Option.some.inj h3
      rw [hds, List.getElem_map]
      exact he ds _ hr
end Go.Crisp
