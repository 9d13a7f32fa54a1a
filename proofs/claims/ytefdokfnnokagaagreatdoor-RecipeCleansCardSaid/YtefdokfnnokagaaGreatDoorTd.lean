/- Two sorted rows, cut and put together: plain laws (for a merge by turning a middle part round). Conditions: none. -/
import Derived.Test.YtefdokfnnokagaaGreatDoorTc
set_option linter.unusedVariables false
set_option linter.unusedSimpArgs false
namespace Go.Crisp
section
variable {α : Type} {lt : α → α → Prop}
theorem sorted_le (tr : ∀ {a b c}, lt a b → lt b c → lt a c) {L : List α} (h : L.Pairwise lt) {x : α} {i j : Nat} (hij : i ≤ j) (hj : j < L.length) (hx : lt L[j] x) : lt (L[i]'(by omega)) x := by
  rcases Nat.lt_or_ge i j with h1 | h1
  · exact tr (List.pairwise_iff_getElem.1 h i j (by omega) hj h1) hx
  · have : i = j := by omega
    subst this; exact hx
theorem sorted_ge (tr : ∀ {a b c}, lt a b → lt b c → lt a c) {L : List α} (h : L.Pairwise lt) {x : α} {i j : Nat} (hij : i ≤ j) (hj : j < L.length) (hx : lt x (L[i]'(by omega))) : lt x L[j] := by
  rcases Nat.lt_or_ge i j with h1 | h1
  · exact tr hx (List.pairwise_iff_getElem.1 h i j (by omega) hj h1)
  · have : i = j := by omega
    subst this; exact hx
/-- All of the front parts come ahead of all of the back parts. -/
theorem cross (tr : ∀ {a b c}, lt a b → lt b c → lt a c) {L R : List α} (hL : L.Pairwise lt) (hR : R.Pairwise lt) {i j : Nat} (hi : i ≤ L.length) (hj : j ≤ R.length)
    (h1 : ∀ (a : 0 < i) (b : j < R.length), lt (L[i - 1]'(by omega)) R[j]) (h2 : ∀ (a : 0 < j) (b : i < L.length), lt (R[j - 1]'(by omega)) L[i]) :
    ∀ x ∈ L.take i ++ R.take j, ∀ y ∈ L.drop i ++ R.drop j, lt x y := by
  intro x hx y hy
  rcases List.mem_append.1 hx with hx | hx <;> rcases List.mem_append.1 hy with hy | hy <;>
    obtain ⟨p, hp, rfl⟩ := List.mem_iff_getElem.1 hx <;> obtain ⟨q, hq, rfl⟩ := List.mem_iff_getElem.1 hy <;>
    rw [List.length_take] at hp <;> rw [List.length_drop] at hq <;> rw [List.getElem_take, List.getElem_drop]
  · exact List.pairwise_iff_getElem.1 hL p (i + q) (by omega) (by omega) (by omega)
  · exact sorted_le (lt := lt) tr (L := L) hL (i := p) (j := i - 1) (by omega) (by omega) (sorted_ge (lt := lt) tr (x := L[i - 1]) (L := R) hR (i := j) (j := j + q) (by omega) (by omega) (h1 (by omega) (by omega)))
  · exact sorted_le (lt := lt) tr (L := R) hR (i := p) (j := j - 1) (by omega) (by omega) (sorted_ge (lt := lt) tr (x := R[j - 1]) (L := L) hL (i := i) (j := i + q) (by omega) (by omega) (h2 (by omega) (by omega)))
  · exact List.pairwise_iff_getElem.1 hR p (j + q) (by omega) (by omega) (by omega)
/-- What the two halves become, put together. -/
theorem merged {L R S1 S2 : List α} {i j : Nat} (hc : ∀ x ∈ L.take i ++ R.take j, ∀ y ∈ L.drop i ++ R.drop j, lt x y)
    (p1 : S1.Perm (L.take i ++ R.take j)) (p2 : S2.Perm (L.drop i ++ R.drop j)) (s1 : S1.Pairwise lt) (s2 : S2.Pairwise lt) : (S1 ++ S2).Perm (L ++ R) ∧ (S1 ++ S2).Pairwise lt := by
  refine ⟨?_, List.pairwise_append.2 ⟨s1, s2, fun x hx y hy => hc x (p1.mem_iff.1 hx) y (p2.mem_iff.1 hy)⟩⟩
  refine (p1.append p2).trans ?_
  have e : (L.take i ++ R.take j ++ (L.drop i ++ R.drop j)).Perm ((L.take i ++ L.drop i) ++ (R.take j ++ R.drop j)) := by
    rw [List.append_assoc, List.append_assoc]
    refine List.Perm.append_left _ ?_
    rw [← List.append_assoc, ← List.append_assoc]
    exact List.Perm.append_right _ List.perm_append_comm
  rwa [List.take_append_drop, List.take_append_drop] at e
end
end Go.Crisp
