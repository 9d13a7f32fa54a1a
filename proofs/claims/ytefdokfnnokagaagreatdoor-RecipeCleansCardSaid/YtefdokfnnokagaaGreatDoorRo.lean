/- How operations read as arguments. Conditions: none. -/
import Derived.Test.YtefdokfnnokagaaGreatDoorGo
import Derived.Test.YtefdokfnnokagaaGreatDoorRc
set_option linter.unusedVariables false
set_option linter.unusedSimpArgs false
set_option maxRecDepth 10000
namespace Go.Proofs.YtefdokfnnokagaaGreatDoor
open Go Go.Crisp

/-! ### arguments -/
abbrev tI : TS := .int .i64
abbrev tIs : TS := .sl (.int .i64) 8
abbrev tOp : TS := .pair tI (.pair tI (.pair tI (.pair tI (.pair tIs (.pair tIs (.pair tI (.pair tI (.pair tI .unit))))))))
def opOf (x : tOp.T) : OpD := ⟨x.1, x.2.1, x.2.2.1, x.2.2.2.1, x.2.2.2.2.1, x.2.2.2.2.2.1, x.2.2.2.2.2.2.1, x.2.2.2.2.2.2.2.1, x.2.2.2.2.2.2.2.2.1⟩
theorem sl_of_slc {h : Heap} {v : Value} {l : List Int} (H : SlC 1 h v l.length (l.map (Value.int .i64))) : Rp.Sl rI (fun _ => True) h v l :=
  ⟨_, H, fun _ _ _ => trivial, fun i hi => by
    show Rp.el 1 _ i = [.int .i64 l[i]]
    rw [Rp.el_one (by simpa using hi), List.getElem_map]⟩
theorem i64s_rd {h : Heap} {cs : List Value} {l : List Int} (H : Rd tIs h cs l) : ∃ v, cs = [v] ∧ Rp.Sl rI (fun _ => True) h v l ∧ ∀ n ∈ l, I64 n := by
  obtain ⟨v, rfl, h1, h2, _⟩ := sl1_rd (e := .int .i64) (Value.int .i64) I64 rfl (fun ds x hr => ⟨hr.1, i64_wf hr.2⟩) H
  exact ⟨v, rfl, sl_of_slc h1, h2⟩
theorem op_rd {h : Heap} {cs : List Value} {x : tOp.T} (H : Rd tOp h cs x) : rOp.R (fun _ => True) h cs (opOf x) ∧ (opOf x).Wf := by
  obtain ⟨_, _, rfl, ⟨rfl, a1⟩, _, _, rfl, ⟨rfl, a2⟩, _, _, rfl, ⟨rfl, a3⟩, _, _, rfl, ⟨rfl, a4⟩, _, _, rfl, a5, _, _, rfl, a6, _, _, rfl, ⟨rfl, a7⟩, _, _, rfl, ⟨rfl, a8⟩, _, _, rfl, ⟨rfl, a9⟩, rfl⟩ := H
  obtain ⟨s, rfl, s1, s2⟩ := i64s_rd a5
  obtain ⟨t, rfl, t1, t2⟩ := i64s_rd a6
  exact ⟨⟨s, t, rfl, s1, t1⟩, ⟨i64_wf a1, i64_wf a2, i64_wf a3, i64_wf a4, i64_wf a7, i64_wf a8, i64_wf a9, s2, t2⟩⟩
theorem op_len {h : Heap} {cs : List Value} {x : tOp.T} (H : Rd tOp h cs x) : (opOf x).x.length ≤ 17592186044416 ∧ (opOf x).y.length ≤ 17592186044416 := by
  obtain ⟨_, _, rfl, _, _, _, rfl, _, _, _, rfl, _, _, _, rfl, _, _, _, rfl, a5, _, _, rfl, a6, _⟩ := H
  obtain ⟨_, c1, _, h1, _, h2, _⟩ := a5
  obtain ⟨_, c2, _, h3, _, h4, _⟩ := a6
  have e1 : (opOf x).x.length = List.length (α := tI.T) x.2.2.2.2.1 := rfl
  have e2 : (opOf x).y.length = List.length (α := tI.T) x.2.2.2.2.2.1 := rfl
  rw [e1, e2]
  omega
theorem sl_mem {e : TS} {z : Nat} {h : Heap} {cs : List Value} {l : List e.T} (H : Rd (.sl e z) h cs l) : ∀ x ∈ l, ∃ ds, Rd e h ds x := by
  obtain ⟨a, cap, rfl, h1, _, h2, hl⟩ := H
  rcases hl with hl | ⟨b, o, ha, hl⟩
  · have : l = [] := List.eq_nil_of_length_eq_zero hl
    subst this
    exact fun x hx => absurd hx (by simp)
  · intro x hx
    obtain ⟨i, hi, rfl⟩ := List.mem_iff_getElem.1 hx
    obtain ⟨ds, _, _, hr⟩ := hl i hi
    exact ⟨ds, hr⟩
theorem ops_rd {h : Heap} {cs : List Value} {l : List tOp.T} (H : Rd (.sl (.st tOp) 104) h cs l) :
    ∃ v m, cs = [v] ∧ Rp.Sl rOp (fun _ => True) h v m ∧ (∀ o ∈ m, o.Wf) ∧ m.length ≤ 4398046511104 := by
  obtain ⟨v, rfl, h1, h2⟩ := sl_rd (e := .st tOp) (E := rOp) opOf rfl (by decide) (fun ds x hr => (op_rd hr).1) H
  have h3 : l.length ≤ 4398046511104 := by have h2 : List.length (α := tOp.T) l * 104 ≤ 140737488351232 := h2; show List.length (α := tOp.T) l ≤ _; omega
  refine ⟨v, l.map opOf, rfl, h1, fun o ho => ?_, by rw [List.length_map]; exact h3⟩
  obtain ⟨x, hx, rfl⟩ := List.mem_map.1 ho
  obtain ⟨ds, hr⟩ := sl_mem (e := .st tOp) H x hx
  exact (op_rd hr).2
end Go.Proofs.YtefdokfnnokagaaGreatDoor
