/- The clock's join, and rows of numbers of one's own. Conditions: none. -/
import Derived.Test.YtmmcgbilnnaggaaCa
import Derived.Test.YtmmcgbilnnaggaaEd
set_option linter.unusedVariables false
set_option linter.unusedSimpArgs false
namespace Go.Proofs.Ytmmcgbilnnaggaa
open Go Go.Crisp
attribute [local irreducible] FCall rowK newK stK iteK vK qK drawK gK joinK loopK mkK appK cpyK

/-- Numbers in a row of one's own. -/
def OwnI (h : Heap) (v : Value) (l : List Int) : Prop := Own 1 h v l.length (l.map vi)
theorem Ints.sl {h : Heap} {v : Value} {l : List Int} (H : Ints h v l) : SlC 1 h v l.length (l.map vi) := by
  obtain ⟨a, cap, rfl, H⟩ := H
  refine ⟨by simp, a, cap, rfl, ?_⟩
  rcases H with rfl | ⟨b, o, rfl, H⟩
  · exact .inl rfl
  · exact .inr ⟨b, o, rfl, fun j hj => by rw [List.getElem_map]; exact H j (by simpa using hj)⟩
theorem ints_sl {h : Heap} {v : Value} {l : List Int} (H : SlC 1 h v l.length (l.map vi)) : Ints h v l := by
  obtain ⟨_, a, cap, rfl, H⟩ := H
  refine ⟨a, cap, rfl, ?_⟩
  rcases H with H | ⟨b, o, rfl, H⟩
  · exact .inl (by simpa using H)
  · refine .inr ⟨b, o, rfl, fun j hj => ?_⟩
    have := H j (by simpa using hj)
    rw [List.getElem_map] at this
    exact this
theorem OwnI.ints {h : Heap} {v : Value} {l : List Int} (H : OwnI h v l) : Ints h v l := ints_sl (Own.sl H)
theorem vi_one {l : List Int} : ∀ v ∈ l.map vi, oneCell v = true := by
  intro v hv
  obtain ⟨x, _, rfl⟩ := List.mem_map.1 hv
  rfl

/-- The greater of what two rows have at each place. -/
def joinL (a b : List Int) : List Int := (List.range (max a.length b.length)).map fun i => max (a.getD i 0) (b.getD i 0)
theorem joinL_length (a b : List Int) : (joinL a b).length = max a.length b.length := by simp [joinL]

theorem set_range (n : Nat) (f : Nat → Int) (i : Nat) (x : Int) : (((List.range n).map f).map vi).set i (vi x) = ((List.range n).map fun k => if k = i then x else f k).map vi := by
  apply List.ext_getElem
  · simp
  · intro k h1 h2
    rw [List.getElem_set]
    simp only [List.getElem_map, List.getElem_range, @eq_comm _ k i]
    split <;> rfl
theorem getD_in {l : List Int} {k : Nat} (h : k < l.length) : l.getD k 0 = l[k] := by simp [List.getD, h]
theorem getD_out {l : List Int} {k : Nat} (h : l.length ≤ k) : l.getD k 0 = 0 := by simp [List.getD, List.getElem?_eq_none h]

theorem c_Join {h : Heap} {v u : Value} {a b : List Int} (ha : Ints h v a) (hb : Ints h u b) (la : a.length ≤ 4398046511104) (lb : b.length ≤ 4398046511104) :
    FCall Try.prog F_clock_Join #[v, u] h fun r h' => OwnI h' r (joinL a b) ∧ Ext h h' ∧ ∀ k, blk r k → h.size ≤ k := by
  apply ok_clock_Join
  unfold sh_clock_Join
  obtain ⟨aa, ac, rfl, _⟩ := ha
  obtain ⟨ba, bc, rfl, _⟩ := hb
  have ha' : Ints h (.slice aa a.length ac) a := ⟨_, _, rfl, by assumption⟩
  have hb' : Ints h (.slice ba b.length bc) b := ⟨_, _, rfl, by assumption⟩
  simp only [go_sem]
  rw [show max (a.length : Int) (b.length : Int) = ((max a.length b.length : Nat) : Int) by omega]
  generalize hn : max a.length b.length = n
  refine mkK_own rfl (by omega) (by omega) fun s h1 o1 e1 n1 => ?_
  refine cpyK_own o1 (ha'.ext e1).sl vi_one fun h2 o2 f2 _ => ?_
  have e2 : Ext h h2 := e1.then_fr f2 n1
  have hs2 : Own 1 h2 s n (((List.range n).map fun k => a.getD k 0).map vi) := by
    have : (a.map vi).take n ++ (List.replicate n (Value.int .i64 0)).drop a.length = ((List.range n).map fun k => a.getD k 0).map vi := by
      apply List.ext_getElem
      · simp; omega
      · intro k h1 h2
        simp only [List.getElem_map, List.getElem_range, List.getElem_append, List.getElem_take, List.getElem_drop, List.getElem_replicate]
        split
        · rename_i hk
          rw [List.length_take, List.length_map] at hk
          rw [getD_in (show k < a.length by omega)]
        · rename_i hk
          rw [List.length_take, List.length_map] at hk
          simp at h2
          rw [getD_out (show a.length ≤ k by omega)]
          rfl
    rw [← this]; exact o2
  refine loop_count b.length (fun k h' => k ≤ b.length ∧ Own 1 h' s n (((List.range n).map fun j => if j < k then max (a.getD j 0) (b.getD j 0) else a.getD j 0).map vi) ∧ Ext h h') ⟨Nat.zero_le _, by simpa using hs2, e2⟩ ?_
  rintro k h3 again ρj ⟨hkl, o3, e3⟩ hag
  simp only [go_sem]
  refine iteK_dec (fun hk => ?_) (fun hk => ?_)
  · have hk : k < b.length := by omega
    obtain ⟨p, hp, hq⟩ := (hb'.ext e3).sl.at1 (k := .i64) hk
    rw [List.getElem_map] at hq
    obtain ⟨p', hp', hq', hst⟩ := o3.at1 (k := .i64) (i := k) (by omega)
    have hfin : ∀ x : Int, x = max (a.getD k 0) (b.getD k 0) → stK 1 p' (.int .i64 x) h3 fun v27 h28 => again [.int .i64 (IntKind.i64.wrap ((k : Int) + 1))] h28 := by
      intro x hx
      refine hst _ _ rfl fun h4 o4 f4 _ => ?_
      rw [w64 (by omega) (by omega)]
      refine hag h4 hk ⟨hk, ?_, e3.then_fr f4 n1⟩
      rw [show (Value.int .i64 x) = vi x from rfl, set_range] at o4
      refine (congrArg (fun l : List Int => Own 1 h4 s n (l.map vi)) ?_).mp o4
      apply List.map_congr_left
      intro j _
      subst hx
      by_cases h1 : j = k
      · subst h1; simp
      · simp only [h1, if_false]
        by_cases h2 : j < k
        · simp [h2, Nat.lt_succ_of_lt h2]
        · simp [h2, show ¬ j < k + 1 by omega]
    simp only [go_sem, hp, hq, vi]
    refine iteK_dec (fun hge => ?_) (fun hlt => ?_)
    · simp only [go_sem, hp']
      refine hfin _ ?_
      rw [getD_out (show a.length ≤ k by omega), getD_in hk]
    · simp only [go_sem, hp', hq']
      rw [List.getElem_map, List.getElem_map, List.getElem_range, if_neg (Nat.lt_irrefl k)]
      simp only [vi, go_sem]
      exact hfin _ (by rw [getD_in hk])
  · obtain rfl : k = b.length := by omega
    refine loop_from a.length b.length (fun k h' => Own 1 h' s n (((List.range n).map fun j => if j < k then max (a.getD j 0) (b.getD j 0) else a.getD j 0).map vi) ∧ Ext h h') ⟨o3, e3⟩ ?_
    rintro k h3 again ρj hk0 ⟨o3, e3⟩ hag
    simp only [go_sem]
    refine iteK_dec (fun hk => ?_) (fun hk => ?_)
    · have hk : k < a.length := by omega
      obtain ⟨p', hp', hq', hst⟩ := o3.at1 (k := .i64) (i := k) (by omega)
      simp only [go_sem, hp', hq']
      rw [List.getElem_map, List.getElem_map, List.getElem_range, if_neg (Nat.lt_irrefl k)]
      simp only [vi, go_sem]
      refine hst _ _ rfl fun h4 o4 f4 _ => ?_
      rw [w64 (by omega) (by omega)]
      refine hag h4 hk ⟨?_, e3.then_fr f4 n1⟩
      rw [show (Value.int .i64 (max 0 (a.getD k 0))) = vi (max 0 (a.getD k 0)) from rfl, set_range] at o4
      refine (congrArg (fun l : List Int => Own 1 h4 s n (l.map vi)) ?_).mp o4
      apply List.map_congr_left
      intro j _
      by_cases h1 : j = k
      · subst h1; rw [if_pos rfl, if_pos (Nat.lt_succ_self j), getD_out hk0, Int.max_comm]
      · simp only [h1, if_false]
        by_cases h2 : j < k
        · simp [h2, Nat.lt_succ_of_lt h2]
        · simp [h2, show ¬ j < k + 1 by omega]
    · refine ⟨?_, e3, n1⟩
      unfold OwnI
      rw [joinL_length, hn]
      refine (congrArg (fun l : List Int => Own 1 h3 s n (l.map vi)) ?_).mp o3
      unfold joinL
      rw [hn]
      apply List.map_congr_left
      intro j hj
      rw [if_pos (by have := List.mem_range.1 hj; omega)]
end Go.Proofs.Ytmmcgbilnnaggaa
