/- A new clock; the chapter's example. Conditions: none. -/
import Derived.Test.YtmmcgbilnnaggaaKd
set_option linter.unusedVariables false
set_option linter.unusedSimpArgs false
namespace Go.Proofs.Ytmmcgbilnnaggaa
open Go Go.Crisp
attribute [local irreducible] FCall rowK newK stK iteK vK qK drawK gK joinK loopK mkK appK cpyK

def newN (a : Int) : Nat := (min (max 1 a) 512).toNat
def newF (n : Nat) (j : Nat) : List Int := (List.range n).map fun m => if m = j then 1 else 0

theorem map_rangeV (n : Nat) (f g : Nat → Value) (h : ∀ k, k < n → f k = g k) : (List.range n).map f = (List.range n).map g :=
  List.map_congr_left fun k hk => h k (List.mem_range.1 hk)

theorem c_New {h : Heap} (a : Int) : FCall Try.prog F_clock_New #[.int .i64 a] h fun r h' => ∃ M, IsClock M h' r (newN a) (newF (newN a)) ∧ Ext h h' ∧ ∀ b, M b → h.size ≤ b := by
  apply ok_clock_New
  unfold sh_clock_New
  have hna : min (max 1 a) 512 = ((newN a : Nat) : Int) := by unfold newN; omega
  have hn1 : 1 ≤ newN a ∧ newN a ≤ 512 := by unfold newN; omega
  simp only [go_sem, hna]
  generalize newN a = n at hn1
  refine mkK_own rfl (by omega) (by omega) fun s h1 o1 e1 n1 => ?_
  have hsl := o1.sl
  obtain ⟨_, sa, sc, rfl, _⟩ := hsl
  rw [vK_map _ #[.slice sa n sc] (by kernel_rfl)]
  refine newK_use (c := #[.slice sa n sc]) fun bc h2 r2' e2 n2 => ?_
  obtain ⟨t0, r2⟩ : ∃ t, h2[bc]? = some (.cells #[.slice sa n sc] t (0, 0)) := ⟨_, r2'⟩
  clear r2'
  simp only [go_sem, cell_row r2]
  have hbs : ¬ blk (.slice sa n sc) bc := fun hb => by have := o1.lt hb; omega
  refine loop_count n (fun k h' => k ≤ n ∧ Ext h h' ∧ ∃ sv : Nat → Value, h'[bc]? = some (.cells #[.slice sa n sc] t0 (0, 0)) ∧ Own 1 h' (.slice sa n sc) n ((List.range n).map fun j => if j < k then sv j else .slice none 0 0) ∧
      (∀ j, j < k → OwnI h' (sv j) (newF n j)) ∧ (∀ j, j < k → ∀ b, blk (sv j) b → h.size ≤ b ∧ b ≠ bc ∧ ¬ blk (.slice sa n sc) b) ∧ ∀ i j, i < k → j < k → i ≠ j → ∀ b, blk (sv i) b → ¬ blk (sv j) b)
    ⟨Nat.zero_le _, e1.trans e2, fun _ => .nilFunc, r2, ?_, fun j hj => by omega, fun j hj => by omega, fun i j hi => by omega⟩ ?_
  · have := o1.fr (M := fun _ => False) e2.fr fun _ _ => id
    rw [show List.replicate n (Value.slice none 0 0) = (List.range n).map fun j => if j < 0 then Value.nilFunc else .slice none 0 0 by
      apply List.ext_getElem <;> simp] at this
    exact this
  rintro k h3 again ρj ⟨hkn, e3, sv, r3, o3, hrow, hblk, hap⟩ hag
  simp only [go_sem]
  refine iteK_dec (fun hk => ?_) (fun hk => ?_)
  · have hk : k < n := by omega
    refine drawK_ext ?_
    refine qK_val (.slice sa n sc) (fun h' e => by rw [cell_row (e.row r3)]; rfl) ?_
    refine mkK_own rfl (by omega) (by omega) fun s4 h4 o4 e4 n4 => ?_
    refine ⟨e4, ?_⟩
    obtain ⟨p, hp, hq, hst⟩ := (o3.fr (M := fun _ => False) e4.fr fun _ _ => id).at1 (k := .i64) hk
    simp only [go_sem, hp]
    have o4' : OwnI h4 s4 (List.replicate n 0) := by
      unfold OwnI
      rw [List.length_replicate, List.map_replicate]
      exact o4
    refine hst _ _ (own_one o4') fun h5 o5 f5 _ => ?_
    rw [set_rangeV] at o5
    have hs4 : ∀ b, blk s4 b → ¬ blk (.slice sa n sc) b := fun b hb hb' => by have := n4 b hb; have := o3.lt hb'; omega
    have o6 : OwnI h5 s4 (List.replicate n 0) := o4'.fr f5 fun b hb => hs4 b hb
    have r5 : h5[bc]? = some (.cells #[.slice sa n sc] t0 (0, 0)) := f5.row (e4.row r3) hbs
    obtain ⟨p6, hp6, hq6⟩ := o5.sl.at1 (k := .i64) hk
    rw [hp] at hp6
    cases hp6
    rw [List.getElem_map, List.getElem_range, if_pos rfl] at hq6
    obtain ⟨p7, hp7, hq7, hst7⟩ := Own.at1 o6 (k := .i64) (i := k) (by simpa using hk)
    simp only [go_sem, cell_row r5, hp, hq6, hp7]
    refine hst7 _ _ rfl fun h8 o8 f8 _ => ?_
    rw [w64 (by omega) (by omega)]
    have f58 : Fr (blk s4) h5 h8 := f8
    have hs4n : ∀ b, blk s4 b → h3.size ≤ b := n4
    have e38 : Ext h h8 := ((e3.trans e4).then_fr f5 n1).then_fr f58 fun b hb => Nat.le_trans e3.1 (hs4n b hb)
    have hb4 : ∀ b, blk s4 b → h.size ≤ b ∧ b ≠ bc ∧ ¬ blk (.slice sa n sc) b := fun b hb =>
      ⟨Nat.le_trans e3.1 (hs4n b hb), fun hbc => by
        have h1 := hs4n b hb
        have h2 := (Array.getElem?_eq_some_iff.1 r3).1
        omega, hs4 b hb⟩
    have hold : ∀ j, j < k → ∀ b, blk (sv j) b → ¬ blk s4 b := fun j hj b hb hb' => by
      have h1 := hs4n b hb'
      have h2 := (hrow j hj).lt hb
      omega
    refine hag h8 hk ⟨hk, e38, fun j => if j = k then s4 else sv j, ?_, ?_, ?_, ?_, ?_⟩
    · exact f58.row r5 fun hb => (hb4 _ hb).2.1 rfl
    · have := o5.fr f58 fun b hb hb' => hs4 b hb' hb
      rw [map_rangeV n _ (fun j => if j < k + 1 then (if j = k then s4 else sv j) else .slice none 0 0) ?_] at this
      · exact this
      · intro j hj
        by_cases h1 : j = k
        · subst h1; simp
        · by_cases h2 : j < k
          · simp [h1, h2, Nat.lt_succ_of_lt h2]
          · simp [h1, h2, show ¬ j < k + 1 by omega]
    · intro j hj
      by_cases h1 : j = k
      · subst h1
        simp only [if_true]
        have o9 : Own 1 h8 s4 (newF n j).length ((newF n j).map vi) := by
          refine (congr (congrArg (Own 1 h8 s4) ?_) ?_).mp o8
          · simp [newF]
          · apply List.ext_getElem
            · simp [newF]
            · intro m h1 h2
              rw [List.getElem_set]
              simp only [newF, List.getElem_map, List.getElem_replicate, List.getElem_range, vi, @eq_comm _ m j]
              split <;> rfl
        exact o9
      · simp only [h1, if_false]
        have hj' : j < k := by omega
        have h9 := ((hrow j hj').fr (M := fun _ => False) e4.fr fun _ _ => id)
        have h10 : OwnI h5 (sv j) (newF n j) := h9.fr f5 fun b hb => (hblk j hj' b hb).2.2
        exact h10.fr f58 fun b hb => hold j hj' b hb
    · intro j hj b hb
      by_cases h1 : j = k
      · simp only [h1, if_true] at hb; exact hb4 b hb
      · simp only [h1, if_false] at hb; exact hblk j (by omega) b hb
    · intro i j hi hj hij b hb hb'
      by_cases h1 : i = k
      · simp only [h1, if_true] at hb
        have h2 : j ≠ k := fun h => hij (h1.trans h.symm)
        simp only [h2, if_false] at hb'
        exact hold j (by omega) b hb' hb
      · simp only [h1, if_false] at hb
        by_cases h2 : j = k
        · simp only [h2, if_true] at hb'
          exact hold i (by omega) b hb hb'
        · simp only [h2, if_false] at hb'
          exact hap i j (by omega) (by omega) hij b hb hb'
  · obtain rfl : k = n := by omega
    have o3' : Own 1 h3 (.slice sa k sc) k ((List.range k).map sv) := by
      rw [map_rangeV k _ sv (fun j hj => by simp [hj])] at o3
      exact o3
    refine ⟨fun b => b = bc ∨ blk (.slice sa k sc) b ∨ ∃ j, j < k ∧ blk (sv j) b, ⟨bc, .slice sa k sc, sv, t0, rfl, ?_⟩, e3, ?_⟩
    · exact {
        var := r3, arr := o3', row := hrow, len := fun i hi => by simp [newF], pos := hn1
        inM := ⟨.inl rfl, fun b hb => .inr (.inl hb), fun i hi b hb => .inr (.inr ⟨i, hi, hb⟩)⟩
        ap1 := hbs, ap2 := fun i hi b hb => (hblk i hi b hb).2, ap3 := fun i j hi hj hij b => hap i j hi hj hij b
        lt := fun b hb => by
          rcases hb with rfl | hb | ⟨j, hj, hb⟩
          · exact (Array.getElem?_eq_some_iff.1 r3).1
          · exact o3.lt hb
          · exact (hrow j hj).lt hb }
    · intro b hb
      rcases hb with rfl | hb | ⟨j, hj, hb⟩
      · exact Nat.le_trans e1.1 n2
      · exact n1 b hb
      · exact (hblk j hj b hb).1
end Go.Proofs.Ytmmcgbilnnaggaa
