/- Who comes first of some rests: ranks, of a sorted order, and by picking the best: plain laws. Conditions: none. -/
import Derived.Test.YtefdokfnnokagaaGreatDoorTa
set_option linter.unusedVariables false
set_option linter.unusedSimpArgs false
namespace Go.Crisp
/-- The first one of two, by what is left of them; of two alike the one that stands first. -/
def lead (r : Nat → Int) (i j : Nat) : Prop := r j < r i ∨ (r i = r j ∧ i < j)
instance (r : Nat → Int) (i j : Nat) : Decidable (lead r i j) := by unfold lead; exact inferInstance
theorem lead_irrefl (r : Nat → Int) (i : Nat) : ¬ lead r i i := by unfold lead; omega
theorem lead_trans {r : Nat → Int} {i j k : Nat} (h1 : lead r i j) (h2 : lead r j k) : lead r i k := by unfold lead at *; omega
theorem lead_total (r : Nat → Int) {i j : Nat} (h : i ≠ j) : lead r i j ∨ lead r j i := by unfold lead; omega
theorem lead_asymm {r : Nat → Int} {i j : Nat} (h1 : lead r i j) : ¬ lead r j i := by unfold lead at *; omega
/-- How many come ahead of it. -/
def rank (r : Nat → Int) (n i : Nat) : Nat := (List.range n).countP fun j => decide (lead r j i)
theorem countP_all {l : List Nat} {p : Nat → Bool} (h : ∀ x ∈ l, p x = true) : l.countP p = l.length := by
  rw [List.countP_eq_length]; exact h
theorem countP_none {l : List Nat} {p : Nat → Bool} (h : ∀ x ∈ l, p x = false) : l.countP p = 0 := by
  rw [List.countP_eq_zero]; intro x hx; rw [h x hx]; simp
/-- Of a sorted order the k-th one has rank k. -/
theorem rank_sorted {r : Nat → Int} {n : Nat} {l : List Nat} (hp : l.Perm (List.range n)) (hs : l.Pairwise (lead r)) {k : Nat} (hk : k < l.length) : rank r n l[k] = k := by
  unfold rank
  rw [← hp.countP_eq]
  have hx : ∀ (x : Nat), x = l[k] → ((l.take k).countP fun j => decide (lead r j x)) + ((l.drop k).countP fun j => decide (lead r j x)) = k := by
    rintro x rfl
    have h1 : ((l.take k).countP fun j => decide (lead r j l[k])) = (l.take k).length := countP_all fun x hx => by
      obtain ⟨i, hi, rfl⟩ := List.mem_iff_getElem.1 hx
      rw [List.getElem_take]
      rw [List.length_take] at hi
      exact decide_eq_true (List.pairwise_iff_getElem.1 hs i k (by omega) hk (by omega))
    have h2 : ((l.drop k).countP fun j => decide (lead r j l[k])) = 0 := countP_none fun x hx => by
      obtain ⟨i, hi, rfl⟩ := List.mem_iff_getElem.1 hx
      rw [List.getElem_drop]
      rw [List.length_drop] at hi
      rcases Nat.eq_zero_or_pos i with h0 | h0
      · subst h0; exact decide_eq_false (lead_irrefl _ _)
      · exact decide_eq_false (lead_asymm (List.pairwise_iff_getElem.1 hs k (k + i) hk (by omega) (by omega)))
    rw [h1, h2, List.length_take]; omega
  have e : ∀ p : Nat → Bool, l.countP p = (l.take k).countP p + (l.drop k).countP p := fun p => by rw [← List.countP_append, List.take_append_drop]
  rw [e]
  exact hx _ rfl
theorem rank_lt {r : Nat → Int} {n i j : Nat} (hi : i < n) (h : lead r i j) : rank r n i < rank r n j := by
  unfold rank
  have hsub : ∀ l : List Nat, (l.countP fun k => decide (lead r k i)) ≤ l.countP fun k => decide (lead r k j) := fun l =>
    List.countP_mono_left fun x _ hx => decide_eq_true (lead_trans (of_decide_eq_true hx) h)
  obtain ⟨a, b, hab⟩ := List.append_of_mem (List.mem_range.2 hi)
  rw [hab, List.countP_append, List.countP_append, List.countP_cons, List.countP_cons]
  have h1 := hsub a
  have h2 := hsub b
  rw [if_neg (by simpa using lead_irrefl r i), if_pos (decide_eq_true h)]
  omega
theorem rank_inj {r : Nat → Int} {n i j : Nat} (hi : i < n) (hj : j < n) (h : rank r n i = rank r n j) : i = j := by
  by_cases he : i = j
  · exact he
  · rcases lead_total r he with h1 | h1
    · have := rank_lt hi h1; omega
    · have := rank_lt hj h1; omega
theorem lead_of_rank {r : Nat → Int} {n i j : Nat} (hi : i < n) (hj : j < n) (h : rank r n i < rank r n j) : lead r i j := by
  have he : i ≠ j := fun e => by rw [e] at h; omega
  rcases lead_total r he with h1 | h1
  · exact h1
  · have := rank_lt hj h1; omega
/-- There is one of each rank. -/
theorem rank_some (r : Nat → Int) (n : Nat) : ∀ k, k < n → ∃ i, i < n ∧ rank r n i = k := by
  let le : Nat → Nat → Bool := fun i j => decide (lead r i j) || decide (i = j)
  have ht : ∀ a b c : Nat, le a b = true → le b c = true → le a c = true := fun a b c h1 h2 => by
    simp only [le, Bool.or_eq_true, decide_eq_true_eq] at *
    rcases h1 with h1 | rfl
    · rcases h2 with h2 | rfl
      · exact .inl (lead_trans h1 h2)
      · exact .inl h1
    · exact h2
  have htot : ∀ a b : Nat, (le a b || le b a) = true := fun a b => by
    simp only [le, Bool.or_eq_true, decide_eq_true_eq]
    by_cases he : a = b
    · exact .inl (.inr he)
    · rcases lead_total r he with h | h
      · exact .inl (.inl h)
      · exact .inr (.inl h)
  let l := (List.range n).mergeSort le
  have hp : l.Perm (List.range n) := List.mergeSort_perm _ _
  have hs : l.Pairwise (fun a b => le a b = true) := List.pairwise_mergeSort (le := le) ht htot _
  have hn : l.Nodup := hp.nodup_iff.2 List.nodup_range
  have hs2 : l.Pairwise (lead r) := by
    unfold List.Nodup at hn
    refine (hs.and hn).imp fun {a b} ⟨h1, h2⟩ => ?_
    simp only [le, Bool.or_eq_true, decide_eq_true_eq] at h1
    rcases h1 with h1 | h1
    · exact h1
    · exact absurd h1 h2
  intro k hk
  have hl : l.length = n := by rw [hp.length_eq]; simp
  refine ⟨l[k]'(by omega), ?_, rank_sorted hp hs2 _⟩
  have := hp.mem_iff.1 (List.getElem_mem (l := l) (n := k) (by omega))
  simpa using this
/-- The rests, when so many have been picked. -/
def picked (r : Nat → Int) (n k : Nat) (i : Nat) : Int := if rank r n i < k then -1 else r i
theorem picked_zero (r : Nat → Int) (n : Nat) : picked r n 0 = r := by funext i; unfold picked; rw [if_neg (by omega)]
/-- The first of the greatest is the one whose turn it is. -/
theorem best_rank {r : Nat → Int} {n k : Nat} (hr : ∀ i, i < n → 0 ≤ r i) (hk : k < n) {b : Nat} (hb : b < n)
    (h1 : ∀ i, i < n → picked r n k i ≤ picked r n k b) (h2 : ∀ i, i < b → picked r n k i < picked r n k b) : rank r n b = k := by
  obtain ⟨m, hm, hmk⟩ := rank_some r n k hk
  have pm : picked r n k m = r m := by unfold picked; rw [if_neg (by omega)]
  have hm0 := hr m hm
  have hbm := h1 m hm
  rw [pm] at hbm
  have pb : picked r n k b = r b ∧ ¬ rank r n b < k := by
    unfold picked at hbm ⊢
    split at hbm
    · omega
    · rename_i h
      rw [if_neg h]; exact ⟨rfl, h⟩
  rw [pb.1] at hbm
  by_cases he : b = m
  · rw [he]; exact hmk
  · have hne : rank r n b ≠ k := fun e => he (rank_inj hb hm (e.trans hmk.symm))
    have hl : lead r m b := lead_of_rank hm hb (by have := pb.2; omega)
    unfold lead at hl
    rcases hl with hl | ⟨e, hl⟩
    · omega
    · have := h2 m hl
      rw [pm, pb.1] at this
      omega
theorem picked_succ {r : Nat → Int} {n k b : Nat} (hb : b < n) (hr : rank r n b = k) {i : Nat} (hi : i < n) : picked r n (k + 1) i = if i = b then -1 else picked r n k i := by
  unfold picked
  by_cases he : i = b
  · subst he; rw [if_pos (by omega), if_pos rfl]
  · have : rank r n i ≠ k := fun e => he (rank_inj hi hb (e.trans hr.symm))
    rw [if_neg he]
    by_cases h : rank r n i < k
    · rw [if_pos h, if_pos (by omega)]
    · rw [if_neg h, if_neg (by omega)]
end Go.Crisp
