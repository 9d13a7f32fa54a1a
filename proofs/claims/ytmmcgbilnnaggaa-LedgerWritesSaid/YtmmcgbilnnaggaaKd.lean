/- The clock's deeds: a meeting; a new clock. Conditions: none. -/
import Derived.Test.YtmmcgbilnnaggaaKc
set_option linter.unusedVariables false
set_option linter.unusedSimpArgs false
namespace Go.Proofs.Ytmmcgbilnnaggaa
open Go Go.Crisp
attribute [local irreducible] FCall rowK newK stK iteK vK qK drawK gK joinK loopK mkK appK cpyK

def mayF (n : Nat) (i : Int) (s : List Int) : Bool := decide (0 ≤ i ∧ i < n) && (decide (s.length = n) && !s.any fun x => decide (x < 0))
def meetF (n : Nat) (rows : Nat → List Int) (i : Int) (s : List Int) : Nat → List Int :=
  if mayF n i s = true then fun j => if j = i.toNat then joinL (rows i.toNat) s else rows j else rows

/-- One row is another one from now on. -/
theorem ClockAt.swap {M : Nat → Prop} {h h' : Heap} {bc : Nat} {sl : Value} {sv : Nat → Value} {t : TypeId} {n : Nat} {rows : Nat → List Int} (C : ClockAt M h bc sl sv t n rows) {k : Nat} (hk : k < n) {l : List Int} {v : Value}
    (o : OwnI h' v l) (hl : l.length = n) (f : Fr (blk sl) h h') (a : Own 1 h' sl n ((List.range n).map fun j => if j = k then v else sv j)) (hv : ∀ b, blk v b → b < h'.size ∧ ¬ M b) :
    ClockAt (fun b => M b ∨ blk v b) h' bc sl (fun j => if j = k then v else sv j) t n (fun j => if j = k then l else rows j) where
  var := f.row C.var C.ap1
  arr := a
  row := fun i hi => by
    by_cases hik : i = k
    · simp only [hik, if_true]; exact o
    · simp only [hik, if_false]
      exact (C.row i hi).fr f fun b hb => (C.ap2 i hi b hb).2
  len := fun i hi => by
    by_cases hik : i = k
    · simp only [hik, if_true]; exact hl
    · simp only [hik, if_false]; exact C.len i hi
  pos := C.pos
  inM := ⟨.inl C.inM.1, fun b hb => .inl (C.inM.2.1 b hb), fun i hi b hb => by
    by_cases hik : i = k
    · simp only [hik, if_true] at hb; exact .inr hb
    · simp only [hik, if_false] at hb; exact .inl (C.inM.2.2 i hi b hb)⟩
  ap1 := C.ap1
  ap2 := fun i hi b hb => by
    by_cases hik : i = k
    · simp only [hik, if_true] at hb
      exact ⟨fun hbc => (hv b hb).2 (hbc ▸ C.inM.1), fun hs => (hv b hb).2 (C.inM.2.1 b hs)⟩
    · simp only [hik, if_false] at hb; exact C.ap2 i hi b hb
  ap3 := fun i j hi hj hij b hb hb' => by
    by_cases hik : i = k
    · subst hik
      simp only [if_true, Ne.symm hij, if_false] at hb hb'
      exact (hv b hb).2 (C.inM.2.2 j hj b hb')
    · simp only [hik, if_false] at hb
      by_cases hjk : j = k
      · simp only [hjk, if_true] at hb'
        exact (hv b hb').2 (C.inM.2.2 i hi b hb)
      · simp only [hjk, if_false] at hb'
        exact C.ap3 i j hi hj hij b hb hb'
  lt := fun b hb => by
    rcases hb with hb | hb
    · exact Nat.lt_of_lt_of_le (C.lt b hb) f.1
    · exact (hv b hb).1

theorem set_rangeV (n : Nat) (f : Nat → Value) (i : Nat) (x : Value) : ((List.range n).map f).set i x = (List.range n).map fun k => if k = i then x else f k := by
  apply List.ext_getElem
  · simp
  · intro k h1 h2
    rw [List.getElem_set]
    simp only [List.getElem_map, List.getElem_range, @eq_comm _ k i]
theorem own_one {h : Heap} {v : Value} {l : List Int} (o : OwnI h v l) : oneCell v = true := by
  rcases o with ⟨rfl, _⟩ | ⟨b, cap, r, e, rfl, _⟩ <;> rfl

theorem c_Meet {M : Nat → Prop} {h : Heap} {v u : Value} {n : Nat} {rows : Nat → List Int} (H : IsClock M h v n rows) (i : Int) {s : List Int} (hu : Ints h u s) (hs : s.length ≤ 4398046511104) :
    FCall Try.prog F_clock_Clock_Meet #[v, .int .i64 i, u] h fun r h' => r = .bool (mayF n i s) ∧ ∃ M', IsClock M' h' v n (meetF n rows i s) ∧ Fr M h h' ∧ ∀ b, M' b → M b ∨ h.size ≤ b := by
  apply ok_clock_Clock_Meet
  unfold sh_clock_Clock_Meet
  refine (c_in H i).mono ?_
  rintro _ h' ⟨rfl, hh⟩
  subst hh
  have no : mayF n i s = false → ∃ M', IsClock M' h' v n (meetF n rows i s) ∧ Fr M h' h' ∧ ∀ b, M' b → M b ∨ h'.size ≤ b := fun hm =>
    ⟨M, by unfold meetF; rw [hm]; exact H, Fr.refl _ _, fun b hb => .inl hb⟩
  have hu0 := hu
  obtain ⟨ua, uc, rfl, _⟩ := hu
  by_cases hi : 0 ≤ i ∧ i < n
  · obtain ⟨bc, sl, sv, t, rfl, C⟩ := H
    have hpos := C.pos
    have hsl := C.arr.sl
    obtain ⟨_, sa, sc, rfl, _⟩ := hsl
    by_cases hn : s.length = n
    · have hn' : ((s.length : Int) = (n : Int)) := by omega
      simp only [go_sem, hi, cell_row C.var, and_self, hn']
      refine (c_Min hu0 (by intro h0; subst h0; simp at hn; omega) hs).mono ?_
      rintro _ h1 ⟨⟨m, rfl, hm⟩, hh⟩
      subst hh
      simp only [go_sem, hm]
      cases hany : s.any fun x => decide (x < 0) with
      | true =>
        have hmf : mayF n i s = false := by simp [mayF, hany]
        simp only [go_sem]
        exact ⟨by rw [hmf], no hmf⟩
      | false =>
        have hmf : mayF n i s = true := by simp [mayF, hany, hi, hn]
        obtain ⟨k, rfl⟩ := Int.eq_ofNat_of_zero_le hi.1
        have hk : k < n := by omega
        simp only [go_sem]
        refine drawK_ext ?_
        obtain ⟨p, hp, hq⟩ := C.arr.sl.at1 (k := .i64) hk
        rw [List.getElem_map, List.getElem_range] at hq
        refine qK_val (.slice sa n sc) (fun h2 e => by rw [cell_row (e.row C.var)]; rfl) ?_
        refine qK_val (.slice sa n sc) (fun h2 e => by rw [cell_row (e.row C.var)]; rfl) ?_
        rw [hp, vK_some]
        refine qK_val (sv k) (fun h2 e => ?_) ?_
        · obtain ⟨p2, hp2, hq2⟩ := (C.ext e).arr.sl.at1 (k := .i64) hk
          rw [List.getElem_map, List.getElem_range] at hq2
          rw [hp] at hp2
          cases hp2
          exact hq2
        refine (c_Join (C.row k hk).ints hu0 (by rw [C.len k hk]; omega) hs).mono ?_
        rintro r h2 ⟨o2, e2, n2⟩
        refine ⟨e2, ?_⟩
        have C2 := C.ext e2
        obtain ⟨p3, hp3, hq3, hst⟩ := C2.arr.at1 (k := .i64) hk
        rw [hp] at hp3
        cases hp3
        rw [vK_some]
        refine hst _ _ (own_one o2) fun h3 o3 f3 _ => ?_
        rw [set_rangeV] at o3
        have hfr : ∀ b, blk r b → ¬ M b := fun b hb hm => by have := C.lt b hm; have := n2 b hb; omega
        have o4 : OwnI h3 r (joinL (rows k) s) := o2.fr f3 fun b hb hb' => hfr b hb (C.inM.2.1 b hb')
        have C3 := C2.swap hk o4 (by rw [joinL_length, C.len k hk, hn]; exact Nat.max_self n) f3 o3 fun b hb => ⟨Own.lt o4 hb, hfr b hb⟩
        have CC : IsClock (fun b => M b ∨ blk r b) h3 (.pointer (some ⟨bc, 0, none⟩)) n (meetF n rows k s) := by
          unfold meetF
          rw [if_pos hmf]
          exact ⟨bc, _, _, t, rfl, C3⟩
        refine ⟨by rw [hmf], (fun b => M b ∨ blk r b), CC, e2.fr.trans (f3.mono fun b _ hb => C.inM.2.1 b hb), fun b hb => Or.imp (fun h => h) (n2 b) hb⟩
    · have hn' : ¬ ((s.length : Int) = (n : Int)) := by omega
      have hmf : mayF n i s = false := by simp [mayF, hn]
      simp only [go_sem, hi, cell_row C.var, and_self, hn']
      exact ⟨by rw [hmf], no hmf⟩
  · have hmf : mayF n i s = false := by simp [mayF, hi]
    simp only [go_sem, hi]
    exact ⟨by rw [hmf], no hmf⟩
end Go.Proofs.Ytmmcgbilnnaggaa
