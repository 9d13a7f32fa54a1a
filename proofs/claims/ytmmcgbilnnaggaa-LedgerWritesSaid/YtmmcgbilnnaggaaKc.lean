/- The clock's deeds: a tick, the least of some numbers, a meeting. Conditions: none. -/
import Derived.Test.YtmmcgbilnnaggaaKb
set_option linter.unusedVariables false
set_option linter.unusedSimpArgs false
namespace Go.Proofs.Ytmmcgbilnnaggaa
open Go Go.Crisp
attribute [local irreducible] FCall rowK newK stK iteK vK qK drawK gK joinK loopK mkK appK cpyK

/-- One row is written over in place. -/
theorem ClockAt.put {M : Nat → Prop} {h h' : Heap} {bc : Nat} {sl : Value} {sv : Nat → Value} {t : TypeId} {n : Nat} {rows : Nat → List Int} (C : ClockAt M h bc sl sv t n rows) {k : Nat} (hk : k < n) {l : List Int}
    (o : OwnI h' (sv k) l) (hl : l.length = n) (f : Fr (blk (sv k)) h h') : ClockAt M h' bc sl sv t n (fun j => if j = k then l else rows j) :=
  { C with
    var := f.row C.var fun hb => (C.ap2 k hk _ hb).1 rfl
    arr := C.arr.fr f fun b hb hb' => (C.ap2 k hk b hb').2 hb
    row := fun i hi => by
      by_cases hik : i = k
      · subst hik; simpa using o
      · simp only [hik, if_false]
        exact (C.row i hi).fr f fun b hb => C.ap3 i k hi hk hik b hb
    len := fun i hi => by
      by_cases hik : i = k
      · subst hik; simpa using hl
      · simp only [hik, if_false]; exact C.len i hi
    lt := fun b hb => Nat.lt_of_lt_of_le (C.lt b hb) f.1 }

def tickF (n : Nat) (rows : Nat → List Int) (i : Int) : Nat → List Int :=
  if 0 ≤ i ∧ i < n then fun j => if j = i.toNat then (rows i.toNat).set i.toNat (IntKind.i64.wrap ((rows i.toNat).getD i.toNat 0 + 1)) else rows j else rows

theorem c_Tick {M : Nat → Prop} {h : Heap} {v : Value} {n : Nat} {rows : Nat → List Int} (H : IsClock M h v n rows) (i : Int) :
    FCall Try.prog F_clock_Clock_Tick #[v, .int .i64 i] h fun r h' => OwnI h' r (nowF n rows i) ∧ IsClock M h' v n (tickF n rows i) ∧ Fr M h h' ∧ ∀ b, blk r b → h.size ≤ b := by
  apply ok_clock_Clock_Tick
  unfold sh_clock_Clock_Tick
  refine (c_Now H i).mono ?_
  rintro r h1 ⟨o1, e1, n1⟩
  refine (c_in (H.ext e1) i).mono ?_
  rintro _ h2 ⟨rfl, rfl⟩
  by_cases hi : 0 ≤ i ∧ i < n
  · obtain ⟨k, rfl⟩ := Int.eq_ofNat_of_zero_le hi.1
    have hk : k < n := by omega
    obtain ⟨bc, sl, sv, t, rfl, C0⟩ := H
    have C := C0.ext e1
    obtain ⟨p, hp, hq⟩ := C.arr.sl.at1 (k := .i64) hk
    rw [List.getElem_map, List.getElem_range] at hq
    have hkl : k < (rows k).length := by rw [C.len k hk]; exact hk
    obtain ⟨p', hp', hq', hst⟩ := Own.at1 (C.row k hk) (k := .i64) hkl
    rw [List.getElem_map] at hq'
    simp only [go_sem, hi, cell_row C.var, hp, hq, and_self, hp', hq', vi]
    refine hst _ _ rfl fun h3 o3 f3 _ => ?_
    have o4 : OwnI h3 (sv k) ((rows k).set k (IntKind.i64.wrap ((rows k)[k] + 1))) := by
      unfold OwnI
      rw [List.length_set, List.map_set]
      exact o3
    have C' := C.put hk o4 (by rw [List.length_set]; exact C.len k hk) f3
    refine ⟨o1.fr f3 fun b hb hb' => ?_, ⟨bc, sl, sv, t, rfl, ?_⟩, ?_, n1⟩
    · have h5 := n1 b hb
      have := C0.lt b (C0.inM.2.2 k hk b hb')
      omega
    · unfold tickF
      rw [if_pos hi]
      simp only [Int.toNat_natCast]
      rw [getD_in hkl]
      exact C'
    · exact e1.fr.trans (f3.mono fun b _ hb => C.inM.2.2 k hk b hb)
  · simp only [go_sem, hi]
    refine ⟨o1, ?_, e1.fr, n1⟩
    unfold tickF
    rw [if_neg hi]
    exact H.ext e1

theorem c_Min {h : Heap} {v : Value} {l : List Int} (hv : Ints h v l) (h0 : l ≠ []) (hl : l.length ≤ 4398046511104) :
    FCall Try.prog F_slices_Min_clock_Stamp_int #[v] h fun r h' => (∃ m, r = .int .i64 m ∧ (decide (m < 0) = l.any fun x => decide (x < 0))) ∧ h' = h := by
  apply ok_slices_Min_clock_Stamp_int
  unfold sh_slices_Min_clock_Stamp_int
  have hp : 0 < l.length := List.length_pos_iff.2 h0
  have hs := hv.sl
  obtain ⟨a, cap, rfl, _⟩ := hv
  refine joinK_intro (fun xs h' => xs = [] ∧ h' = h) ?_ ?_
  · simp only [go_sem]
    refine iteK_dec (fun h1 => by omega) (fun _ => ⟨trivial, trivial⟩)
  · rintro _ ρj h' ⟨rfl, hh⟩
    subst hh
    obtain ⟨p, hp0, hq0⟩ := hs.at1 (k := .i64) (i := 0) hp
    rw [List.getElem_map] at hq0
    rw [show ((0 : Nat) : Int) = 0 from rfl] at hp0
    simp only [go_sem, hp0, hq0]
    refine loopK_var (fun d xs h'' => h'' = h' ∧ ∃ (k : Nat) (m : Int), 1 ≤ k ∧ k ≤ l.length ∧ d = l.length - k ∧ xs = [.int .i64 m, .int .i64 (k : Int)] ∧ decide (m < 0) = (l.take k).any fun x => decide (x < 0)) (l.length - 1)
      ⟨rfl, 1, l[0], by omega, by omega, rfl, rfl, ?_⟩ ?_
    · cases l with
      | nil => exact absurd rfl h0
      | cons x l => simp
    · rintro d _ ρj _ again ⟨rfl, k, m, h1, hk, rfl, rfl, hm⟩ hag
      simp only [go_sem]
      refine iteK_dec (fun hlt => ?_) (fun hge => ?_)
      · have hk' : k < l.length := by omega
        obtain ⟨p, hp1, hq1⟩ := hs.at1 (k := .i64) hk'
        rw [List.getElem_map] at hq1
        simp only [go_sem, hp1, hq1, vi]
        rw [w64 (by omega) (by omega)]
        refine hag _ _ (l.length - (k + 1)) (by omega) ⟨rfl, k + 1, _, by omega, by omega, rfl, rfl, ?_⟩
        rw [List.take_succ_eq_append_getElem hk', List.any_append, ← hm]
        simp only [List.any_cons, List.any_nil, Bool.or_false]
        rw [← Bool.decide_or, decide_eq_decide]
        omega
      · refine ⟨⟨m, rfl, ?_⟩, trivial⟩
        rw [hm, List.take_of_length_le (by omega)]
end Go.Proofs.Ytmmcgbilnnaggaa
