/- ClockOrders, the plain law: what an actor hands on is ahead of what the one who met it has behind its next tick. Conditions: none. -/
import Derived.Test.YtmmcgbilnnaggaaKi
set_option linter.unusedVariables false
set_option linter.unusedSimpArgs false
namespace Go.Proofs.Ytmmcgbilnnaggaa
open Go Go.Crisp

theorem getD_set (l : List Int) (i m : Nat) (x : Int) (hi : i < l.length) : (l.set i x).getD m 0 = if m = i then x else l.getD m 0 := by
  by_cases hm : m < l.length
  · rw [getD_in (by rw [List.length_set]; exact hm), List.getElem_set, getD_in hm]
    by_cases h : m = i
    · rw [if_pos h, if_pos h.symm]
    · rw [if_neg h, if_neg (Ne.symm h)]
  · rw [getD_out (by rw [List.length_set]; omega), getD_out (by omega), if_neg (by omega)]

theorem belowL_getD {a b : List Int} (hl : a.length = b.length) : belowL a b = true ↔ ∀ m, m < a.length → a.getD m 0 ≤ b.getD m 0 := by
  rw [belowL_iff hl]
  constructor
  · intro H m hm
    rw [getD_in hm, getD_in (hl ▸ hm)]
    exact H m hm
  · intro H m hm
    have := H m hm
    rw [getD_in hm, getD_in (hl ▸ hm)] at this
    exact this

/-- All is little, the fifth is as it was, nobody has met it. -/
def Good (s : Int) (rows : Nat → List Int) : Prop :=
  (∀ j, j < 5 → (rows j).length = 5 ∧ ∀ m, 0 ≤ (rows j).getD m 0 ∧ (rows j).getD m 0 ≤ s) ∧ (∀ j, j < 4 → (rows j).getD 4 0 = 0) ∧ rows 4 = [0, 0, 0, 0, 1]

theorem tickF_in {n : Nat} {rows : Nat → List Int} {i : Nat} (hi : i < n) : tickF n rows (i : Int) = fun j => if j = i then (rows i).set i (IntKind.i64.wrap ((rows i).getD i 0 + 1)) else rows j := by
  unfold tickF
  rw [if_pos (by omega)]
  simp only [Int.toNat_natCast]
theorem nowF_in {n : Nat} {rows : Nat → List Int} {i : Nat} (hi : i < n) : nowF n rows (i : Int) = rows i := by
  unfold nowF
  rw [if_pos (by omega), Int.toNat_natCast]

theorem good_tick {s : Int} {rows : Nat → List Int} (G : Good s rows) (hs : s ≤ 1000) {i : Nat} (hi : i < 4) :
    (∀ j m, (tickF 5 rows (i : Int) j).getD m 0 = if j = i ∧ m = i then (rows i).getD i 0 + 1 else (rows j).getD m 0) ∧ (∀ j, j < 5 → (tickF 5 rows (i : Int) j).length = 5) ∧ tickF 5 rows (i : Int) 4 = [0, 0, 0, 0, 1] := by
  obtain ⟨g1, g2, g3⟩ := G
  have hb := (g1 i (by omega)).2 i
  have hl := (g1 i (by omega)).1
  rw [tickF_in (show i < 5 by omega), w64 (by omega) (by omega)]
  refine ⟨fun j m => ?_, fun j hj => ?_, ?_⟩
  · by_cases hji : j = i
    · subst hji
      simp only [if_true, true_and]
      rw [getD_set _ _ _ _ (by omega)]
    · simp only [hji, if_false, false_and]
  · by_cases hji : j = i
    · subst hji; simp only [if_true, List.length_set]; exact hl
    · simp only [hji, if_false]; exact (g1 j hj).1
  · simp only [show ¬ 4 = i by omega, if_false]
    exact g3

theorem good_same {s : Int} {rows : Nat → List Int} (G : Good s rows) (hs : s ≤ 1000) {i : Nat} (hi : i < 4) : Good (s + 1) (tickF 5 rows (i : Int)) := by
  obtain ⟨t1, t2, t3⟩ := good_tick G hs hi
  obtain ⟨g1, g2, g3⟩ := G
  refine ⟨fun j hj => ⟨t2 j hj, fun m => ?_⟩, fun j hj => ?_, t3⟩
  · rw [t1]
    have h1 := (g1 j hj).2 m
    have h2 := (g1 i (by omega)).2 i
    split <;> omega
  · rw [t1, if_neg (by omega)]
    exact g2 j hj

theorem good_meet {s : Int} {rows : Nat → List Int} (G : Good s rows) {k : Nat} (hk : k < 4) {l : List Int} (hl : l.length = 5) (h0 : ∀ m, 0 ≤ l.getD m 0 ∧ l.getD m 0 ≤ s) (h4 : l.getD 4 0 = 0) :
    Good s (fun j => if j = k then joinL (rows k) l else rows j) := by
  obtain ⟨g1, g2, g3⟩ := G
  refine ⟨fun j hj => ?_, fun j hj => ?_, ?_⟩
  · by_cases hjk : j = k
    · simp only [hjk, if_true]
      refine ⟨by rw [joinL_length, (g1 k (by omega)).1, hl]; rfl, fun m => ?_⟩
      rw [joinL_getD]
      have h1 := (g1 k (by omega)).2 m
      have h2 := h0 m
      omega
    · simp only [hjk, if_false]; exact g1 j hj
  · by_cases hjk : j = k
    · simp only [hjk, if_true]
      rw [joinL_getD, g2 k hk, h4]; rfl
    · simp only [hjk, if_false]; exact g2 j hj
  · simp only [show ¬ 4 = k by omega, if_false]; exact g3

theorem any_neg {l : List Int} (h : ∀ m, 0 ≤ l.getD m 0) : (l.any fun x => decide (x < 0)) = false := by
  rw [Bool.eq_false_iff]
  intro ha
  rw [List.any_eq_true] at ha
  obtain ⟨x, hx, hn⟩ := ha
  obtain ⟨m, hm, rfl⟩ := List.mem_iff_getElem.1 hx
  have := h m
  rw [getD_in hm] at this
  simp at hn
  omega

theorem ahead_of {a b : List Int} (hl : a.length = b.length) (hle : ∀ m, a.getD m 0 ≤ b.getD m 0) {m : Nat} (hlt : a.getD m 0 < b.getD m 0) : aheadL a b = true ∧ aheadL b a = false := by
  have h1 : belowL a b = true := (belowL_getD hl).2 fun m _ => hle m
  have hab : ¬ a = b := fun h => by rw [h] at hlt; omega
  refine ⟨by simp [aheadL, h1, hab], ?_⟩
  have h2 : belowL b a = false := by
    rw [Bool.eq_false_iff]
    intro h2
    exact hab (belowL_antisymm h1 h2)
  simp [aheadL, h2]

/-- A deed: i hands on what it had, k meets it and ticks. -/
theorem good_deed {s : Int} {rows : Nat → List Int} (G : Good s rows) (hs : s ≤ 900) {i k : Nat} (hi : i < 4) (hk : k < 4) (hik : i ≠ k) :
    mayF 5 (k : Int) (rows i) = true ∧ ∃ R, tickF 5 (meetF 5 (tickF 5 rows (i : Int)) (k : Int) (rows i)) (k : Int) = R ∧ Good (s + 2) R ∧
    aheadL (rows i) (R k) = true ∧ aheadL (R k) (rows i) = false ∧ apartL [0, 0, 0, 0, 1] (R k) = true ∧ aheadL (rows i) (R i) = true := by
  have G0 := G
  obtain ⟨g1, g2, g3⟩ := G
  have hi5 := g1 i (by omega)
  have hk5 := g1 k (by omega)
  have hmay : mayF 5 (k : Int) (rows i) = true := by
    unfold mayF
    rw [any_neg fun m => (hi5.2 m).1, hi5.1]
    simp; omega
  have G1 := good_same G0 (by omega) hi
  obtain ⟨t1, t2, t3⟩ := good_tick G0 (by omega) hi
  have G2 := good_meet G1 hk hi5.1 (fun m => by have := hi5.2 m; omega) (g2 i hi)
  have e2 : meetF 5 (tickF 5 rows (i : Int)) (k : Int) (rows i) = fun j => if j = k then joinL (tickF 5 rows (i : Int) k) (rows i) else tickF 5 rows (i : Int) j := by
    unfold meetF
    rw [if_pos hmay]
    simp only [Int.toNat_natCast]
  rw [← e2] at G2
  have G3 := good_same G2 (by omega) hk
  obtain ⟨u1, u2, u3⟩ := good_tick G2 (by omega) hk
  refine ⟨hmay, _, rfl, by rw [show s + 2 = s + 1 + 1 by omega]; exact G3, ?_⟩
  generalize hR : tickF 5 (meetF 5 (tickF 5 rows (i : Int)) (k : Int) (rows i)) (k : Int) = R at u1 u2 u3
  have hRk : ∀ m, (R k).getD m 0 = if m = k then max ((rows k).getD m 0) ((rows i).getD m 0) + 1 else max ((rows k).getD m 0) ((rows i).getD m 0) := by
    intro m
    rw [u1, e2]
    simp only [true_and, if_true, joinL_getD, t1, Ne.symm hik, false_and, if_false]
    split
    · rename_i h; rw [h]
    · rfl
  have hRi : ∀ m, (R i).getD m 0 = if m = i then (rows i).getD m 0 + 1 else (rows i).getD m 0 := by
    intro m
    rw [u1, e2]
    simp only [hik, false_and, if_false, t1, true_and]
    split
    · rename_i h; rw [h]
    · rfl
  have hlk : (rows i).length = (R k).length := by rw [hi5.1, u2 k (by omega)]
  have hli : (rows i).length = (R i).length := by rw [hi5.1, u2 i (by omega)]
  have a1 := ahead_of hlk (fun m => by rw [hRk]; split <;> omega) (m := k) (by rw [hRk, if_pos rfl]; omega)
  have a2 := ahead_of hli (fun m => by rw [hRi]; split <;> omega) (m := i) (by rw [hRi, if_pos rfl]; omega)
  refine ⟨a1.1, a1.2, ?_, a2.1⟩
  have hl5 : ([0, 0, 0, 0, 1] : List Int).length = (R k).length := by rw [u2 k (by omega)]; rfl
  have b1 : belowL [0, 0, 0, 0, 1] (R k) = false := by
    rw [Bool.eq_false_iff]
    intro h
    have := (belowL_getD hl5).1 h 4 (by simp)
    rw [hRk, if_neg (by omega), g2 k hk, g2 i hi] at this
    simp at this
  have b2 : belowL (R k) [0, 0, 0, 0, 1] = false := by
    rw [Bool.eq_false_iff]
    intro h
    have h9 := (belowL_getD hl5.symm).1 h k (by rw [← hl5]; simp; omega)
    rw [hRk, if_pos rfl] at h9
    have h8 := hi5.2 k
    have h7 : ([0, 0, 0, 0, 1] : List Int).getD k 0 = 0 := by
      match k, hk with
      | 0, _ | 1, _ | 2, _ | 3, _ => rfl
    omega
  unfold apartL
  rw [b1, b2, decide_eq_true hl5]
  rfl
end Go.Proofs.Ytmmcgbilnnaggaa
