/- ClockStamps: what is ahead, apart, the same, joined, as the document has it. Conditions: none. -/
import Derived.Test.YtmmcgbilnnaggaaKg
set_option linter.unusedVariables false
set_option linter.unusedSimpArgs false
namespace Go.Proofs.Ytmmcgbilnnaggaa
open Go Go.Crisp
attribute [local irreducible] FCall rowK newK stK iteK vK qK drawK gK joinK loopK mkK appK cpyK

/-- One number more. -/
theorem push_own {e : TypeId} {h : Heap} {v : Value} {l : List Int} {x : Int} {K : Value → Heap → Prop} (hv : OwnI h v l) (hl : l.length ≤ 4398046511104)
    (H : ∀ r h', OwnI h' r (l ++ [x]) → Fr (blk v) h h' → (∀ b, blk r b → blk v b ∨ h.size ≤ b) → K r h') : rowK #[.int .i64 0] e 1 [(0, 1, .int .i64 x)] h fun v2 h3 => appK (.int .i64 0) e 1 8 v v2 h3 K := by
  refine rowK_use (c' := #[.int .i64 x]) (by kernel_rfl) fun b h1 r1 e1 n1 => ?_
  have hx : SlC 1 h1 (.slice (some ⟨b, 0, none⟩) 1 1) 1 ([x].map vi) := ⟨rfl, _, 1, rfl, .inr ⟨b, 0, rfl, fun j hj => by
    rw [cell_row r1]
    match j, hj with
    | 0, _ => rfl⟩⟩
  refine appK_own (Own.fr hv (M := fun _ => False) e1.fr fun _ _ => id) hx vi_one rfl (by omega) (by omega) fun s' h2 o2 f2 n2 => ?_
  rw [← List.map_append, show l.length + 1 = (l ++ [x]).length by simp] at o2
  exact H s' h2 o2 (e1.fr.trans f2) fun k hk => (n2 k hk).imp (fun h => h) fun h => Nat.le_trans e1.1 h

theorem c_at {h : Heap} {v : Value} {l : List Int} (hv : Ints h v l) (i : Nat) :
    FCall Try.prog F_ref19_at #[v, .int .i64 (i : Int)] h fun r h' => r = .int .i64 (l.getD i 0) ∧ h' = h := by
  apply ok_ref19_at
  unfold sh_ref19_at
  have hv0 := hv
  obtain ⟨a, cap, rfl, _⟩ := hv
  simp only [go_sem]
  refine iteK_dec (fun hlt => ?_) (fun hge => ?_)
  · have hlt : i < l.length := by omega
    obtain ⟨p, hp, hq⟩ := hv0.sl.at1 (k := .i64) hlt
    rw [List.getElem_map, ← getD_in hlt] at hq
    simp only [go_sem, hp, hq]
    exact ⟨rfl, trivial⟩
  · rw [getD_out (by omega)]
    exact ⟨rfl, trivial⟩

theorem joinL_take {a b : List Int} {k : Nat} (hk : k < max a.length b.length) : ((joinL a b).take k) ++ [max (a.getD k 0) (b.getD k 0)] = (joinL a b).take (k + 1) := by
  rw [List.take_succ_eq_append_getElem (by rw [joinL_length]; exact hk)]
  simp [joinL]

theorem c_refJoin {h : Heap} {v u : Value} {a b : List Int} (ha : Ints h v a) (hb : Ints h u b) (la : a.length ≤ 4398046511) (lb : b.length ≤ 4398046511) :
    FCall Try.prog F_ref19_Join #[v, u] h fun r h' => OwnI h' r (joinL a b) ∧ Ext h h' ∧ ∀ k, blk r k → h.size ≤ k := by
  apply ok_ref19_Join
  unfold sh_ref19_Join
  have ha0 := ha
  have hb0 := hb
  obtain ⟨aa, ac, rfl, _⟩ := ha
  obtain ⟨ba, bc, rfl, _⟩ := hb
  refine loopK_var (fun d xs h' => Ext h h' ∧ ∃ k r, k ≤ max a.length b.length ∧ d = max a.length b.length - k ∧ xs = [r, .int .i64 (k : Int)] ∧ OwnI h' r ((joinL a b).take k) ∧ ∀ m, blk r m → h.size ≤ m) _
    ⟨Ext.refl h, 0, .slice none 0 0, Nat.zero_le _, rfl, rfl, own_nil, fun m hm => hm.elim⟩ ?_
  rintro d _ ρj h1 again ⟨e1, k, r, hk, rfl, rfl, o1, n1⟩ hag
  by_cases hlt : k < max a.length b.length
  · have step : ∀ (e : TypeId) (x : Int), x = max (a.getD k 0) (b.getD k 0) → rowK #[.int .i64 0] e 1 [(0, 1, .int .i64 x)] h1 fun v2 h3 => appK (.int .i64 0) e 1 8 r v2 h3 fun v21 h22 => again [v21, .int .i64 (IntKind.i64.wrap ((k : Int) + 1))] h22 := by
      intro e x hx
      refine push_own o1 (by rw [List.length_take]; omega) fun s h2 o2 f2 n2 => ?_
      rw [hx, joinL_take hlt] at o2
      rw [w64 (by omega) (by omega)]
      refine hag _ _ (max a.length b.length - (k + 1)) (by omega) ⟨e1.then_fr f2 n1, k + 1, s, hlt, rfl, by simp, o2, fun m hm => ?_⟩
      rcases n2 m hm with h3 | h3
      · exact n1 m h3
      · exact Nat.le_trans e1.1 h3
    have hcond : (k : Int) < a.length ∨ (¬ (k : Int) < a.length) ∧ (k : Int) < b.length := by omega
    rcases hcond with hh | hh
    case' inl => simp only [go_sem, hh]
    case' inr => simp only [go_sem, hh.1, hh.2]
    all_goals
      refine (c_at (ha0.ext e1) k).mono ?_
      rintro _ h2 ⟨rfl, hx⟩
      subst hx
      refine (c_at (hb0.ext e1) k).mono ?_
      rintro _ h2 ⟨rfl, hx⟩
      subst hx
      simp only [go_sem]
      refine iteK_dec (fun hgt => ?_) (fun hle => ?_)
      · refine (c_at (hb0.ext e1) k).mono ?_
        rintro _ h2 ⟨rfl, hx⟩
        subst hx
        exact step _ _ (by omega)
      · exact step _ _ (by omega)
  · have h1' : ¬ (k : Int) < a.length := by omega
    have h2' : ¬ (k : Int) < b.length := by omega
    simp only [go_sem, h1', h2']
    rw [List.take_of_length_le (by rw [joinL_length]; omega)] at o1
    exact ⟨o1, e1, n1⟩

def apartL (a b : List Int) : Bool := decide (a.length = b.length) && (!belowL a b && !belowL b a)

theorem len_eq {a b : List Int} : decide ((a.length : Int) = (b.length : Int)) = decide (a.length = b.length) := by
  rw [decide_eq_decide]; omega

theorem c_Apart {h : Heap} {v u : Value} {a b : List Int} (ha : Ints h v a) (hb : Ints h u b) (la : a.length ≤ 9223372036854775807) (lb : b.length ≤ 9223372036854775807) :
    FCall Try.prog F_clock_Apart #[v, u] h fun r h' => r = .bool (apartL a b) ∧ h' = h := by
  apply ok_clock_Apart
  unfold sh_clock_Apart
  have ha0 := ha
  have hb0 := hb
  obtain ⟨aa, ac, rfl, _⟩ := ha
  obtain ⟨ba, bc, rfl, _⟩ := hb
  by_cases hl : a.length = b.length
  · have hl' : (a.length : Int) = (b.length : Int) := by omega
    simp only [go_sem, hl']
    refine (c_below ha0 hb0 la).mono ?_
    rintro _ h1 ⟨rfl, hx⟩
    subst hx
    cases h1 : belowL a b with
    | true =>
      simp only [go_sem]
      exact ⟨by simp [apartL, h1], trivial⟩
    | false =>
      simp only [go_sem]
      refine (c_below hb0 ha0 lb).mono ?_
      rintro _ h2 ⟨rfl, hx⟩
      subst hx
      try simp only [go_sem]
      exact ⟨by simp [apartL, h1, hl], trivial⟩
  · have hl' : ¬ (a.length : Int) = (b.length : Int) := by omega
    simp only [go_sem, hl']
    exact ⟨by simp [apartL, hl], trivial⟩
end Go.Proofs.Ytmmcgbilnnaggaa
