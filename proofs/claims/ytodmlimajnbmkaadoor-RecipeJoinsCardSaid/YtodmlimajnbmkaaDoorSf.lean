/- The text of operations; two texts, joined. Conditions: none. -/
import Derived.Test.YtodmlimajnbmkaaDoorSd
set_option linter.unusedVariables false
set_option linter.unusedSimpArgs false
set_option maxRecDepth 10000
namespace Go.Proofs.YtodmlimajnbmkaaDoor
open Go Go.Crisp
attribute [local irreducible] FCall rowK newK stK iteK vK qK drawK gK joinK loopK mkK appK cpyK nextStrK rangeStrK

def allOk (l : List OpD) : Prop := ∀ o ∈ l, o.ok
instance (l : List OpD) : Decidable (allOk l) := by unfold allOk; exact inferInstance
def printL (l : List OpD) : List UInt8 := Lib.join (l.map wordL) [59]
/-- Little operations. -/
def Small (n : Nat) (l : List OpD) : Prop := ∀ o ∈ l, o.Wf ∧ o.x.length ≤ n ∧ o.y.length ≤ n
theorem printL_length {n : Nat} {l : List OpD} (h : Small n l) : (printL l).length ≤ (71 + 44 * n) * l.length := by
  have := join_length [59] (l.map wordL) (70 + 44 * n) (fun x hx => by
    obtain ⟨o, ho, rfl⟩ := List.mem_map.1 hx
    obtain ⟨w, h1, h2⟩ := h o ho
    have := wordL_length w
    omega)
  rw [List.length_map] at this
  refine Nat.le_trans this (Nat.le_of_eq ?_)
  congr 1
  simp; omega

theorem six_zero : ((6 : Int) = 0) = False := eq_false (by omega)
theorem c_Print {h : Heap} (G : GlobH h) {Z : Nat → Prop} {v : Value} {l : List OpD} (H : Rp.Sl rOp Z h v l) (hw : Small 1000 l) (hl : l.length ≤ 1000) :
    FCall Tryd.prog F_recipe_Print #[v] h fun r h' => r = .tuple #[S (if allOk l then printL l else []), .int .i64 (if allOk l then 0 else 6)] ∧ Ext h h' := by
  apply ok_recipe_Print
  unfold sh_recipe_Print
  obtain ⟨a, cap, rfl⟩ := H.isSl
  simp only [go_sem]
  refine loopK_var (fun d xs h2 => ∃ (i : Nat) (sv : Value), i ≤ l.length ∧ d = l.length - i ∧ xs = [sv, .int .i64 (i : Int)] ∧ Words h2 sv ((l.take i).map wordL) ∧ Ext h h2 ∧ (∀ b, blk sv b → h.size ≤ b) ∧ allOk (l.take i)) l.length
    ⟨0, _, by omega, by omega, rfl, Rp.Ow.nil, Ext.refl _, fun b hb => hb.elim, fun o ho => absurd ho (by simp)⟩ ?_
  rintro d _ ρj h2 again ⟨i, sv, hi, rfl, rfl, W, e, nb, ok⟩ hag
  simp only [go_sem]
  refine iteK_dec (fun h1 => ?_) (fun h1 => ?_)
  · have hi' : i < l.length := by omega
    obtain ⟨p, cs, hp, hc, hR⟩ := (H.ext e).atw (by decide) (k := .i64) hi'
    have hp : idxV 9 (.slice a l.length cap) (.int .i64 (i : Int)) = some p := hp
    have hc : ldsV 9 h2 p = some (.agg cs.toArray) := hc
    have hcl : cs.length = 9 := rOp.len hR
    simp only [go_sem, hp, hc]
    obtain ⟨wf, hx, hy⟩ := hw l[i] (List.getElem_mem hi')
    refine var_new hcl (rOp.one hR) hcl fun b h3 r3 e3 n3 => ?_
    rw [lds_row r3 9 hcl, vK_some]
    refine (c_Word (G.ext (e.trans e3)) (rOp.ext hR e3) wf (by omega) (by omega)).mono fun r h4 ⟨hr, e4⟩ => ?_
    subst hr
    by_cases hk : l[i].ok
    · rw [if_pos hk]
      simp only [go_sem]
      refine Rp.push_ow1 (e := Rp.bs) rfl (x := wordL l[i]) (W.ext (e3.trans e4)) rfl rfl (by simp; omega) (by simp; omega) (fun b hb => hb.elim) fun s' h5 o5 f5 n5 => ?_
      rw [w64 (by omega) (by omega)]
      have ht : l.take (i + 1) = l.take i ++ [l[i]] := List.take_succ_eq_append_getElem hi'
      refine hag _ _ (l.length - (i + 1)) (by omega) ⟨i + 1, s', by omega, rfl, by simp, ?_, (e.trans (e3.trans e4)).then_fr f5 nb, fun b hb => ?_, ?_⟩
      · rw [ht, List.map_append]; exact o5
      · rcases n5 b hb with h6 | h6
        · exact nb b h6
        · exact Nat.le_trans (e.trans (e3.trans e4)).1 h6
      · rw [ht]
        intro o ho
        rcases List.mem_append.1 ho with h6 | h6
        · exact ok o h6
        · rw [List.mem_singleton.1 h6]; exact hk
    · rw [if_neg hk]
      have hn : ¬ allOk l := fun h => hk (h _ (List.getElem_mem hi'))
      simp only [go_sem, six_zero]
      rw [if_neg hn, if_neg hn]
      exact ⟨rfl, e.trans (e3.trans e4)⟩
  · have : i = l.length := by omega
    subst this
    rw [List.take_length] at W ok
    rw [if_pos ok, if_pos ok]
    refine FCall.mono (c_Join W (by simp; omega) ?_) fun r h3 ⟨hr, e3⟩ => ?_
    · have := printL_length hw
      show (printL l).length ≤ _
      have h2 : (71 + 44 * 1000) * l.length ≤ (71 + 44 * 1000) * 1000 := Nat.mul_le_mul_left _ hl
      omega
    · subst hr
      exact ⟨rfl, e.trans e3⟩

def fewL (l : List OpD) : Prop := (∀ o ∈ l, o.x.length ≤ 60 ∧ o.y.length ≤ 60) ∧ l.length ≤ 20
instance (l : List OpD) : Decidable (fewL l) := by unfold fewL; exact inferInstance
theorem c_few {h : Heap} {Z : Nat → Prop} {v : Value} {l : List OpD} (H : Rp.Sl rOp Z h v l) (hl : l.length ≤ 4398046511104) :
    FCall Tryd.prog F_law13_few #[v] h fun r h' => r = .bool (decide (fewL l)) ∧ Ext h h' := by
  apply ok_law13_few
  unfold sh_law13_few
  obtain ⟨a, cap, rfl⟩ := H.isSl
  simp only [go_sem]
  refine loop_count l.length (fun i h2 => i ≤ l.length ∧ Ext h h2 ∧ ∀ o ∈ l.take i, o.x.length ≤ 60 ∧ o.y.length ≤ 60) ⟨by omega, Ext.refl _, fun o ho => absurd ho (by simp)⟩ ?_
  rintro i h2 again ρj ⟨hi, e, ok⟩ hag
  simp only [go_sem]
  refine iteK_dec (fun h1 => ?_) (fun h1 => ?_)
  · have hi' : i < l.length := by omega
    obtain ⟨p, cs, hp, hc, hR⟩ := (H.ext e).atw (by decide) (k := .i64) hi'
    have hp : idxV 9 (.slice a l.length cap) (.int .i64 (i : Int)) = some p := hp
    have hc : ldsV 9 h2 p = some (.agg cs.toArray) := hc
    have hcl : cs.length = 9 := rOp.len hR
    simp only [go_sem, hp, hc]
    refine var_new hcl (rOp.one hR) hcl fun b h3 r3 e3 n3 => ?_
    obtain ⟨s, t, rfl, Hx, Hy⟩ := hR
    obtain ⟨a1, c1, rfl⟩ := Hx.isSl
    obtain ⟨a2, c2, rfl⟩ := Hy.isSl
    have fin : ¬ (l[i].x.length ≤ 60 ∧ l[i].y.length ≤ 60) → Value.bool false = .bool (decide (fewL l)) := fun hn => by
      rw [decide_eq_false fun h => hn (h.1 _ (List.getElem_mem hi'))]
    by_cases hx : 60 < l[i].x.length
    · have q : (60 < (l[i].x.length : Int)) = True := eq_true (by omega)
      simp only [go_sem, cell_row r3, q]
      exact ⟨fin (by omega), e.trans e3⟩
    · have q : (60 < (l[i].x.length : Int)) = False := eq_false (by omega)
      by_cases hy : 60 < l[i].y.length
      · have q2 : (60 < (l[i].y.length : Int)) = True := eq_true (by omega)
        simp only [go_sem, cell_row r3, q, q2]
        exact ⟨fin (by omega), e.trans e3⟩
      · have q2 : (60 < (l[i].y.length : Int)) = False := eq_false (by omega)
        simp only [go_sem, cell_row r3, q, q2]
        rw [w64 (by omega) (by omega)]
        refine hag _ hi' ⟨by omega, e.trans e3, ?_⟩
        rw [List.take_succ_eq_append_getElem hi']
        intro o ho
        rcases List.mem_append.1 ho with h6 | h6
        · exact ok o h6
        · rw [List.mem_singleton.1 h6]; omega
  · have : i = l.length := by omega
    subst this
    rw [List.take_length] at ok
    refine ⟨?_, e⟩
    congr 1
    by_cases h6 : l.length ≤ 20
    · rw [decide_eq_true (by omega), decide_eq_true ⟨ok, h6⟩]
    · rw [decide_eq_false (by omega), decide_eq_false fun h => h6 h.2]
end Go.Proofs.YtodmlimajnbmkaaDoor
