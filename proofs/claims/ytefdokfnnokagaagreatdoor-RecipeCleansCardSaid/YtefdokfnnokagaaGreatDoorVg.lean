/- Operations that may be played (the statements' own Little), the sizes that an operation leads to. Conditions: none. -/
import Derived.Test.YtefdokfnnokagaaGreatDoorVf
set_option linter.unusedVariables false
set_option linter.unusedSimpArgs false
set_option maxRecDepth 10000
namespace Go.Proofs.YtefdokfnnokagaaGreatDoor
open Go Go.Crisp
attribute [local irreducible] FCall rowK newK stK iteK vK qK drawK gK joinK loopK mkK appK cpyK nextStrK rangeStrK bsK clK

def tooMuch (side : Int) (o : OpD) : Prop := 40 < o.x.length ∨ 40 < o.y.length ∨ (262144 < o.sigma ∧ o.sigma ≤ 4194304) ∨ (20 < o.radius ∧ o.radius < 512) ∨ (side < o.w ∧ o.w ≤ 65536) ∨ (side < o.hh ∧ o.hh ≤ 65536)
instance (side : Int) (o : OpD) : Decidable (tooMuch side o) := by unfold tooMuch; infer_instance
def littleOps (side : Int) (l : List OpD) : Prop := ∀ o ∈ l, ¬ tooMuch side o
instance (side : Int) (l : List OpD) : Decidable (littleOps side l) := by unfold littleOps; infer_instance
theorem c_Little {Z : Nat → Prop} {h : Heap} {v : Value} {l : List OpD} {side : Int} (H : Rp.Sl rOp Z h v l) (hl : l.length < 4611686018427387904) :
    FCall Tryz.prog F_law12_Little #[v, .int .i64 side] h fun r h' => r = .bool (decide (littleOps side l)) ∧ Ext h h' := by
  apply ok_law12_Little
  unfold sh_law12_Little
  obtain ⟨a, cap, e⟩ := H.isSl
  have e2 : lenslV v = some (.int .i64 (l.length : Int)) := by rw [e]; rfl
  rw [e2, vK_some]
  refine loop_g l.length 0 (fun k (_ : Unit) => [.int .i64 (k : Int)]) (fun k _ h' => Ext h h' ∧ ∀ o ∈ l.take k, ¬ tooMuch side o) () rfl (Nat.zero_le _) ⟨Ext.refl _, by simp⟩ fun k _ h1 again ρj _ hk ⟨E1, hI⟩ Hag => ?_
  simp only [go_sem]
  refine iteK_dec (fun h0 => ?_) (fun h0 => ?_)
  · have hk' : k < l.length := by omega
    obtain ⟨p, cs, q1, q2, Ho⟩ := Rp.Sl.atw (e := rOp) (H.ext E1) (show 0 < 9 by omega) (k := .i64) hk'
    have q1 : idxV 9 v (.int .i64 (k : Int)) = some p := q1
    have q2 : ldsV 9 h1 p = some (.agg cs.toArray) := q2
    rw [q1, vK_some, q2, vK_some]
    have Ho0 := Ho
    have ho1 := rOp.one Ho
    obtain ⟨s, t, rfl, Hx, Hy⟩ := Ho
    refine var_new (cs := [.int .i64 l[k].kind, .int .i64 l[k].border, .int .i64 l[k].sigma, .int .i64 l[k].radius, s, t, .int .i64 l[k].filter, .int .i64 l[k].w, .int .i64 l[k].hh]) rfl ho1 rfl fun b h2 r2 e3 n3 => ?_
    obtain ⟨ax, cx, ex⟩ := Hx.isSl
    have ex2 : lenslV s = some (.int .i64 (l[k].x.length : Int)) := by rw [ex]; rfl
    obtain ⟨ay, cy, ey⟩ := Hy.isSl
    have ey2 : lenslV t = some (.int .i64 (l[k].y.length : Int)) := by rw [ey]; rfl
    simp only [go_sem, cell_row r2, ex2, ey2]
    refine iteK_dec (fun h3 => ?_) (fun h3 => ?_)
    · refine ⟨?_, E1.trans e3⟩
      congr 1
      rw [Eq.comm, decide_eq_false_iff_not]
      intro hh
      refine hh _ (List.getElem_mem hk') ?_
      unfold tooMuch
      omega
    · rw [w64 (by omega) (by omega)]
      refine Hag () h2 hk' ⟨E1.trans e3, fun o ho => ?_⟩
      rw [List.take_succ_eq_append_getElem hk'] at ho
      rcases List.mem_append.1 ho with ho | ho
      · exact hI o ho
      · rw [List.mem_singleton.1 ho]
        unfold tooMuch
        omega
  · rw [List.take_of_length_le (by omega)] at hI
    refine ⟨?_, E1⟩
    congr 1
    rw [Eq.comm, decide_eq_true_eq]
    exact hI
end Go.Proofs.YtefdokfnnokagaaGreatDoor
