/- Operations that are the same; an operation as the document has it. Conditions: none. -/
import Derived.Test.YtefdokfnnokagaaGreatDoorSi
set_option linter.unusedVariables false
set_option linter.unusedSimpArgs false
set_option maxRecDepth 10000
namespace Go.Proofs.YtefdokfnnokagaaGreatDoor
open Go Go.Crisp
attribute [local irreducible] FCall rowK newK stK iteK vK qK drawK gK joinK loopK mkK appK cpyK nextStrK rangeStrK bsK

theorem rI_cell {Z : Nat → Prop} {h : Heap} {v : Value} {l : List Int} (H : Rp.Sl rI Z h v l) {i : Nat} (hi : i < l.length) :
    ∃ p, idxV 1 v (.int .i64 (i : Int)) = some p ∧ ldV h p = some (.int .i64 l[i]) := by
  obtain ⟨p, c, hp, hc, hR⟩ := H.at1 rfl (k := .i64) hi
  have hR : [c] = [.int .i64 l[i]] := hR
  obtain rfl : c = .int .i64 l[i] := by simpa using hR
  exact ⟨p, hp, hc⟩
theorem c_Same06 {h : Heap} {Z Z' : Nat → Prop} {v u : Value} {l : List Int} (H : Rp.Sl rI Z h v l) (K : Rp.Sl rI Z' h u l) (hl : l.length ≤ 4398046511104) :
    FCall Tryz.prog F_ref06_Same #[v, u] h fun r h' => r = .bool true ∧ h' = h := by
  apply ok_ref06_Same
  unfold sh_ref06_Same
  have H0 := H
  have K0 := K
  obtain ⟨a, c, rfl⟩ := H.isSl
  obtain ⟨a', c', rfl⟩ := K.isSl
  simp only [go_sem]
  refine loop_count l.length (fun i h2 => i ≤ l.length ∧ h2 = h) ⟨by omega, rfl⟩ ?_
  rintro i _ again ρj ⟨hi, rfl⟩ hag
  simp only [go_sem]
  refine iteK_dec (fun h1 => ?_) (fun h1 => ?_)
  · have hi' : i < l.length := by omega
    obtain ⟨p, hp, hc⟩ := rI_cell H0 hi'
    obtain ⟨q, hq, hd⟩ := rI_cell K0 hi'
    simp only [go_sem, hp, hc, hq, hd]
    rw [w64 (by omega) (by omega)]
    exact hag _ hi' ⟨by omega, rfl⟩
  · exact ⟨trivial, trivial⟩
theorem c_Same {h : Heap} {Z Z' : Nat → Prop} {cs ds : List Value} {o : OpD} (H : rOp.R Z h cs o) (K : rOp.R Z' h ds o) (hx : o.x.length ≤ 1000000) (hy : o.y.length ≤ 1000000) :
    FCall Tryz.prog F_law13_Same #[.agg cs.toArray, .agg ds.toArray] h fun r h' => r = .bool true ∧ Ext h h' := by
  apply ok_law13_Same
  unfold sh_law13_Same
  obtain ⟨s, t, rfl, Hx, Hy⟩ := H
  obtain ⟨s', t', rfl, Kx, Ky⟩ := K
  simp only [cells_agg]
  refine newK_use fun b1 h1 r1 e1 n1 => newK_use fun b2 h2 r2 e2 n2 => ?_
  have r1 := e2.row r1
  have e := e1.trans e2
  simp only [go_sem, cell_row r1, cell_row r2]
  refine (c_Same06 (Hx.ext e) (Kx.ext e) (by omega)).mono fun v3 h3 ⟨hv3, hh3⟩ => ?_
  have hh3 := hh3.symm
  subst hv3 hh3
  simp only [go_sem, cell_row r1, cell_row r2]
  refine (c_Same06 (Hy.ext e) (Ky.ext e) (by omega)).mono fun v4 h4 ⟨hv4, hh4⟩ => ?_
  have hh4 := hh4.symm
  subst hv4 hh4
  simp only [go_sem]
  exact ⟨trivial, e⟩
theorem c_Ref {h : Heap} {Z : Nat → Prop} {cs : List Value} {o : OpD} (H : rOp.R Z h cs o) :
    FCall Tryz.prog F_law12_Ref #[.agg cs.toArray] h fun r h' => r = .agg cs.toArray ∧ rOp.R Z h' cs o ∧ Ext h h' := by
  apply ok_law12_Ref
  unfold sh_law12_Ref
  have H0 := H
  obtain ⟨s, t, rfl, Hx, Hy⟩ := H
  have os := Hx.one
  have ot := Hy.one
  simp only [cells_agg]
  refine newK_use fun b1 h1 r1 e1 n1 => newK_use fun b2 h2 r2 e2 n2 => ?_
  have r1 := e2.row r1
  have e := e1.trans e2
  have s1 := e1.1
  simp only [go_sem, cell_row r1]
  have hf : fillL #[(.int .i64 0), (.int .i64 0), (.int .i64 0), (.int .i64 0), (.slice none 0 0), (.slice none 0 0), (.int .i64 0), (.int .i64 0), (.int .i64 0)]
      [(0, 1, (.int .i64 o.kind)), (1, 1, (.int .i64 o.border)), (2, 1, (.int .i64 o.sigma)), (3, 1, (.int .i64 o.radius)), (4, 1, s), (5, 1, t), (6, 1, (.int .i64 o.filter)), (7, 1, (.int .i64 o.w)), (8, 1, (.int .i64 o.hh))] =
      some #[.int .i64 o.kind, .int .i64 o.border, .int .i64 o.sigma, .int .i64 o.radius, s, t, .int .i64 o.filter, .int .i64 o.w, .int .i64 o.hh] := by
    simp [fillL, cells_one os, cells_one ot, cells_one (i_one _ _)]
  rw [hf, Option.map_some, vK_some]
  refine st_var (l := [.int .i64 o.kind, .int .i64 o.border, .int .i64 o.sigma, .int .i64 o.radius, s, t, .int .i64 o.filter, .int .i64 o.w, .int .i64 o.hh]) r2 rfl (rOp.one H0) rfl fun h3 r3 u3 => ?_
  rw [lds_row r3 9 rfl, vK_some]
  exact ⟨rfl, rOp.ext H0 (e.upd (by omega) u3), e.upd (by omega) u3⟩
end Go.Proofs.YtefdokfnnokagaaGreatDoor
