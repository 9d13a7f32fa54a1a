/- Whether a ring is the document's; RingPlays. Conditions: none. -/
import Derived.Test.YtmmcgbilnnaggaaNh
import Derived.Test.YtmmcgbilnnaggaaRc
set_option linter.unusedVariables false
set_option linter.unusedSimpArgs false
namespace Go.Proofs.Ytmmcgbilnnaggaa
open Go Go.Crisp
attribute [local irreducible] FCall rowK newK stK iteK vK qK drawK gK joinK loopK mkK appK cpyK mapPutK mapDelK newmK rangeMapK nextMapK entryK

theorem c_same {M Z : Nat → Prop} {h : Heap} {v u : Value} {room w : Nat} {rs rows : List (Int × List Int)} (H : IsRing M h v room w rs) (HU : IsRef Z h u room w rows) (p : rs.Perm rows) (hr : Rising rows) :
    FCall Try.prog F_law16_same #[v, u] h fun r h' => r = .bool true ∧ Ext h h' := by
  obtain ⟨s, rfl, hs⟩ := HU
  apply ok_law16_same
  unfold sh_law16_same
  simp only [cells_agg]
  refine newK_use fun b1 h1 r1 e1 n1 => ?_
  have hs0 := hs.ext e1
  obtain ⟨sa, sc, rfl⟩ := hs.isSl
  have R1 := H.ext e1
  have hn := H.nums
  have hlen : rs.length = rows.length := p.length_eq
  have hlen' : (rs.length : Int) = (rows.length : Int) := by omega
  have hm : room * w ≤ 65536 * 262144 := Nat.mul_le_mul hn.2.1 hn.2.2.1
  have hm' : ((room * w : Nat) : Int) = (room : Int) * w := Int.natCast_mul ..
  have wm : IntKind.i64.wrap ((room : Int) * w) = (room : Int) * w := w64 (by omega) (by omega)
  refine drawK_ext ?_
  try simp only [go_sem]
  refine qK_val (.slice sa rows.length sc) (fun hh S => by rw [cell_row (S.row r1)]; rfl) ?_
  refine qK_val (.int .i64 (rows.length : Nat)) (fun hh S => rfl) ?_
  refine (c_RLen R1).mono ?_
  rintro _ h2 ⟨rfl, hh⟩
  subst hh
  refine ⟨Ext.refl _, ?_⟩
  simp only [go_sem, hlen']
  refine qK_val (.int .i64 (room : Nat)) (fun hh S => by rw [cell_row (S.row r1)]; rfl) ?_
  refine (c_RRoom R1).mono ?_
  rintro _ h2 ⟨rfl, hh⟩
  subst hh
  refine ⟨Ext.refl _, ?_⟩
  simp only [go_sem]
  refine qK_val (.int .i64 (w : Nat)) (fun hh S => by rw [cell_row (S.row r1)]; rfl) ?_
  refine (c_RWidth R1).mono ?_
  rintro _ h2 ⟨rfl, hh⟩
  subst hh
  refine ⟨Ext.refl _, ?_⟩
  simp only [go_sem]
  refine qK_val (.int .i64 (room : Nat)) (fun hh S => by rw [cell_row (S.row r1)]; rfl) ?_
  refine qK_val (.int .i64 (w : Nat)) (fun hh S => by rw [cell_row (S.row r1)]; rfl) ?_
  simp only [go_sem, wm]
  refine (c_RWords R1).mono ?_
  rintro _ h2 ⟨rfl, hh⟩
  subst hh
  refine ⟨Ext.refl _, ?_⟩
  simp only [go_sem]
  refine (c_RLen R1).mono ?_
  rintro _ h2 ⟨rfl, hh⟩
  subst hh
  refine ⟨Ext.refl _, ?_⟩
  try simp only [go_sem]
  refine (c_RRoom R1).mono ?_
  rintro _ h2 ⟨rfl, hh⟩
  subst hh
  have hle : ¬ (room : Int) < (rs.length : Int) := by omega
  simp only [go_sem, hle]
  refine (c_RFirst R1).mono ?_
  rintro _ h2 ⟨rfl, e2⟩
  have r12 := e2.row r1
  have hs2 := hs0.ext e2
  have loop : loopK [.int .i64 0] h2 (fun x71 j72 h73 again74 =>
      vK (binV .i .lss (ix x71 0) (.int .i64 (rows.length : Nat))) fun v75 => iteK v75 (
      vK (idxV 2 (.slice sa rows.length sc) (ix x71 0)) fun v76 => vK (ldsV 2 h73 v76) fun v77 =>
      newK #[(.int .i64 0), (.slice none 0 0)] 112 h73 fun v78 h79 => stK 2 v78 v77 h79 fun v80 h81 =>
      vK (fldV 0 v78) fun v82 => vK (ldV h81 v82) fun v83 =>
      FCall Try.prog F_ring_Ring_Row #[v, v83] h81 fun v84 h85 =>
      vK (extV v84 0) fun v86 => vK (extV v84 1) fun v87 => vK (unV .not v87) fun v88 =>
      vK (gV v88 false (some v)) fun v89 => vK (gV v88 false (fldV 0 v78)) fun v90 => vK (gV v88 false (ldV h85 v90)) fun v91 =>
      gK v88 false (fun k105 => FCall Try.prog F_ring_Ring_Has #[v89, v91] h85 k105) h85 fun v92 h93 =>
      vK (gV v88 false (unV .not v92)) fun v94 => vK (pickV v88 (.bool true) v94) fun v95 =>
      vK (gV v95 false (some v86)) fun v96 => vK (gV v95 false (fldV 1 v78)) fun v97 => vK (gV v95 false (ldV h93 v97)) fun v98 =>
      gK v95 false (fun k104 => FCall Try.prog F_ref06_Same #[v96, v98] h93 k104) h93 fun v99 h100 =>
      vK (gV v95 false (unV .not v99)) fun v101 => vK (pickV v95 (.bool true) v101) fun v102 =>
      iteK v102 (.bool false = Value.bool true ∧ Ext h h100) (
      vK (binV .i .add (ix x71 0) (.int .i64 1)) fun v103 => again74 [v103] h100)) (True ∧ Ext h h73)) := by
    refine loop_count rows.length (fun k h' => k ≤ rows.length ∧ Ext h2 h') ⟨by omega, Ext.refl _⟩ ?_
    rintro k h3 again ρj ⟨hk, e3⟩ hag
    simp only [go_sem]
    refine iteK_dec (fun hlt => ?_) (fun hge => ⟨by trivial, (e1.trans e2).trans e3⟩)
    have hlt : k < rows.length := by omega
    have wk : IntKind.i64.wrap ((k : Int) + 1) = (k : Int) + 1 := w64 (by omega) (by omega)
    refine row_var (hs2.ext e3) hlt rfl fun b4 h4 x hx r4 e4 n4 => ?_
    have hmem : rows[k] ∈ rows := List.getElem_mem hlt
    have hg : kGet rows[k].1 rs = some rows[k].2 := by
      rw [kGet_perm p hr.nodup]
      exact kGet_of_mem hr.nodup hmem
    have R4 := ((R1.ext e2).ext e3).ext e4
    simp only [go_sem, cell_row r4]
    refine (c_RRow R4 rows[k].1).mono ?_
    rintro _ h5 ⟨y, rfl, o5, e5, n5⟩
    rw [hg] at o5 ⊢
    have r5 := e5.row r4
    simp only [go_sem, Option.isSome_some, cell_row r5]
    refine (c_RHas (R4.ext e5) rows[k].1).mono ?_
    rintro _ h6 ⟨rfl, hh⟩
    subst hh
    rw [hg]
    simp only [go_sem, Option.isSome_some, cell_row r5]
    have hlk : rows[k].2.length = w := (hn.2.2.2.2 rows[k] (p.mem_iff.2 hmem)).1
    refine (c_Same06 (lb := rows[k].2) o5.ints (sl_ints (hx.ext e5)) (by simp only [Option.getD_some]; omega)).mono ?_
    rintro _ h7 ⟨rfl, hh⟩
    subst hh
    simp only [go_sem, Option.getD_some, wk]
    exact hag _ hlt ⟨hlt, (e3.trans e4).trans e5⟩
  by_cases h0 : rows = []
  · subst h0
    have hrs : rs = [] := List.eq_nil_of_length_eq_zero hlen
    subst hrs
    have hz : ¬ (0 : Int) < (([] : List (Int × List Int)).length : Int) := by simp
    simp only [go_sem, cell_row r12, hz, bne_self_eq_false, beq_self_eq_true, List.map_nil, minL]
    exact loop
  · have hrs : ¬ rs = [] := fun h => h0 (List.eq_nil_of_length_eq_zero (by rw [← hlen, h]; rfl))
    have hp0 : 0 < rows.length := List.length_pos_iff.2 h0
    have hp0' : (0 : Int) < (rows.length : Int) := by omega
    obtain ⟨b0, o0, cs, hp, hcl, hcs, hcR, _⟩ := hs2.atp (show 0 < rRow.w by decide) (k := .i64) hp0
    have hp : idxV 2 (.slice sa rows.length sc) (.int .i64 0) = some (.pointer (some ⟨b0, o0, none⟩)) := hp
    obtain ⟨x0, rfl, _⟩ := hcR
    have hc0 := hcs 0 (by simp)
    simp only [Nat.add_zero, List.getElem_cons_zero] at hc0
    have hmin : minL (rs.map Prod.fst) = rows[0].1 := by
      rw [minL_perm (p.map Prod.fst)]
      cases rows with
      | nil => exact absurd rfl h0
      | cons x r => exact min_rising hr
    simp only [go_sem, cell_row r12, hrs, hp0', hp, Nat.add_zero, hc0, hmin, bne_self_eq_false, beq_self_eq_true]
    exact loop
end Go.Proofs.Ytmmcgbilnnaggaa
