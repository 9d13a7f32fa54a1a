/- The ring's Reset; RingSizes, RingReset. Conditions: none. -/
import Derived.Test.YtmmcgbilnnaggaaNc
set_option linter.unusedVariables false
set_option linter.unusedSimpArgs false
namespace Go.Proofs.Ytmmcgbilnnaggaa
open Go Go.Crisp
attribute [local irreducible] FCall rowK newK stK iteK vK qK drawK gK joinK loopK mkK appK cpyK mapPutK mapDelK newmK rangeMapK nextMapK entryK

theorem c_RReset {M : Nat → Prop} {h : Heap} {v : Value} {room w : Nat} {rs : List (Int × List Int)} (H : IsRing M h v room w rs) :
    FCall Try.prog F_ring_Ring_Reset #[v] h fun _ h' => ∃ M', IsRing M' h' v room w [] ∧ Fr M h h' ∧ ∀ k, M' k → M k ∨ h.size ≤ k := by
  obtain ⟨bx, bm, fr, t, es, fv, rfl, R, rfl, hlen⟩ := H
  apply ok_ring_Ring_Reset
  unfold sh_ring_Ring_Reset
  obtain ⟨es0, c, hb0, hs0, hk0⟩ := R.map
  simp only [go_sem, cell_row R.var]
  refine range_map hb0 fun it h1 r1 e1 n1 => ?_
  have lbm := row_lt hb0
  refine loopK_var (fun d xs h' => xs = [] ∧ ∃ M' fr' es' fv' seen es1, d = es'.length ∧ RingAt M' h' bx bm fr' t room w es' fv' [] ∧ es'.length + fv'.length ≤ room ∧ h'[it]? = some (.mapIter (some bm) c seen c) ∧ h'[bm]? = some (.map es1 c) ∧
      (∀ e ∈ es1, seen.contains e.born = false) ∧ ¬ M' it ∧ Fr (fun k => M k ∨ k = it) h h' ∧ ∀ k, M' k → M k ∨ h.size ≤ k) es.length
    ⟨rfl, M, fr, es, fv, #[], es0, rfl, R.fr (Q := fun _ => False) e1.fr fun _ _ _ => id, hlen, r1, e1.row hb0, fun e _ => by simp, fun hm => by have := R.lt it hm; omega, e1.fr, fun k hk => .inl hk⟩ ?_
  rintro d _ ρj h2 again ⟨rfl, M', fr', es', fv', seen, es1, rfl, R2, l2, it2, m2, hseen, hit, f2, n2⟩ hag
  obtain ⟨es2, c2, hb2, hs2, hk2⟩ := R2.map
  rw [m2] at hb2
  cases hb2
  refine next_map it2 m2 hs2 hseen (fun e he h3 it3 u3 => ?_) (fun hz => ?_)
  · have hne : it ≠ bm := fun hb => hit (hb ▸ R2.inM.2.1)
    have m3 : h3[bm]? = some (.map es1 c) := u3.row (Ne.symm hne) m2
    simp only [go_sem]
    refine entry_map it3 m3 hs2 he ?_
    obtain ⟨j, hj, hmem⟩ := hk2.key (Array.mem_toList_iff.2 he)
    obtain ⟨q, hq, hqe⟩ := List.mem_map.1 hmem
    have hq1 : q.1 = j := congrArg Prod.fst hqe
    have hnd : (es'.map Prod.fst).Nodup := by rw [← kMap_keys Prod.fst]; exact R2.map.nodup
    have hg : kGet j es' = some q.2 := kGet_of_mem hnd (by rw [← hq1]; exact hq)
    rw [hj]
    simp only [go_sem]
    have R3 := R2.fr u3.fr fun b _ hb hbi => hit (by rw [← show b = it from hbi]; exact hb)
    refine (c_drop R3 hg).mono ?_
    rintro _ h4 ⟨M4, fr4, R4, f4, n4, d4⟩
    obtain ⟨es4, m4, hsub⟩ := d4 es1 c m3
    have hl := kDel_len hg
    have it4 := f4.row it3 hit
    refine hag [] h4 (kDel j es').length (by omega) ⟨rfl, M4, fr4, kDel j es', fv' ++ [q.2], seen.push e.born, es4, rfl, R4, by simp; omega, it4, m4, fun x hx => ?_, fun hm => ?_, ?_, fun k hk => ?_⟩
    · obtain ⟨h5, h6⟩ := hsub x hx
      have hbx : x.born ≠ e.born := fun hb => by
        rw [bornInj hs2 h5 he hb] at h6
        exact h6 hj
      have h7 := hseen x h5
      rw [Array.contains_push, h7]
      simp [hbx]
    · rcases n4 it hm with h5 | h5
      · exact hit h5
      · have := row_lt it3; omega
    · have h5 : Fr (fun k => (M k ∨ k = it) ∨ h.size ≤ k) h h4 := ((f2.mono fun k _ hk => .inl hk).trans (u3.fr.mono fun k _ hk => .inl (.inr hk))).trans (f4.mono fun k _ hk => (n2 k hk).elim (fun h => .inl (.inl h)) .inr)
      exact ⟨h5.1, fun b hb hm => h5.2 b hb fun hc => hc.elim hm fun h6 => by omega⟩
    · rcases n4 k hk with h5 | h5
      · exact n2 k h5
      · exact .inr (Nat.le_trans (Nat.le_trans f2.1 u3.fr.1) h5)
  · subst hz
    have hl := hk2.length
    have : es' = [] := by
      have h5 : (kMap Prod.fst es').length = 0 := hl.symm
      simp only [kMap, List.length_map] at h5
      exact List.eq_nil_of_length_eq_zero h5
    subst this
    simp only [go_sem]
    have f02 : Fr M h h2 := ⟨f2.1, fun b hb hm => f2.2 b hb fun hc => hc.elim hm fun h5 => by omega⟩
    exact ⟨M', ⟨bx, bm, fr', t, [], fv', rfl, R2, rfl, l2⟩, f02, n2⟩

theorem c_ref16New {h : Heap} (a b : Int) : FCall Try.prog F_ref16_New #[.int .i64 a, .int .i64 b] h fun r h' => r = .agg #[.int .i64 (roomN a : Nat), .int .i64 (widthN b : Nat), .slice none 0 0] ∧ Ext h h' := by
  apply ok_ref16_New
  unfold sh_ref16_New
  refine newK_use fun b1 h1 r1 e1 n1 => ?_
  refine joinK_intro (fun xs h' => h' = h1 ∧ xs = [.int .i64 (max 1 a)]) ?_ ?_
  · simp only [go_sem]
    refine iteK_dec (fun hl => ⟨by trivial, by rw [show max 1 a = 1 by omega]⟩) (fun hl => ⟨by trivial, by rw [show max 1 a = a by omega]⟩)
  · rintro _ ρj h2 ⟨hh, rfl⟩
    subst hh
    have fin : ∀ (x y : Int), x = (roomN a : Nat) → y = (widthN b : Nat) → vK ((fillL #[(.int .i64 0), (.int .i64 0), (.slice none 0 0)] [(0, 1, (.int .i64 x)), (1, 1, (.int .i64 y))]).map .agg) (fun v11 =>
        stK 3 (.pointer (some ⟨b1, 0, none⟩)) v11 h2 fun v12 h13 => vK (ldsV 3 h13 (.pointer (some ⟨b1, 0, none⟩))) fun v14 => v14 = .agg #[.int .i64 (roomN a : Nat), .int .i64 (widthN b : Nat), .slice none 0 0] ∧ Ext h h13) := by
      rintro x y rfl rfl
      rw [vK_map _ #[.int .i64 (roomN a : Nat), .int .i64 (widthN b : Nat), .slice none 0 0] (by kernel_rfl)]
      refine st_var (l := [.int .i64 (roomN a : Nat), .int .i64 (widthN b : Nat), .slice none 0 0]) r1 rfl (by repeat' (first | rfl | assumption | exact ones_nil | refine ones_cons ?_ ?_)) rfl fun h3 r3 u3 => ?_
      rw [lds_row r3 3 rfl, vK_some]
      exact ⟨rfl, e1.upd n1 u3⟩
    simp only [go_sem]
    refine iteK_dec (fun p1 => ?_) (fun p1 => ?_)
    · refine iteK_dec (fun p2 => ?_) (fun p2 => ?_)
      · refine iteK_dec (fun p3 => by omega) (fun p3 => ?_)
        exact fin _ _ (by unfold roomN; omega) (by unfold widthN; omega)
      · refine iteK_dec (fun p3 => ?_) (fun p3 => ?_)
        · exact fin _ _ (by unfold roomN; omega) (by unfold widthN; omega)
        · exact fin _ _ (by unfold roomN; omega) (by unfold widthN; omega)
    · refine iteK_dec (fun p2 => ?_) (fun p2 => ?_)
      · refine iteK_dec (fun p3 => by omega) (fun p3 => ?_)
        exact fin _ _ (by unfold roomN; omega) (by unfold widthN; omega)
      · refine iteK_dec (fun p3 => ?_) (fun p3 => ?_)
        · exact fin _ _ (by unfold roomN; omega) (by unfold widthN; omega)
        · exact fin _ _ (by unfold roomN; omega) (by unfold widthN; omega)

theorem c_RingSizes {h : Heap} (a b : Int) : FCall Try.prog F_law16_RingSizes #[.int .i64 a, .int .i64 b] h fun r h' => r = .bool true ∧ Ext h h' := by
  apply ok_law16_RingSizes
  unfold sh_law16_RingSizes
  refine c_lives16.mono ?_
  rintro _ h1 ⟨rfl, e1⟩
  simp only [go_sem]
  refine joinK_intro (fun xs h' => h' = h1 ∧ ∃ b' : Int, xs = [.int .i64 b']) ?_ ?_
  · by_cases p1 : 100 < b
    · simp only [go_sem, p1]
      refine iteK_dec (fun _ => ⟨by trivial, _, rfl⟩) (fun _ => ⟨by trivial, _, rfl⟩)
    · simp only [go_sem, p1]
      exact ⟨trivial, _, rfl⟩
  · rintro _ ρj h2 ⟨hh, b', rfl⟩
    subst hh
    simp only [go_sem]
    refine (c_RNew a b').mono ?_
    rintro v h3 ⟨M, R3, e3, n3⟩
    refine (c_ref16New a b').mono ?_
    rintro _ h4 ⟨rfl, e4⟩
    refine var_new (cs := [.int .i64 (roomN a : Nat), .int .i64 (widthN b' : Nat), .slice none 0 0]) rfl (by repeat' (first | rfl | assumption | exact ones_nil | refine ones_cons ?_ ?_)) rfl fun b5 h5 r5 e5 n5 => ?_
    have R5 := (R3.ext e4).ext e5
    have hn := R5.nums
    have hm : roomN a * widthN b' ≤ 65536 * 262144 := Nat.mul_le_mul hn.2.1 hn.2.2.1
    have hm' : ((roomN a * widthN b' : Nat) : Int) = (roomN a : Int) * widthN b' := Int.natCast_mul ..
    refine (c_RFirst R5).mono ?_
    rintro _ h6 ⟨rfl, e6⟩
    have R6 := R5.ext e6
    have e06 := (((e1.trans e3).trans e4).trans e5).trans e6
    simp only [go_sem]
    refine drawK_ext ?_
    try simp only [go_sem]
    refine qK_val (.int .i64 (roomN a : Nat)) (fun hh S => by rw [cell_row (S.row (e6.row r5))]; rfl) ?_
    refine (c_RRoom R6).mono ?_
    rintro _ h7 ⟨rfl, hh⟩
    subst hh
    refine ⟨Ext.refl _, ?_⟩
    simp only [go_sem]
    refine qK_val (.int .i64 (widthN b' : Nat)) (fun hh S => by rw [cell_row (S.row (e6.row r5))]; rfl) ?_
    refine (c_RWidth R6).mono ?_
    rintro _ h7 ⟨rfl, hh⟩
    subst hh
    refine ⟨Ext.refl _, ?_⟩
    simp only [go_sem]
    refine qK_val (.int .i64 (roomN a : Nat)) (fun hh S => by rw [cell_row (S.row (e6.row r5))]; rfl) ?_
    refine qK_val (.int .i64 (widthN b' : Nat)) (fun hh S => by rw [cell_row (S.row (e6.row r5))]; rfl) ?_
    simp only [go_sem]
    rw [w64 (by omega) (by omega)]
    refine (c_RWords R6).mono ?_
    rintro _ h7 ⟨rfl, hh⟩
    subst hh
    refine ⟨Ext.refl _, ?_⟩
    simp only [go_sem]
    refine (c_RLen R6).mono ?_
    rintro _ h7 ⟨rfl, hh⟩
    subst hh
    simp only [go_sem, List.length_nil, Int.natCast_zero]
    exact ⟨trivial, e06⟩

theorem r_RingSizes (h : Heap) (args : Array Value) (H : ArgsRd [.int .i64, .int .i64] h args.toList) : FCall Try.prog F_law16_RingSizes args h fun r h' => r = .bool true ∧ Ext h h' := by
  obtain ⟨v, r, hr, ⟨x, hx, wx⟩, u, r', hr', ⟨y, hy, wy⟩, h0⟩ := H
  have h0 : r' = [] := h0
  subst h0 hr'
  obtain rfl : v = .int .i64 x := by simpa using hx
  obtain rfl : u = .int .i64 y := by simpa using hy
  obtain rfl : args = #[.int .i64 x, .int .i64 y] := by cases args; simp_all
  exact c_RingSizes x y
end Go.Proofs.Ytmmcgbilnnaggaa
