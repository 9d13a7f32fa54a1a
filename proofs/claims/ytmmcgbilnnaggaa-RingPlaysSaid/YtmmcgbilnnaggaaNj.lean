/- RingPlays. Conditions: none. -/
import Derived.Test.YtmmcgbilnnaggaaNi
set_option linter.unusedVariables false
set_option linter.unusedSimpArgs false
namespace Go.Proofs.Ytmmcgbilnnaggaa
open Go Go.Crisp
attribute [local irreducible] FCall rowK newK stK iteK vK qK drawK gK joinK loopK mkK appK cpyK mapPutK mapDelK newmK rangeMapK nextMapK entryK

/-- A deed: its kind, two numbers of rows, a number. -/
structure RAct where
  kind : Int
  j : Int
  to : Int
  v : Int
def rAct : Rp RAct where
  w := 4
  R := fun _ _ cs a => cs = [.int .u8 a.kind, .int .i64 a.j, .int .i64 a.to, .int .i64 a.v] ∧ (0 ≤ a.kind ∧ a.kind ≤ 255) ∧ (-9223372036854775808 ≤ a.j ∧ a.j ≤ 9223372036854775807) ∧ a.to ≤ 9223372036854775807
  len := by rintro _ _ _ _ ⟨rfl, _⟩; rfl
  one := by
    rintro _ _ _ _ ⟨rfl, _⟩
    repeat' (first | rfl | exact ones_nil | refine ones_cons ?_ ?_)
  fr := fun H _ _ => H
  mono := fun H _ => H

/-- The two rings are alike. -/
def Play (h0 : Heap) (v : Value) (b20 room w : Nat) (h : Heap) : Prop :=
  ∃ M Z rs rows s, IsRing M h v room w rs ∧ h[b20]? = some (.cells #[.int .i64 room, .int .i64 w, s] 57 (0, 0)) ∧ Rp.Sl rRow Z h s rows ∧ rs.Perm rows ∧ Rising rows ∧ (∀ b, M b → h0.size ≤ b ∧ b ≠ b20 ∧ ¬ Z b) ∧ (∀ b, Z b → h0.size ≤ b ∧ b < h.size ∧ b ≠ b20) ∧ Ext h0 h ∧ h0.size ≤ b20
theorem Play.fresh {Q : Nat → Prop} {h0 h h' : Heap} {v : Value} {b20 room w : Nat} (H : Play h0 v b20 room w h) (f : Fr Q h h') (q : ∀ b, Q b → h.size ≤ b) : Play h0 v b20 room w h' := by
  obtain ⟨M, Z, rs, rows, s, R, r, hs, p, hr, hM, hZ, e, n⟩ := H
  have e' : Ext h h' := f.ext fun i hi hq => by have := q i hq; omega
  exact ⟨M, Z, rs, rows, s, R.ext e', e'.row r, hs.ext e', p, hr, hM, fun b hb => ⟨(hZ b hb).1, Nat.lt_of_lt_of_le (hZ b hb).2.1 e'.1, (hZ b hb).2.2⟩, e.trans e', n⟩
theorem Play.ext {h0 h h' : Heap} {v : Value} {b20 room w : Nat} (H : Play h0 v b20 room w h) (e : Ext h h') : Play h0 v b20 room w h' := H.fresh (Q := fun _ => False) e.fr fun _ h => h.elim

theorem next_perm {rs rows : List (Int × List Int)} {a b n : Int} {is : Bool} (p : rs.Perm rows) (hr : Rising rows) (H : NextIs rs a b n is) : NextIs rows a b n is := by
  have hg : ∀ i, kGet i rs = kGet i rows := fun i => kGet_perm p hr.nodup
  unfold NextIs at H ⊢
  simp only [hg] at H
  exact H

/-- A row of one's own, each number one more. -/
theorem bump {h : Heap} {o : Value} {l : List Int} {n : Nat} {a : Option Addr} {c : Nat} (ho : OwnI h o l) (hl : l.length = n) (ho2 : o = .slice a n c) (hn : n ≤ 1000) {K : Heap → Prop} (HK : ∀ h', Fr (blk o) h h' → K h') :
    loopK [.int .i64 0] h fun x76 j77 h78 again79 => vK (binV .i .lss (ix x76 0) (.int .i64 (n : Nat))) fun v80 => iteK v80 (
      vK (idxV 1 o (ix x76 0)) fun v81 => vK (ldV h78 v81) fun v82 => vK (binV .i .add v82 (.int .i64 1)) fun v83 => vK (idxV 1 o (ix x76 0)) fun v84 =>
      stK 1 v84 v83 h78 fun v85 h86 => vK (binV .i .add (ix x76 0) (.int .i64 1)) fun v87 => again79 [v87] h86) (K h78) := by
  refine loop_count n (fun k h' => k ≤ n ∧ Fr (blk o) h h' ∧ ∃ l', l'.length = n ∧ OwnI h' o l') ⟨by omega, Fr.refl _ _, l, hl, ho⟩ ?_
  rintro k h1 again ρj ⟨hk, f1, l', hl', o1⟩ hag
  simp only [go_sem]
  refine iteK_dec (fun hlt => ?_) (fun hge => HK h1 f1)
  have hlt : k < l'.length := by omega
  have wk : IntKind.i64.wrap ((k : Int) + 1) = (k : Int) + 1 := w64 (by omega) (by omega)
  obtain ⟨p, hp, hq, hst⟩ := Own.at1 o1 (k := .i64) hlt
  rw [List.getElem_map] at hq
  simp only [go_sem, hp, hq, vi]
  refine hst _ _ rfl fun h2 o2 f2 _ => ?_
  simp only [wk]
  refine hag h2 (by omega) ⟨by omega, f1.trans f2, l'.set k (IntKind.i64.wrap (l'[k] + 1)), by rw [List.length_set]; exact hl', ?_⟩
  unfold OwnI
  rw [List.length_set, List.map_set]
  exact o2

theorem c_RingPlays {h : Heap} {a b : Int} {u : Value} {l : List RAct} (hu : Rp.Sl rAct (fun _ => True) h u l) :
    FCall Try.prog F_law16_RingPlays #[.int .i64 a, .int .i64 b, u] h fun r h' => r = .bool true ∧ Ext h h' := by
  apply ok_law16_RingPlays
  unfold sh_law16_RingPlays
  refine c_lives16.mono ?_
  rintro _ h1 ⟨rfl, e1⟩
  have hu0 := hu
  obtain ⟨ua, uc, rfl⟩ := hu.isSl
  by_cases hok : l.length ≤ 50 ∧ a ≤ 20 ∧ b ≤ 20
  · have p1 : ¬ (50 : Int) < (l.length : Int) := by omega
    have p2 : ¬ (20 : Int) < a := by omega
    have p3 : ¬ (20 : Int) < b := by omega
    simp only [go_sem, p1, p2, p3]
    refine (c_RNew a b).mono ?_
    rintro v h2 ⟨M0, R2, e2, n2⟩
    refine (c_ref16New a b).mono ?_
    rintro _ h3 ⟨rfl, e3⟩
    have hroom : 1 ≤ roomN a ∧ roomN a ≤ 20 := by unfold roomN; omega
    have hwid : widthN b ≤ 20 := by unfold widthN; omega
    generalize roomN a = room at hroom R2
    generalize widthN b = w at hwid R2
    refine var_new (cs := [.int .i64 room, .int .i64 w, .slice none 0 0]) rfl (by repeat' (first | rfl | assumption | exact ones_nil | refine ones_cons ?_ ?_)) rfl fun b20 h4 r4 e4 n4 => ?_
    have e04 := ((e1.trans e2).trans e3).trans e4
    have P4 : Play h v b20 room w h4 := ⟨M0, fun _ => False, [], [], .slice none 0 0, (R2.ext e3).ext e4, r4, Rp.Sl.nil, List.Perm.refl _, List.Pairwise.nil, fun k hk => ⟨Nat.le_trans e1.1 (n2 k hk), fun h5 => by
      have h6 := R2.lt hk; have := e3.1; omega, fun h => h⟩, fun k hk => hk.elim, e04, Nat.le_trans ((e1.trans e2).trans e3).1 n4⟩
    simp only [go_sem]
    refine loop_count l.length (fun k h' => k ≤ l.length ∧ Play h v b20 room w h') ⟨by omega, P4⟩ ?_
    rintro k h5 again ρj ⟨hk, P5⟩ hag
    simp only [go_sem]
    refine iteK_dec (fun hlt => ?_) (fun hge => ?_)
    · have hlt : k < l.length := by omega
      have wk : IntKind.i64.wrap ((k : Int) + 1) = (k : Int) + 1 := w64 (by omega) (by omega)
      have e05 : Ext h h5 := by obtain ⟨_, _, _, _, _, _, _, _, _, _, _, _, e, _⟩ := P5; exact e
      obtain ⟨p, cs, hp, hq, hcs⟩ := (hu0.ext e05).atw (show 0 < rAct.w by decide) (k := .i64) hlt
      have hp : idxV 4 (.slice ua l.length uc) (.int .i64 (k : Int)) = some p := hp
      have hq : ldsV 4 h5 p = some (.agg cs.toArray) := hq
      obtain ⟨rfl, hkind, hj, hto⟩ := hcs
      rw [hp, vK_some, hq, vK_some]
      generalize l[k] = act at hkind hj hto hq
      refine var_new (cs := [.int .u8 act.kind, .int .i64 act.j, .int .i64 act.to, .int .i64 act.v]) rfl (by repeat' (first | rfl | assumption | exact ones_nil | refine ones_cons ?_ ?_)) rfl fun b6 h6 r6 e6 n6 => ?_
      have P6 := P5.ext e6
      obtain ⟨kd, hkd⟩ := Int.eq_ofNat_of_zero_le hkind.1
      have r7 := rem_nat .i .u8 kd 7 (by omega)
      rw [show ((7 : Nat) : Int) = 7 from rfl] at r7
      have hk7 : kd % 7 < 7 := Nat.mod_lt _ (by omega)
      simp only [go_sem, cell_row r6, hkd, r7]
      generalize kd % 7 = q at hk7
      have wfj := wf64 hj.1 hj.2
      refine joinK_intro (fun xs h' => xs = [] ∧ Play h v b20 room w h' ∧ h'[b6]? = some (.cells (List.toArray [.int .u8 act.kind, .int .i64 act.j, .int .i64 act.to, .int .i64 act.v]) 77 (0, 0))) ?_ ?_
      · obtain ⟨M, Z, rs, rows, s, R5, r20, hs, hperm, hris, hM, hZ, _, n20⟩ := P5
        have R6 := R5.ext e6
        have r206 := e6.row r20
        have hb6M : ∀ b, M b → b ≠ b6 := fun b hb hbb => by have := R5.lt hb; omega
        have hb620 : b6 ≠ b20 := fun hbb => by have := row_lt r20; omega
        have hs6 := hs.ext e6
        have hnum := R6.nums
        have hrl : rows.length ≤ room := by rw [← hperm.length_eq]; exact hnum.2.2.2.1
        have hs1 := hs.one
        by_cases q5 : q < 5
        · have q5' : (q : Int) < 5 := by omega
          simp only [go_sem, q5', cell_row r206]
          refine joinK_intro (fun xs h' => h6 = h' ∧ ∃ n : Nat, n ≤ 21 ∧ xs = [.int .i64 (n : Int)]) ?_ ?_
          · simp only [go_sem]
            refine iteK_dec (fun _ => ⟨by trivial, w + 1, by omega, ?_⟩) (fun _ => ⟨by trivial, w, by omega, rfl⟩)
            rw [w64 (by omega) (by omega)]; rfl
          · rintro _ ρ7 _ ⟨rfl, n, hn, rfl⟩
            simp only [go_sem, cell_row r6]
            refine (c_row n act.v (by omega)).mono ?_
            rintro o h8 ⟨o8, e8, n8⟩
            have r208 := e8.row r206
            have r68 := e8.row r6
            rw [lds_row (l := [.int .i64 room, .int .i64 w, s]) r208 3 rfl]
            simp only [go_sem, cell_row r68]
            have hZ8 : ∀ b, Z b → b < h8.size := fun b hb => by have := (hZ b hb).2.1; have := e6.1; have := e8.1; omega
            refine (c_refPut (H := ⟨s, rfl, hs6.ext e8⟩) hris hrl ⟨by omega, by omega⟩ o8.ints (by rw [rowL_len]; omega) hZ8).mono ?_
            rintro _ h9 ⟨_, Z', rfl, ⟨s', rfl, hs9⟩, e9, z9, zl9⟩
            have hs1' := hs9.one
            simp only [go_sem]
            refine var_new (cs := [.int .i64 room, .int .i64 w, s']) rfl (by repeat' (first | rfl | assumption | exact ones_nil | refine ones_cons ?_ ?_)) rfl fun b10 h10 r10 e10 n10 => ?_
            rw [lds_row (l := [.int .i64 room, .int .i64 w, s']) r10 3 rfl, vK_some]
            have e810 := e9.trans e10
            refine st_var (l := [.int .i64 room, .int .i64 w, s']) (e810.row r208) rfl (by repeat' (first | rfl | assumption | exact ones_nil | refine ones_cons ?_ ?_)) rfl fun h11 r11 u11 => ?_
            have r611 : h11[b6]? = _ := u11.row hb620 (e810.row r68)
            simp only [go_sem, cell_row r611]
            have f611 : Fr (fun b => b = b20) h6 h11 := (e8.trans e810).fr.trans u11.fr
            have R11 : IsRing M h11 v room w rs := R6.fr f611 fun b _ hb hbb => (hM b hb).2.1 hbb
            have ofresh : ∀ b, blk o b → ¬ M b ∧ b ≠ b20 ∧ b ≠ b6 ∧ ¬ Z' b ∧ b < h8.size := fun b hb => by
              have h12 := n8 b hb
              have h13 := o8.lt hb
              refine ⟨fun hm => by have := R5.lt hm; have := e6.1; omega, fun hbb => by have := row_lt r20; have := e6.1; omega, fun hbb => by have := row_lt r6; omega, fun hz => ?_, h13⟩
              rcases z9 b hz with h14 | h14
              · have := (hZ b h14).2.1; have := e6.1; omega
              · omega
            have o11 : OwnI h11 o (rowL n act.v) := (o8.fr (M := fun _ => False) e810.fr fun _ _ => id).fr u11.fr fun b hb => (ofresh b hb).2.1
            refine (c_RPut R11 wfj o11.ints (by rw [rowL_len]; omega) (fun b hb => (ofresh b hb).1)).mono ?_
            rintro _ h12 ⟨rfl, M', R12, f12, m12⟩
            rw [putOk_perm hperm hris.nodup]
            simp only [go_sem, bne_self_eq_false, beq_self_eq_true]
            have o12 : OwnI h12 o (rowL n act.v) := o11.fr f12 fun b hb => (ofresh b hb).1
            obtain ⟨oa, oc, ho⟩ := o12.sl.isSl
            rw [rowL_len] at ho
            subst ho
            simp only [go_sem]
            refine bump o12 (rowL_len n act.v) rfl (by omega) fun h13 f13 => ?_
            have sz : h8.size ≤ h11.size := by have := e810.1; rw [u11.1]; omega
            have mo : ∀ b, M' b → ¬ blk (.slice oa n oc) b := fun b hb hbo => by
              rcases m12 b hb with h14 | h14
              · exact (ofresh b hbo).1 h14
              · have := (ofresh b hbo).2.2.2.2; omega
            have hZ' : ∀ b, Z' b → h.size ≤ b ∧ b < h9.size ∧ b ≠ b20 := fun b hb => by
              refine ⟨?_, zl9 b hb, ?_⟩
              · rcases z9 b hb with h14 | h14
                · exact (hZ b h14).1
                · exact Nat.le_trans e05.1 (Nat.le_trans (e6.trans e8).1 h14)
              · rcases z9 b hb with h14 | h14
                · exact (hZ b h14).2.2
                · intro hbb; have := row_lt r208; omega
            have MZ : ∀ b, M' b → ¬ Z' b := fun b hb hz => by
              rcases m12 b hb with h14 | h14
              · rcases z9 b hz with h15 | h15
                · exact (hM b h14).2.2 h15
                · have := R5.lt h14; have := (e6.trans e8).1; omega
              · have := (hZ' b hz).2.1; have := e10.1; have := u11.1; omega
            have M20 : ∀ b, M' b → b ≠ b20 := fun b hb hbb => by
              rcases m12 b hb with h14 | h14
              · exact (hM b h14).2.1 hbb
              · have := row_lt r11; omega
            have hs13 : Rp.Sl rRow Z' h13 s' _ := (((hs9.ext e10).fr u11.fr fun b _ hb => (hZ' b hb).2.2).fr f12 fun b _ hz hm => by
              rcases z9 b hz with h15 | h15
              · exact (hM b hm).2.2 h15
              · have := R5.lt hm; have := (e6.trans e8).1; omega).fr f13 fun b _ hz hb => (ofresh b hb).2.2.2.1 hz
            have r2013 : h13[b20]? = some (.cells #[.int .i64 room, .int .i64 w, s'] 57 (0, 0)) := f13.row (f12.row r11 fun hm => (hM _ hm).2.1 rfl) fun hb => (ofresh _ hb).2.1 rfl
            have r613 : h13[b6]? = _ := f13.row (f12.row r611 fun hm => hb6M _ hm rfl) fun hb => (ofresh _ hb).2.2.1 rfl
            have ext13 : Ext h h13 := by
              have f0 : Fr (fun b => h.size ≤ b) h6 h13 := ((f611.mono fun b _ hb => by rw [show b = b20 from hb]; exact n20).trans (f12.mono fun b _ hb => (hM b hb).1)).trans (f13.mono fun b _ hb => Nat.le_trans (e05.trans e6).1 (n8 b hb))
              exact (e05.trans e6).then_fr f0 fun b hb => hb
            refine ⟨by trivial, ⟨M', Z', _, _, s', R12.fr f13 fun b _ hb => mo b hb, r2013, hs13, putR_perm hperm hris, put_rising hris, fun b hb => ⟨?_, M20 b hb, MZ b hb⟩, fun b hb => ⟨(hZ' b hb).1, ?_, (hZ' b hb).2.2⟩, ext13, n20⟩, r613⟩
            · rcases m12 b hb with h14 | h14
              · exact (hM b h14).1
              · exact Nat.le_trans (Nat.le_trans (e05.trans (e6.trans e8)).1 sz) h14
            · have h14 := (hZ' b hb).2.1
              have := e10.1; have := u11.1; have := f12.1; have := f13.1
              omega
        · have q5' : ¬ (q : Int) < 5 := by omega
          by_cases q55 : q = 5
          · have q55' : (q : Int) = 5 := by omega
            simp only [go_sem, q5', q55', cell_row r6, show ¬ (5 : Int) < 5 by omega]
            refine joinK_intro (fun xs h' => h6 = h' ∧ ∃ t : Int, t ≤ 9223372036854775807 ∧ xs = [.int .i64 t]) ?_ ?_
            · by_cases hjl : act.j < 4611686018427387904
              · have w30 : IntKind.i64.wrap (act.j + 30) = act.j + 30 := w64 (by omega) (by omega)
                simp only [go_sem, cell_row r6, hjl, w30]
                refine iteK_dec (fun _ => ⟨by trivial, _, ?_, rfl⟩) (fun _ => ⟨by trivial, _, hto, rfl⟩)
                omega
              · simp only [go_sem, hjl]
                exact ⟨by trivial, _, hto, rfl⟩
            · rintro _ ρ7 _ ⟨rfl, t, ht, rfl⟩
              simp only [go_sem, cell_row r6]
              refine (c_RNext R6 hj.1 ht).mono ?_
              rintro _ _ ⟨⟨n, is, rfl, hnx⟩, rfl⟩
              rw [lds_row (l := [.int .i64 room, .int .i64 w, s]) r206 3 rfl]
              simp only [go_sem, cell_row r6]
              refine (c_refNext (H := ⟨s, rfl, hs6⟩) hris (by omega) hj ht).mono ?_
              rintro _ h8 ⟨⟨n', is', rfl, hnx'⟩, e8⟩
              obtain ⟨rfl, rfl⟩ := (next_perm hperm hris hnx).uniq hnx'
              simp only [go_sem, bne_self_eq_false, beq_self_eq_true]
              exact ⟨by trivial, P6.ext e8, e8.row r6⟩
          · have q55' : ¬ (q : Int) = 5 := by omega
            simp only [go_sem, q5', q55', cell_row r6]
            refine iteK_dec (fun hv0 => ?_) (fun hv0 => ⟨by trivial, P6, r6⟩)
            refine (c_RReset R6).mono ?_
            rintro _ h8 ⟨M', R8, f8, m8⟩
            have r208 := f8.row r206 fun hm => (hM _ hm).2.1 rfl
            have r68 := f8.row r6 fun hm => hb6M _ hm rfl
            try simp only [go_sem]
            refine st_cell (o := 2) r208 (by simp) rfl fun h9 r9 u9 => ?_
            have r9 : h9[b20]? = some (.cells #[.int .i64 room, .int .i64 w, .slice none 0 0] 57 (0, 0)) := r9
            have M20 : ∀ b, M' b → b ≠ b20 := fun b hb hbb => by
              rcases m8 b hb with h14 | h14
              · exact (hM b h14).2.1 hbb
              · have := row_lt r206; omega
            have ext9 : Ext h h9 := by
              have f0 : Fr (fun b => h.size ≤ b) h6 h9 := (f8.mono fun b _ hb => (hM b hb).1).trans (u9.fr.mono fun b _ hb => by rw [show b = b20 from hb]; exact n20)
              exact (e05.trans e6).then_fr f0 fun b hb => hb
            refine ⟨by trivial, ⟨M', fun _ => False, [], [], .slice none 0 0, R8.fr u9.fr fun b _ hb hbb => M20 b hb hbb, r9, Rp.Sl.nil, List.Perm.refl _, List.Pairwise.nil, fun b hb => ⟨?_, M20 b hb, fun h => h⟩, fun b hb => hb.elim, ext9, n20⟩, u9.row hb620 r68⟩
            rcases m8 b hb with h14 | h14
            · exact (hM b h14).1
            · exact Nat.le_trans (e05.trans e6).1 h14
      · rintro _ ρ7 h7 ⟨rfl, P7, r7'⟩
        have P7' := P7
        obtain ⟨M, Z, rs, rows, s, R7, r20, hs, hperm, hris, hM, hZ, _, n20⟩ := P7
        rw [lds_row (l := [.int .i64 room, .int .i64 w, s]) r20 3 rfl]
        simp only [go_sem]
        refine (c_same R7 ⟨s, rfl, hs⟩ hperm hris).mono ?_
        rintro _ h8 ⟨rfl, e8⟩
        have r68 := e8.row r7'
        simp only [go_sem, cell_row r68]
        refine (c_RRow (R7.ext e8) act.j).mono ?_
        rintro _ h9 ⟨y, rfl, o9, e9, n9⟩
        have e79 := e8.trans e9
        have r69 := e9.row r68
        simp only [go_sem]
        rw [lds_row (l := [.int .i64 room, .int .i64 w, s]) (e79.row r20) 3 rfl]
        simp only [go_sem, cell_row r69]
        have hnum := R7.nums
        have hrl : rows.length ≤ room := by rw [← hperm.length_eq]; exact hnum.2.2.2.1
        refine (c_Find (H := ⟨s, rfl, hs.ext e79⟩) act.j (by omega)).mono ?_
        rintro _ h10 ⟨⟨fi, rfl, hfi⟩, e10⟩
        have hg : (kGet act.j rs).isSome = (kGet act.j rows).isSome := by rw [kGet_perm hperm hris.nodup]
        simp only [go_sem, hfi, hg, bne_self_eq_false, beq_self_eq_true]
        have o10 : OwnI h10 y ((kGet act.j rs).getD []) := o9.fr (M := fun _ => False) e10.fr fun _ _ => id
        have hlen : ((kGet act.j rs).getD []).length ≤ 1000 := by
          cases hc : kGet act.j rs with
          | none => simp
          | some x =>
            have := (hnum.2.2.2.2 (act.j, x) (kGet_mem hc)).1
            simp only [Option.getD_some]
            have h11 : x.length = w := this
            omega
        have fin : ∀ h11, Fr (blk y) h10 h11 → vK (ldsV 3 h11 (.pointer (some ⟨b20, 0, none⟩))) fun v171 =>
            FCall Try.prog F_law16_same #[v, v171] h11 fun v172 h173 => vK (unV .not v172) fun v174 => iteK v174 (.bool false = Value.bool true ∧ Ext h h173) (
            again [.int .i64 (IntKind.i64.wrap ((k : Int) + 1))] h173) := by
          intro h11 f11
          have P11 : Play h v b20 room w h11 := by
            have f0 : Fr (blk y) h7 h11 := (e79.trans e10).fr.trans f11
            exact P7'.fresh f0 fun b hb => Nat.le_trans e8.1 (n9 b hb)
          have P11' := P11
          obtain ⟨M1, Z1, rs1, rows1, s1, R11, r2011, hs11, hperm1, hris1, _⟩ := P11
          rw [lds_row (l := [.int .i64 room, .int .i64 w, s1]) r2011 3 rfl]
          simp only [go_sem]
          refine (c_same R11 ⟨s1, rfl, hs11⟩ hperm1 hris1).mono ?_
          rintro _ h12 ⟨rfl, e12⟩
          simp only [go_sem, wk]
          exact hag h12 hlt ⟨hlt, P11'.ext e12⟩
        obtain ⟨ya, yc, hy⟩ := o10.sl.isSl
        subst hy
        cases hc : kGet act.j rows with
        | none =>
          have hcs : kGet act.j rs = none := by rw [kGet_perm hperm hris.nodup]; exact hc
          rw [hcs] at o10 fin ⊢
          simp only [go_sem, Option.isSome_none, Option.getD_none, List.length_nil, show (((0 : Nat)) : Int) = 0 from rfl]
          exact bump (n := 0) o10 rfl rfl (by omega) fin
        | some x =>
          have hcs : kGet act.j rs = some x := by rw [kGet_perm hperm hris.nodup]; exact hc
          rw [hcs] at o10 fin hlen ⊢
          simp only [go_sem, Option.isSome_some, Option.getD_some]
          exact bump (n := x.length) o10 rfl rfl (by simpa using hlen) fin
    · have e05 : Ext h h5 := by obtain ⟨_, _, _, _, _, _, _, _, _, _, _, _, e, _⟩ := P5; exact e
      exact ⟨trivial, e05⟩
  · have hfin : FCall Try.prog F_law16_lives #[] h1 fun v12 h13 => v12 = .bool true ∧ Ext h h13 :=
      c_lives16.mono fun _ _ ⟨hr, e⟩ => ⟨hr, e1.trans e⟩
    by_cases p1 : (50 : Int) < (l.length : Int)
    · simp only [go_sem, p1]
      exact hfin
    · by_cases p2 : (20 : Int) < a
      · simp only [go_sem, p1, p2]
        exact hfin
      · have p3 : (20 : Int) < b := by omega
        simp only [go_sem, p1, p2, p3]
        exact hfin

abbrev tRAct : TS := .pair (.int .u8) (.pair (.int .i64) (.pair (.int .i64) (.pair (.int .i64) .unit)))
theorem ract_rd {h : Heap} {cs : List Value} {x : tRAct.T} (H : Rd tRAct h cs x) : rAct.R (fun _ => True) h cs ⟨x.1, x.2.1, x.2.2.1, x.2.2.2.1⟩ := by
  obtain ⟨c1, _, rfl, ⟨rfl, w1⟩, c2, _, rfl, ⟨rfl, w2⟩, c3, _, rfl, ⟨rfl, w3⟩, c4, _, rfl, ⟨rfl, w4⟩, h7⟩ := H
  have h7 : _ = [] := h7
  subst h7
  exact ⟨rfl, u8_wf w1, i64_wf w2, (i64_wf w3).2⟩
theorem r_RingPlays (h : Heap) (args : Array Value) (H : ArgsRd [.int .i64, .int .i64, .sl (.st tRAct) 32] h args.toList) : FCall Try.prog F_law16_RingPlays args h fun r h' => r = .bool true ∧ Ext h h' := by
  obtain ⟨v, r, hr, ⟨x, hx, wx⟩, u, r', hr', ⟨y, hy, wy⟩, z, r2, hr2, ⟨t, ht⟩, h0⟩ := H
  have h0 : r2 = [] := h0
  subst h0 hr' hr2
  obtain rfl : v = .int .i64 x := by simpa using hx
  obtain rfl : u = .int .i64 y := by simpa using hy
  obtain rfl : args = #[.int .i64 x, .int .i64 y, z] := by cases args; simp_all
  obtain ⟨_, h1, h2, _⟩ := sl_rd (e := .st tRAct) (E := rAct) (fun x : tRAct.T => (⟨x.1, x.2.1, x.2.2.1, x.2.2.2.1⟩ : RAct)) rfl (by decide) (fun ds x hr => ract_rd hr) ht
  cases h1
  exact c_RingPlays h2
end Go.Proofs.Ytmmcgbilnnaggaa
