/- LedgerRaces. Conditions: none. -/
import Derived.Test.YtmmcgbilnnaggaaLd
import Derived.Test.YtmmcgbilnnaggaaKf
set_option linter.unusedVariables false
set_option linter.unusedSimpArgs false
namespace Go.Proofs.Ytmmcgbilnnaggaa
open Go Go.Crisp
attribute [local irreducible] FCall rowK newK stK iteK vK qK drawK gK joinK loopK mkK appK cpyK

theorem c_refMay {h : Heap} {v : Value} {a : Acc} (ha : IsAcc h v a) : FCall Try.prog F_ref20_May #[v] h fun r h' => r = .bool (mayA a) ∧ Ext h h' := by
  obtain ⟨s, rfl, _⟩ := ha
  apply ok_ref20_May
  unfold sh_ref20_May
  simp only [cells_agg]
  refine newK_use fun b h1 r1 e1 n1 => ?_
  by_cases p1 : 0 ≤ a.who
  · by_cases p2 : 0 ≤ a.buf
    · by_cases p3 : 0 ≤ a.lo
      · simp only [go_sem, cell_row r1, p1, p2, p3]
        exact ⟨by simp [mayA, p1, p2, p3], e1⟩
      · simp only [go_sem, cell_row r1, p1, p2, p3]
        exact ⟨by simp [mayA, p1, p2, p3], e1⟩
    · simp only [go_sem, cell_row r1, p1, p2]
      exact ⟨by simp [mayA, p1, p2], e1⟩
  · simp only [go_sem, cell_row r1, p1]
    exact ⟨by simp [mayA, p1], e1⟩

theorem c_LLen {M Z : Nat → Prop} {h : Heap} {v : Value} {l : List Acc} (H : IsLedger M Z h v l) : FCall Try.prog F_ledger_Ledger_Len #[v] h fun r h' => r = .int .i64 (l.length : Nat) ∧ h' = h := by
  obtain ⟨bx, sl, t, rfl, L⟩ := H
  apply ok_ledger_Ledger_Len
  unfold sh_ledger_Ledger_Len
  obtain ⟨sa, sc, rfl⟩ := L.own.isSl
  simp only [go_sem, cell_row L.var]
  exact ⟨trivial, trivial⟩

theorem c_At {M Z : Nat → Prop} {h : Heap} {v : Value} {l : List Acc} (H : IsLedger M Z h v l) (i : Int) (hw : ∀ a ∈ l, a.when_.length ≤ 4398046511104) :
    FCall Try.prog F_ledger_Ledger_At #[v, .int .i64 i] h fun r h' => ∃ ds, r = .tuple #[.agg (List.toArray ds), .bool (decide (0 ≤ i ∧ i < l.length))] ∧ ds.length = 6 ∧ (∀ x ∈ ds, oneCell x = true) ∧ (∀ k (hk : k < l.length), i = (k : Int) → IsAcc h' (.agg (List.toArray ds)) l[k]) ∧ Ext h h' := by
  obtain ⟨bx, sl, t, rfl, L⟩ := H
  apply ok_ledger_Ledger_At
  unfold sh_ledger_Ledger_At
  refine newK_use fun b1 h1 r1 e1 n1 => ?_
  have L1 := L.fr (Q := fun _ => False) e1.fr fun _ _ _ => id
  obtain ⟨sa, sc, rfl⟩ := L.own.isSl
  have bad : ¬ (0 ≤ i ∧ i < l.length) → vK ((fillL #[(.int .i64 0), (.slice none 0 0), (.int .i64 0), (.int .i64 0), (.int .i64 0), (.bool false)] []).map .agg) (fun v12 => stK 6 (.pointer (some ⟨b1, 0, none⟩)) v12 h1 fun v13 h14 => vK (ldsV 6 h14 (.pointer (some ⟨b1, 0, none⟩))) fun v15 =>
      ∃ ds, Value.tuple #[v15, .bool false] = .tuple #[.agg (List.toArray ds), .bool (decide (0 ≤ i ∧ i < l.length))] ∧ ds.length = 6 ∧ (∀ x ∈ ds, oneCell x = true) ∧ (∀ k (hk : k < l.length), i = (k : Int) → IsAcc h14 (.agg (List.toArray ds)) l[k]) ∧ Ext h h14) := by
    intro hb
    rw [vK_map _ #[(.int .i64 0), (.slice none 0 0), (.int .i64 0), (.int .i64 0), (.int .i64 0), (.bool false)] (by kernel_rfl)]
    refine st_var (l := [(.int .i64 0), (.slice none 0 0), (.int .i64 0), (.int .i64 0), (.int .i64 0), (.bool false)]) r1 rfl (by repeat' (first | rfl | exact ones_nil | refine ones_cons ?_ ?_)) rfl fun h2 r2 u2 => ?_
    rw [lds_row r2 6 rfl, vK_some, decide_eq_false hb]
    exact ⟨_, rfl, rfl, by repeat' (first | rfl | exact ones_nil | refine ones_cons ?_ ?_), fun k hk hik => absurd ⟨by omega, by omega⟩ hb, e1.upd n1 u2⟩
  by_cases h0 : i < 0
  · simp only [go_sem, h0]
    exact bad (by omega)
  · by_cases hl : (l.length : Int) ≤ i
    · simp only [go_sem, h0, cell_row L1.var, hl]
      exact bad (by omega)
    · obtain ⟨k, rfl⟩ := Int.eq_ofNat_of_zero_le (show 0 ≤ i by omega)
      have hk : k < l.length := by omega
      obtain ⟨p, cs, hp, hq, hcs⟩ := L1.own.sl.atw (show 0 < rAcc.w by decide) (k := .i64) hk
      have hp : idxV 6 (.slice sa l.length sc) (.int .i64 (k : Int)) = some p := hp
      have hq : ldsV 6 h1 p = some (.agg cs.toArray) := hq
      simp only [go_sem, h0, cell_row L1.var, hl, hp, hq]
      refine (c_apart (rAcc.isAcc hcs) (hw _ (List.getElem_mem hk))).mono ?_
      rintro _ h2 ⟨ds, rfl, hds, e2⟩
      refine st_var (e2.row r1) (by rw [rAcc.len hds]; rfl) (rAcc.one hds) (rAcc.len hds) fun h3 r3 u3 => ?_
      rw [lds_row r3 6 (rAcc.len hds), vK_some, decide_eq_true (show (0 : Int) ≤ k ∧ (k : Int) < l.length by omega)]
      refine ⟨ds, rfl, rAcc.len hds, rAcc.one hds, fun k' hk' hkk => ?_, (e1.trans e2).upd n1 u3⟩
      obtain rfl : k = k' := by omega
      have : rAcc.R (fun b => h1.size ≤ b ∧ b < h2.size) h3 ds l[k] := rAcc.fr hds u3.fr fun b _ hb hbb => by have := row_lt r1; omega
      exact rAcc.isAcc this

theorem keep_step {l : List Acc} {k : Nat} (hk : k < l.length) : (l.take (k + 1)).filter mayA = addA ((l.take k).filter mayA) l[k] := by
  rw [List.take_succ_eq_append_getElem hk, List.filter_append]
  unfold addA
  cases hm : mayA l[k] <;> simp [hm]

/-- A row of one's own, each number three more. -/
theorem bump3 {h : Heap} {o : Value} {l : List Int} {n : Nat} {a : Option Addr} {c : Nat} (ho : OwnI h o l) (hl : l.length = n) (ho2 : o = .slice a n c) (hn : n ≤ 1000) {K : Heap → Prop} (HK : ∀ h', Fr (blk o) h h' → K h') :
    loopK [.int .i64 0] h fun x76 j77 h78 again79 => vK (binV .i .lss (ix x76 0) (.int .i64 (n : Nat))) fun v80 => iteK v80 (
      vK (idxV 1 o (ix x76 0)) fun v81 => vK (ldV h78 v81) fun v82 => vK (binV .i .add v82 (.int .i64 3)) fun v83 => vK (idxV 1 o (ix x76 0)) fun v84 =>
      stK 1 v84 v83 h78 fun v85 h86 => vK (binV .i .add (ix x76 0) (.int .i64 1)) fun v87 => again79 [v87] h86) (K h78) := by
  refine loop_count n (fun k h' => k ≤ n ∧ Fr (blk o) h h' ∧ ∃ l', l'.length = n ∧ OwnI h' o l') ⟨by omega, Fr.refl _ _, l, hl, ho⟩ ?_
  rintro k h1 again ρj ⟨hk, f1, l', hl', o1⟩ hag
  simp only [go_sem]
  refine iteK_dec (fun hlt => ?_) (fun hge => HK h1 f1)
  have hlt : k < l'.length := by omega
  have wk : IntKind.i64.wrap ((k : Int) + 1) = (k : Int) + 1 := w64 (by omega) (by omega)
  obtain ⟨p, hp, hq, hst⟩ := Own.at1 o1 (k := .i64) hlt
  rw [List.getElem_map] at hq
  simp only [go_sem, hp, hq, vi]
  refine hst _ _ rfl fun h2 o2 f2 _ => ?_
  simp only [wk]
  refine hag h2 (by omega) ⟨by omega, f1.trans f2, l'.set k (IntKind.i64.wrap (l'[k] + 3)), by rw [List.length_set]; exact hl', ?_⟩
  unfold OwnI
  rw [List.length_set, List.map_set]
  exact o2

theorem acc_cs {Z : Nat → Prop} {h : Heap} {cs : List Value} {a : Acc} (H : rAcc.R Z h cs a) : ∃ s, cs = [.int .i64 a.who, s, .int .i64 a.buf, .int .i64 a.lo, .int .i64 a.hi, .bool a.wr] ∧ Ints h s a.when_ := by
  obtain ⟨s, rfl, hs⟩ := H
  exact ⟨s, rfl, sl_ints hs⟩

theorem c_LedgerRaces {h : Heap} {v : Value} {l : List Acc} (hv : Accs h v l) (hn : l.length ≤ 9223372036854775807) :
    FCall Try.prog F_law20_LedgerRaces #[v] h fun r h' => r = .bool true ∧ Ext h h' := by
  apply ok_law20_LedgerRaces
  unfold sh_law20_LedgerRaces
  refine c_Lives.mono ?_
  rintro _ h1 ⟨rfl, e1⟩
  simp only [go_sem]
  refine (c_few (hv.ext e1) hn).mono ?_
  rintro _ h2 ⟨rfl, e2⟩
  have e02 := e1.trans e2
  cases hf : fewB l with
  | false =>
    simp only [go_sem]
    refine c_Lives.mono ?_
    rintro _ h3 ⟨rfl, e3⟩
    exact ⟨rfl, e02.trans e3⟩
  | true =>
    obtain ⟨hl40, hw20⟩ := few_of hf
    simp only [go_sem]
    refine newK_use fun bx h3 r3 e3 n3 => ?_
    have e03 := e02.trans e3
    obtain ⟨A, cap, rfl, hA⟩ := hv
    simp only [go_sem]
    refine loopK_var (fun d xs h' => Ext h h' ∧ ∃ (k : Nat) (r : Value) (M Z : Nat → Prop), k ≤ l.length ∧ d = l.length - k ∧ xs = [r, .int .i64 (k : Int)] ∧ IsLedger M Z h' (.pointer (some ⟨bx, 0, none⟩)) ((l.take k).filter mayA) ∧
        Rp.Ow rAcc (fun b => b < h.size) h' r ((l.take k).filter mayA) ∧ (∀ b, M b ∨ Z b → h.size ≤ b) ∧ ∀ b, blk r b → h.size ≤ b ∧ ¬ M b ∧ ¬ Z b) l.length
      ⟨e03, 0, _, fun k => k = bx, fun _ => False, by omega, rfl, rfl, by simpa using ledger_new r3, by simpa using Rp.Ow.nil, fun b hb => by rcases hb with hb | hb; rw [hb]; exact Nat.le_trans e02.1 n3; exact hb.elim, fun b hb => hb.elim⟩ ?_
    rintro d _ ρj h4 again ⟨e4, k, r, M, Z, hk, rfl, rfl, L4, o4, mz4, n4⟩ hag
    have hKlen : ((l.take k).filter mayA).length ≤ k := Nat.le_trans (List.length_filter_le _ _) (by rw [List.length_take]; omega)
    simp only [go_sem]
    refine iteK_dec (fun hlt => ?_) (fun hge => ?_)
    · have hlt : k < l.length := by omega
      have wk : IntKind.i64.wrap ((k : Int) + 1) = (k : Int) + 1 := w64 (by omega) (by omega)
      rcases hA with rfl | ⟨b, o, rfl, hA⟩
      · simp at hlt
      obtain ⟨cs, hcs, hcell, hacc⟩ := hA k hlt
      obtain ⟨s, rfl, hs⟩ := isAcc_cells hacc
      have hsw : l[k].when_.length ≤ 20 := hw20 _ (List.getElem_mem hlt)
      simp only [idxV_nat hlt, vK_some]
      rw [ldsV_row _ 6 hcs fun j hj => e4.cell (hcell j hj), vK_some]
      have hs1 : oneCell s = true := by obtain ⟨_, _, rfl, _⟩ := hs; rfl
      refine var_new hcs (by repeat' (first | rfl | assumption | exact ones_nil | refine ones_cons ?_ ?_)) hcs fun b5 h5 r5 e5 n5 => ?_
      have e05 := e4.trans e5
      -- a copy of its stamp
      have clone : ∀ (K : Value → Heap → Prop), (∀ r h', OwnI h' r l[k].when_ → Ext h5 h' → (∀ b, blk r b → h5.size ≤ b) → K r h') → rowK #[] 3 0 [] h5 fun v2 h3 => vK (fldV 1 (.pointer (some ⟨b5, 0, none⟩))) fun v27 => vK (ldV h3 v27) fun v28 => appK (.int .i64 0) 3 1 8 v2 v28 h3 K := by
        intro K HK
        refine rowK_use (c' := #[]) (by kernel_rfl) fun b h1 r1 e1' n1 => ?_
        simp only [go_sem, cell_row (e1'.row r5)]
        refine appK_own (n := 0) (cs := []) (.inr ⟨b, 0, [], 3, rfl, Nat.le_refl _, rfl, rfl, r1⟩) (hs.ext (e05.trans e1')).sl vi_one rfl (by omega) (by omega) fun s' h2 o2 f2 n2 => ?_
        rw [Nat.zero_add, List.nil_append] at o2
        refine HK s' h2 o2 (e1'.then_fr f2 fun i hi => by rw [show i = b from hi]; exact n1) fun k hk => ?_
        rcases n2 k hk with h3 | h3
        · rw [show k = b from h3]; exact n1
        · exact Nat.le_trans e1'.1 h3
      refine clone _ fun own h6 o6 e6 n6 => ?_
      have own1 := own_one o6
      have r56 := e6.row r5
      rw [lds_row (l := [.int .i64 l[k].who, s, .int .i64 l[k].buf, .int .i64 l[k].lo, .int .i64 l[k].hi, .bool l[k].wr]) r56 6 rfl, vK_some]
      refine var_new (cs := [.int .i64 l[k].who, s, .int .i64 l[k].buf, .int .i64 l[k].lo, .int .i64 l[k].hi, .bool l[k].wr]) rfl (by repeat' (first | rfl | assumption | exact ones_nil | refine ones_cons ?_ ?_)) rfl fun b7 h7 r7 e7 n7 => ?_
      have b75 : b5 ≠ b7 := by have := row_lt r56; omega
      simp only [go_sem]
      refine st_cell (o := 1) r7 (by simp) own1 fun h8 r8 u8 => ?_
      have r8 : h8[b7]? = some (.cells (List.toArray [.int .i64 l[k].who, own, .int .i64 l[k].buf, .int .i64 l[k].lo, .int .i64 l[k].hi, .bool l[k].wr]) _ (0, 0)) := r8
      have r58 := u8.row b75 (e7.row r56)
      have e58 : Ext h5 h8 := (e6.trans e7).upd (Nat.le_trans e6.1 n7) u8
      have e08 := e05.trans e58
      have ob7 : ∀ b, blk own b → b ≠ b7 := fun b hb hbb => by have := o6.lt hb; omega
      have o8 : OwnI h8 own l[k].when_ := (o6.fr (M := fun _ => False) e7.fr fun _ _ => id).fr u8.fr fun b hb => ob7 b hb
      have L8 := (L4.ext e5).ext e58
      have or8 := (o4.ext e5).ext e58
      have lt4 : ∀ b, M b ∨ Z b → b < h4.size := fun b hb => L4.lt hb
      have b5M : ¬ M b5 := fun hm => by have := lt4 b5 (.inl hm); omega
      have b7M : ¬ M b7 := fun hm => by have := lt4 b7 (.inl hm); have := e5.1; have := e6.1; omega
      refine drawK_of (fun hh => hh[b5]? = h8[b5]? ∧ hh[b7]? = h8[b7]?) ⟨rfl, rfl⟩ ?_
      refine qK_val (.agg #[.int .i64 l[k].who, own, .int .i64 l[k].buf, .int .i64 l[k].lo, .int .i64 l[k].hi, .bool l[k].wr]) (fun hh S => lds_row (S.2.trans r8) 6 rfl) ?_
      refine qK_val (.agg #[.int .i64 l[k].who, s, .int .i64 l[k].buf, .int .i64 l[k].lo, .int .i64 l[k].hi, .bool l[k].wr]) (fun hh S => lds_row (l := [.int .i64 l[k].who, s, .int .i64 l[k].buf, .int .i64 l[k].lo, .int .i64 l[k].hi, .bool l[k].wr]) (S.1.trans r58) 6 rfl) ?_
      refine (c_Add L8 (a := l[k]) ⟨own, rfl, o8.ints⟩ (by omega) (by omega)).mono ?_
      rintro _ h9 ⟨rfl, M', Z', L9, f9, mz9⟩
      have e09 : Ext h h9 := e08.then_fr f9 fun b hb => mz4 b (.inl hb)
      have q5 : h9[b5]? = h8[b5]? := f9.2 b5 (row_lt r58) b5M
      refine ⟨⟨q5, f9.2 b7 (row_lt r8) b7M⟩, ?_⟩
      have r59 := q5.trans r58
      have A9 : IsAcc h9 (.agg #[.int .i64 l[k].who, s, .int .i64 l[k].buf, .int .i64 l[k].lo, .int .i64 l[k].hi, .bool l[k].wr]) l[k] := ⟨s, rfl, hs.ext e09⟩
      refine (c_ref A9).mono ?_
      rintro _ h10 ⟨rfl, e10⟩
      refine (c_refMay (A9.ext e10)).mono ?_
      rintro _ h11 ⟨rfl, e11⟩
      have e911 := e10.trans e11
      have o11 : OwnI h11 own l[k].when_ := (o8.fr f9 fun b hb hm => by
        have := n6 b hb; have := lt4 b (.inl hm); have := e5.1; omega).fr (M := fun _ => False) e911.fr fun _ _ => id
      obtain ⟨oa, oc, ho⟩ : ∃ a c, own = .slice a l[k].when_.length c := o11.sl.isSl
      subst ho
      simp only [go_sem, bne_self_eq_false, beq_self_eq_true]
      refine bump3 o11 rfl rfl (by omega) fun h12 f12 => ?_
      have ofr : ∀ b, blk (.slice oa l[k].when_.length oc) b → h5.size ≤ b ∧ b < h6.size := fun b hb => ⟨n6 b hb, o6.lt hb⟩
      have r512 : h12[b5]? = _ := f12.row (e911.row r59) fun hb => by have := row_lt r5; have := (ofr _ hb).1; omega
      have e012 : Ext h h12 := (e09.trans e911).then_fr f12 fun b hb => Nat.le_trans e05.1 (ofr b hb).1
      have A12 : IsAcc h12 (.agg #[.int .i64 l[k].who, s, .int .i64 l[k].buf, .int .i64 l[k].lo, .int .i64 l[k].hi, .bool l[k].wr]) l[k] := ⟨s, rfl, hs.ext e012⟩
      rw [lds_row (l := [.int .i64 l[k].who, s, .int .i64 l[k].buf, .int .i64 l[k].lo, .int .i64 l[k].hi, .bool l[k].wr]) r512 6 rfl, vK_some]
      refine (c_ref A12).mono ?_
      rintro _ h13 ⟨rfl, e13⟩
      refine (c_refMay (A12.ext e13)).mono ?_
      rintro _ h14 ⟨rfl, e14⟩
      have e1214 := e13.trans e14
      have e014 := e012.trans e1214
      have r514 := e1214.row r512
      have mzlt : ∀ b, M' b ∨ Z' b → (M b ∨ Z b) ∨ h8.size ≤ b := fun b hb => by
        rcases mz9 b hb with h15 | h15 | h15
        · exact .inl (.inl h15)
        · exact .inl (.inr h15)
        · exact .inr h15
      have L14 : IsLedger M' Z' h14 (.pointer (some ⟨bx, 0, none⟩)) (addA ((l.take k).filter mayA) l[k]) := by
        refine ((L9.ext e911).fr f12 fun b _ hb hbo => ?_).ext e1214
        have h16 := ofr b hbo
        rcases mzlt b hb with h15 | h15
        · have := lt4 b h15; have := e5.1; omega
        · have := e7.1; have := u8.1; omega
      have o14 : Rp.Ow rAcc (fun b => b < h.size) h14 r ((l.take k).filter mayA) := by
        have h15 := (or8.fr f9 (fun b _ hb hm => by have := mz4 b (.inl hm); omega) fun b hb hm => (n4 b hb).2.1 hm).ext e911
        have hlt4 : ∀ b, blk r b → b < h4.size := fun b hb => o4.lt hb
        refine (h15.fr f12 (fun b _ hb hbo => by have h16 := (ofr b hbo).1; have h17 := e05.1; have : b < h.size := hb; omega) fun b hb hbo => ?_).ext e1214
        have := hlt4 b hb; have := (ofr b hbo).1; have := e5.1; omega
      have mz14 : ∀ b, M' b ∨ Z' b → h.size ≤ b := fun b hb => (mzlt b hb).elim (mz4 b) fun h15 => Nat.le_trans e08.1 h15
      have n14 : ∀ b, blk r b → h.size ≤ b ∧ ¬ M' b ∧ ¬ Z' b := fun b hb => by
        have h16 := n4 b hb
        have h17 := o4.lt hb
        have key : ¬ (M' b ∨ Z' b) := fun hm => by
          rcases mzlt b hm with h15 | h15
          · rcases h15 with h15 | h15
            · exact h16.2.1 h15
            · exact h16.2.2 h15
          · have := e5.1; have := e58.1; omega
        exact ⟨h16.1, fun hm => key (.inl hm), fun hm => key (.inr hm)⟩
      have hst := keep_step hlt
      cases hm : mayA l[k] with
      | true =>
        simp only [go_sem]
        rw [lds_row (l := [.int .i64 l[k].who, s, .int .i64 l[k].buf, .int .i64 l[k].lo, .int .i64 l[k].hi, .bool l[k].wr]) r514 6 rfl, vK_some]
        have hx : rAcc.R (fun b => b < h.size) h14 [.int .i64 l[k].who, s, .int .i64 l[k].buf, .int .i64 l[k].lo, .int .i64 l[k].hi, .bool l[k].wr] l[k] := ⟨s, rfl, ints_sl_rp (hs.ext e014) fun hne b hb => hs.sl.lt (by simpa using hne) hb⟩
        refine Rp.push_ow (e := rAcc) o14 hx rfl rfl (by omega) (by omega) (fun b hb => Nat.lt_of_lt_of_le hb e014.1) fun r' h15 o15 f15 n15 => ?_
        simp only [go_sem, wk]
        have hadd : addA ((l.take k).filter mayA) l[k] = (l.take k).filter mayA ++ [l[k]] := by unfold addA; rw [if_pos hm]
        refine hag _ _ (l.length - (k + 1)) (by omega) ⟨e014.then_fr f15 fun b hb => (n14 b hb).1, k + 1, r', M', Z', hlt, rfl, rfl, ?_, ?_, mz14, fun b hb => ?_⟩
        · rw [hst]
          exact L14.fr f15 fun b _ hb hbr => hb.elim (n14 b hbr).2.1 (n14 b hbr).2.2
        · rw [hst, hadd]; exact o15
        · rcases n15 b hb with h16 | h16
          · exact n14 b h16
          · exact ⟨Nat.le_trans e014.1 h16, fun hm' => by have := L14.lt (.inl hm'); omega, fun hm' => by have := L14.lt (.inr hm'); omega⟩
      | false =>
        simp only [go_sem, wk]
        have hadd : addA ((l.take k).filter mayA) l[k] = (l.take k).filter mayA := by unfold addA; rw [hm]; rfl
        refine hag _ _ (l.length - (k + 1)) (by omega) ⟨e014, k + 1, r, M', Z', hlt, rfl, rfl, ?_, ?_, mz14, n14⟩
        · rw [hst]; exact L14
        · rw [hst, hadd]; exact o14
    · have hkl : k = l.length := by omega
      subst hkl
      rw [List.take_length] at L4 o4 hKlen
      have hKw : ∀ a ∈ l.filter mayA, a.when_.length ≤ 20 := fun a ha => hw20 a (List.mem_filter.1 ha).1
      generalize l.filter mayA = K at L4 o4 hKlen hKw
      obtain ⟨ra, rc, rfl⟩ := o4.isSl
      have sK := o4.sl
      have rlen : ∀ i k, i ≤ K.length → k ≤ K.length → (raceTo K i).length + (raceRow K i k).length ≤ 2000 := fun i k hi hk => by
        have h5 := raceTo_len K i
        have h6 := raceRow_len K i k
        have : i * K.length ≤ 40 * 40 := Nat.mul_le_mul (by omega) (by omega)
        omega
      simp only [go_sem]
      refine loopK_var (fun d xs h' => Ext h4 h' ∧ ∃ i r, i ≤ K.length ∧ d = K.length - i ∧ xs = [r, .int .i64 (i : Int)] ∧ Rp.Ow rPair (fun _ => False) h' r (raceTo K i) ∧ ∀ b, blk r b → h4.size ≤ b) K.length
        ⟨Ext.refl h4, 0, _, Nat.zero_le _, rfl, rfl, Rp.Ow.nil, fun b hb => hb.elim⟩ ?_
      rintro d _ ρj5 h5 again5 ⟨e5, i, w, hi, rfl, rfl, o5, n5⟩ hag5
      simp only [go_sem]
      refine iteK_dec (fun hlt => ?_) (fun hge => ?_)
      · have hlt : i < K.length := by omega
        have wi : IntKind.i64.wrap ((i : Int) + 1) = (i : Int) + 1 := w64 (by omega) (by omega)
        simp only [wi]
        refine loopK_var (fun d xs h' => Ext h4 h' ∧ ∃ k r, i < k ∧ k ≤ K.length ∧ d = K.length - k ∧ xs = [r, .int .i64 (k : Int)] ∧ Rp.Ow rPair (fun _ => False) h' r (raceTo K i ++ raceRow K i k) ∧ ∀ b, blk r b → h4.size ≤ b) _
          ⟨e5, i + 1, w, Nat.lt_succ_self i, hlt, rfl, rfl, by rw [raceRow_start, List.append_nil]; exact o5, n5⟩ ?_
        rintro d _ ρj6 h6 again6 ⟨e6, k, w6, hik, hk, rfl, rfl, o6, n6⟩ hag6
        simp only [go_sem]
        refine iteK_dec (fun hlt6 => ?_) (fun hge6 => ?_)
        · have hlt6 : k < K.length := by omega
          have wk : IntKind.i64.wrap ((k : Int) + 1) = (k : Int) + 1 := w64 (by omega) (by omega)
          refine drawK_ext ?_
          obtain ⟨p1, cs1, hp1, hq1, hcs1⟩ := (sK.ext e6).atw (show 0 < rAcc.w by decide) (k := .i64) hlt
          obtain ⟨p2, cs2, hp2, hq2, hcs2⟩ := (sK.ext e6).atw (show 0 < rAcc.w by decide) (k := .i64) hlt6
          have hp1 : idxV 6 (.slice ra K.length rc) (.int .i64 (i : Int)) = some p1 := hp1
          have hq1 : ldsV 6 h6 p1 = some (.agg cs1.toArray) := hq1
          have hp2 : idxV 6 (.slice ra K.length rc) (.int .i64 (k : Int)) = some p2 := hp2
          have hq2 : ldsV 6 h6 p2 = some (.agg cs2.toArray) := hq2
          rw [hp1, vK_some]
          refine qK_val (.agg cs1.toArray) (fun hh E => E.lds hq1) ?_
          try simp only [go_sem]
          rw [hp2, vK_some]
          refine qK_val (.agg cs2.toArray) (fun hh E => E.lds hq2) ?_
          have B1 := rAcc.isAcc hcs1
          have B2 := rAcc.isAcc hcs2
          refine (c_ref B1).mono ?_
          rintro _ h7 ⟨rfl, e7⟩
          refine ⟨e7, ?_⟩
          refine (c_ref (B2.ext e7)).mono ?_
          rintro _ h8 ⟨rfl, e8⟩
          have e68 := e7.trans e8
          have w1 := hKw _ (List.getElem_mem hlt)
          have w2 := hKw _ (List.getElem_mem hlt6)
          refine (c_refRace (B1.ext e68) (B2.ext e68) (by omega) (by omega)).mono ?_
          rintro _ h9 ⟨rfl, e9⟩
          have e69 := e68.trans e9
          have hst := raceRow_step K hik
          rw [bang K hlt, bang K hlt6] at hst
          have hll := rlen i k (by omega) (by omega)
          cases hr : raceA K[i] K[k] with
          | true =>
            rw [hr] at hst
            simp only [go_sem, wk]
            rw [vK_map _ #[.int .i64 (i : Int), .int .i64 (k : Int)] (by kernel_rfl)]
            refine Rp.push_ow (e := rPair) (cs := [.int .i64 (i : Int), .int .i64 (k : Int)]) (x := ((i : Int), (k : Int))) (o6.ext e69) rfl rfl rfl (by rw [List.length_append]; omega) (by rw [List.length_append]; omega) (fun b hb => hb.elim) fun w' h10 o10 f10 n10 => ?_
            refine hag6 _ _ (K.length - (k + 1)) (by omega) ⟨(e6.trans e69).then_fr f10 n6, k + 1, w', by omega, hlt6, rfl, rfl, ?_, fun b hb => (n10 b hb).elim (n6 b) fun h11 => Nat.le_trans (e6.trans e69).1 h11⟩
            rw [hst, if_pos rfl, ← List.append_assoc]; exact o10
          | false =>
            rw [hr] at hst
            simp only [go_sem, wk]
            refine hag6 _ _ (K.length - (k + 1)) (by omega) ⟨e6.trans e69, k + 1, w6, by omega, hlt6, rfl, rfl, ?_, n6⟩
            rw [hst]
            simp only [Bool.false_eq_true, if_false, List.append_nil]
            exact o6.ext e69
        · have hkk : k = K.length := by omega
          subst hkk
          refine hag5 _ _ (K.length - (i + 1)) (by omega) ⟨e6, i + 1, w6, hlt, rfl, rfl, ?_, n6⟩
          rw [raceTo_step]; exact o6
      · have hil : i = K.length := by omega
        subst hil
        have L5 := L4.ext e5
        refine (c_Races L5 (fun a ha => by have := hKw a ha; omega) (by omega)).mono ?_
        rintro g h6 ⟨o6, e6, n6⟩
        refine (c_LLen (L5.ext e6)).mono ?_
        rintro _ h7 ⟨rfl, hh⟩
        have hh := hh.symm
        subst hh
        obtain ⟨ga, gc, rfl⟩ := o6.isSl
        obtain ⟨wa, wc, rfl⟩ := o5.isSl
        have hrl := rlen K.length 0 (by omega) (by omega)
        simp only [go_sem, bne_self_eq_false, beq_self_eq_true]
        have sg := o6.sl
        have sw := (o5.ext e6).sl
        refine loop_count (raceTo K K.length).length (fun k h' => k ≤ (raceTo K K.length).length ∧ Ext h6 h') ⟨by omega, Ext.refl _⟩ ?_
        rintro k h7 again7 ρj7 ⟨hk, e7⟩ hag7
        simp only [go_sem]
        refine iteK_dec (fun hlt7 => ?_) (fun hge7 => ?_)
        · have hlt7 : k < (raceTo K K.length).length := by omega
          have wk : IntKind.i64.wrap ((k : Int) + 1) = (k : Int) + 1 := w64 (by omega) (by omega)
          obtain ⟨p1, cs1, hp1, hq1, hcs1⟩ := (sg.ext e7).atw (show 0 < rPair.w by decide) (k := .i64) hlt7
          obtain ⟨p2, cs2, hp2, hq2, hcs2⟩ := (sw.ext e7).atw (show 0 < rPair.w by decide) (k := .i64) hlt7
          have hp1 : idxV 2 (.slice ga (raceTo K K.length).length gc) (.int .i64 (k : Int)) = some p1 := hp1
          have hq1 : ldsV 2 h7 p1 = some (.agg cs1.toArray) := hq1
          have hp2 : idxV 2 (.slice wa (raceTo K K.length).length wc) (.int .i64 (k : Int)) = some p2 := hp2
          have hq2 : ldsV 2 h7 p2 = some (.agg cs2.toArray) := hq2
          have hcs1 : cs1 = _ := hcs1
          have hcs2 : cs2 = _ := hcs2
          subst hcs1 hcs2
          have hne : ∀ x y : Int, binV (.st [(0, 1, .i), (1, 1, .i)]) .neq (.agg (List.toArray [.int .i64 x, .int .i64 y])) (.agg (List.toArray [.int .i64 x, .int .i64 y])) = some (.bool false) := fun x y => by
            simp [binV, eqV, seEqL, seEq, seAgg]
          simp only [go_sem, hp1, hq1, hp2, hq2, hne, wk]
          exact hag7 h7 hlt7 ⟨hlt7, e7⟩
        · have L7 := (L5.ext e6).ext e7
          have s7 := ((sK.ext e5).ext e6).ext e7
          refine loop_count K.length (fun k h' => k ≤ K.length ∧ Ext h7 h') ⟨by omega, Ext.refl _⟩ ?_
          rintro k h8 again8 ρj8 ⟨hk8, e8⟩ hag8
          simp only [go_sem]
          refine iteK_dec (fun hlt8 => ?_) (fun hge8 => ?_)
          · have hlt8 : k < K.length := by omega
            have wk : IntKind.i64.wrap ((k : Int) + 1) = (k : Int) + 1 := w64 (by omega) (by omega)
            obtain ⟨p1, cs1, hp1, hq1, hcs1⟩ := (s7.ext e8).atw (show 0 < rAcc.w by decide) (k := .i64) hlt8
            have hp1 : idxV 6 (.slice ra K.length rc) (.int .i64 (k : Int)) = some p1 := hp1
            have hq1 : ldsV 6 h8 p1 = some (.agg cs1.toArray) := hq1
            rw [hp1, vK_some, hq1, vK_some]
            have one1 := rAcc.one hcs1
            obtain ⟨s1, rfl, hs1⟩ := acc_cs hcs1
            refine var_new rfl one1 rfl fun b9 h9 r9 e9 n9 => ?_
            refine (c_At ((L7.ext e8).ext e9) (k : Int) (fun a ha => by have := hKw a ha; omega)).mono ?_
            rintro _ h10 ⟨ds, rfl, dl, done, dacc, e10⟩
            have dacc := dacc k hlt8 rfl
            obtain ⟨s2, rfl, hs2⟩ := isAcc_cells dacc
            try simp only [go_sem, show ((0 : Int) ≤ (k : Int) ∧ (k : Int) < (K.length : Int)) by omega]
            refine var_new rfl done rfl fun b11 h11 r11 e11 n11 => ?_
            have r911 := e11.row (e10.row r9)
            have w1 := hKw _ (List.getElem_mem hlt8)
            simp only [go_sem, and_self, cell_row r11, cell_row r911, bne_self_eq_false, beq_self_eq_true]
            refine (c_refEqual (hs2.ext e11) (((hs1.ext e9).ext e10).ext e11) (by omega)).mono ?_
            rintro _ h12 ⟨rfl, hh⟩
            subst hh
            simp only [go_sem, wk]
            exact hag8 _ hlt8 ⟨hlt8, ((e8.trans e9).trans e10).trans e11⟩
          · have L8 := L7.ext e8
            refine (c_At L8 (K.length : Int) (fun a ha => by have := hKw a ha; omega)).mono ?_
            rintro _ h9 ⟨ds, rfl, dl, done, _, e9⟩
            simp only [go_sem, show ¬ ((0 : Int) ≤ (K.length : Int) ∧ (K.length : Int) < (K.length : Int)) by omega]
            refine var_new (by rw [dl]; rfl) done dl fun b10 h10 r10 e10 n10 => ?_
            refine (c_At ((L8.ext e9).ext e10) (-1) (fun a ha => by have := hKw a ha; omega)).mono ?_
            rintro _ h11 ⟨ds2, rfl, dl2, done2, _, e11⟩
            simp only [go_sem, show ¬ ((0 : Int) ≤ (-1 : Int) ∧ (-1 : Int) < (K.length : Int)) by omega]
            refine var_new (by rw [dl2]; rfl) done2 dl2 fun b12 h12 r12 e12 n12 => ?_
            try simp only [go_sem]
            exact ⟨by trivial, (((((((e4.trans e5).trans e6).trans e7).trans e8).trans e9).trans e10).trans e11).trans e12⟩

theorem r_LedgerRaces (h : Heap) (args : Array Value) (H : ArgsRd [.sl (.st tAcc) 64] h args.toList) : FCall Try.prog F_law20_LedgerRaces args h fun r h' => r = .bool true ∧ Ext h h' := by
  obtain ⟨v, r, hr, ⟨x, hx⟩, h0⟩ := H
  have h0 : r = [] := h0
  subst h0
  obtain rfl : args = #[v] := by cases args; simp_all
  obtain ⟨_, l', h1, h2, h3⟩ := accs_rd hx
  cases h1
  exact c_LedgerRaces h2 (by omega)
end Go.Proofs.Ytmmcgbilnnaggaa
