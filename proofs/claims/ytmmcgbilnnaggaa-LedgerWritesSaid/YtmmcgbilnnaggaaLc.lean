/- The ledger: all pairs that race; LedgerOrdered. Conditions: none. -/
import Derived.Test.YtmmcgbilnnaggaaLb
import Derived.Test.YtmmcgbilnnaggaaRb
import Derived.Test.YtmmcgbilnnaggaaCd
set_option linter.unusedVariables false
set_option linter.unusedSimpArgs false
namespace Go.Proofs.Ytmmcgbilnnaggaa
open Go Go.Crisp
attribute [local irreducible] FCall rowK newK stK iteK vK qK drawK gK joinK loopK mkK appK cpyK

/-- Two numbers in a struct. -/
def rPair : Rp (Int × Int) where
  w := 2
  R := fun _ _ cs p => cs = [.int .i64 p.1, .int .i64 p.2]
  len := by rintro _ _ _ _ rfl; rfl
  one := by
    rintro _ _ _ _ rfl
    repeat' (first | rfl | exact ones_nil | refine ones_cons ?_ ?_)
  fr := fun H _ _ => H
  mono := fun H _ => H

instance : Inhabited Acc := ⟨⟨0, [], 0, 0, 0, false⟩⟩
def raceRow (l : List Acc) (i k : Nat) : List (Int × Int) := ((List.range k).filter fun (m : Nat) => decide (i < m) && raceA l[i]! l[m]!).map fun (m : Nat) => ((i : Int), (m : Int))
def raceTo (l : List Acc) (i : Nat) : List (Int × Int) := (List.range i).flatMap fun j => raceRow l j l.length
theorem raceRow_start (l : List Acc) (i : Nat) : raceRow l i (i + 1) = [] := by
  unfold raceRow
  rw [List.map_eq_nil_iff, List.filter_eq_nil_iff]
  intro m hm
  have := List.mem_range.1 hm
  simp; omega
theorem raceRow_step (l : List Acc) {i k : Nat} (h : i < k) : raceRow l i (k + 1) = raceRow l i k ++ if raceA l[i]! l[k]! = true then [((i : Int), (k : Int))] else [] := by
  unfold raceRow
  rw [List.range_succ, List.filter_append, List.map_append]
  congr 1
  have hp : (decide (i < k) && raceA l[i]! l[k]!) = raceA l[i]! l[k]! := by rw [decide_eq_true h, Bool.true_and]
  by_cases hr : raceA l[i]! l[k]! = true
  · rw [if_pos hr, List.filter_cons, hp, if_pos hr]; rfl
  · rw [if_neg hr, List.filter_cons, hp, if_neg hr]; rfl
theorem raceTo_step (l : List Acc) (i : Nat) : raceTo l (i + 1) = raceTo l i ++ raceRow l i l.length := by
  unfold raceTo
  rw [List.range_succ, List.flatMap_append]; simp
theorem bang {α : Type} [Inhabited α] (l : List α) {i : Nat} (h : i < l.length) : l[i]! = l[i] := getElem!_pos l i h
theorem raceRow_len (l : List Acc) (i k : Nat) : (raceRow l i k).length ≤ k := by
  unfold raceRow
  rw [List.length_map]
  exact Nat.le_trans (List.length_filter_le _ _) (by simp)
theorem raceTo_len (l : List Acc) (i : Nat) : (raceTo l i).length ≤ i * l.length := by
  induction i with
  | zero => simp [raceTo]
  | succ i ih =>
    rw [raceTo_step, List.length_append, Nat.succ_mul]
    have := raceRow_len l i l.length
    omega

theorem c_Races {M Z : Nat → Prop} {h : Heap} {v : Value} {l : List Acc} (H : IsLedger M Z h v l) (hw : ∀ a ∈ l, a.when_.length ≤ 9223372036854775807) (hl : l.length ≤ 1000) :
    FCall Try.prog F_ledger_Ledger_Races #[v] h fun r h' => Rp.Ow rPair (fun _ => False) h' r (raceTo l l.length) ∧ Ext h h' ∧ ∀ b, blk r b → h.size ≤ b := by
  obtain ⟨bx, sl, t, rfl, L⟩ := H
  apply ok_ledger_Ledger_Races
  unfold sh_ledger_Ledger_Races
  obtain ⟨sa, sc, rfl⟩ := L.own.isSl
  simp only [go_sem, cell_row L.var]
  refine loopK_var (fun d xs h' => Ext h h' ∧ ∃ i r, i ≤ l.length ∧ d = l.length - i ∧ xs = [r, .int .i64 (i : Int)] ∧ Rp.Ow rPair (fun _ => False) h' r (raceTo l i) ∧ ∀ b, blk r b → h.size ≤ b) _
    ⟨Ext.refl h, 0, _, Nat.zero_le _, rfl, rfl, Rp.Ow.nil, fun b hb => hb.elim⟩ ?_
  rintro d _ ρj h1 again ⟨e1, i, r, hi, rfl, rfl, o1, n1⟩ hag
  simp only [go_sem]
  refine iteK_dec (fun hlt => ?_) (fun hge => ?_)
  · have hlt : i < l.length := by omega
    obtain ⟨p, cs, hp, hq, hcs⟩ := L.own.sl.atw (show 0 < rAcc.w by decide) (k := .i64) hlt
    have hp : idxV 6 (.slice sa l.length sc) (.int .i64 (i : Int)) = some p := hp
    have hq : ldsV 6 h1 p = some (.agg cs.toArray) := e1.lds hq
    rw [hp, vK_some, hq, vK_some]
    refine var_new (rAcc.len hcs) (rAcc.one hcs) (rAcc.len hcs) fun b2 h2 r2 e2 n2 => ?_
    rw [w64 (by omega) (by omega)]
    have b2s : ∀ b, blk r b → b ≠ b2 := fun b hb hbb => by have := o1.lt hb; omega
    have b2old : h.size ≤ b2 := Nat.le_trans e1.1 n2
    refine loopK_var (fun d xs h' => Ext h h' ∧ h'[b2]? = some (.cells cs.toArray 25 (0, 0)) ∧ ∃ k r, i < k ∧ k ≤ l.length ∧ d = l.length - k ∧ xs = [r, .int .i64 (k : Int)] ∧ Rp.Ow rPair (fun _ => False) h' r (raceTo l i ++ raceRow l i k) ∧ ∀ b, blk r b → h.size ≤ b ∧ b ≠ b2) _
      ⟨e1.trans e2, r2, i + 1, r, Nat.lt_succ_self i, hlt, rfl, rfl, by rw [raceRow_start, List.append_nil]; exact o1.ext e2, fun b hb => ⟨n1 b hb, b2s b hb⟩⟩ ?_
    rintro d _ ρj h3 again3 ⟨e3, r3, k, s3, hik, hk, rfl, rfl, o3, n3⟩ hag3
    have L3 := L.fr (Q := fun _ => False) e3.fr fun _ _ _ => id
    simp only [go_sem, cell_row L3.var]
    refine iteK_dec (fun hlt3 => ?_) (fun hge3 => ?_)
    · have hlt3 : k < l.length := by omega
      refine drawK_ext ?_
      have hw6 : cs.length = 6 := rAcc.len hcs
      refine qK_val (.agg cs.toArray) (fun hh E => lds_row (E.row r3) 6 hw6) ?_
      refine qK_val (.slice sa l.length sc) (fun hh E => by rw [cell_row (E.row L3.var)]; rfl) ?_
      obtain ⟨p3, ds, hp3, hq3, hds⟩ := L3.own.sl.atw (show 0 < rAcc.w by decide) (k := .i64) hlt3
      have hp3 : idxV 6 (.slice sa l.length sc) (.int .i64 (k : Int)) = some p3 := hp3
      have hq3 : ldsV 6 h3 p3 = some (.agg ds.toArray) := hq3
      rw [hp3, vK_some]
      refine qK_val (.agg ds.toArray) (fun hh E => E.lds hq3) ?_
      have hds0 : rAcc.R (fun b => Z b ∨ blk (.slice sa l.length sc) b) h3 ds l[k] := hds
      refine (c_Race ((rAcc.isAcc hcs).ext e3) (rAcc.isAcc hds0) (hw _ (List.getElem_mem _)) (hw _ (List.getElem_mem _))).mono ?_
      rintro _ h4 ⟨rfl, e4⟩
      have wk : IntKind.i64.wrap ((k : Int) + 1) = (k : Int) + 1 := w64 (by omega) (by omega)
      have hst := raceRow_step l hik
      rw [bang l hlt, bang l hlt3] at hst
      cases hr : raceA l[i] l[k] with
      | true =>
        rw [hr] at hst
        simp only [go_sem, wk]
        rw [vK_map _ #[.int .i64 (i : Int), .int .i64 (k : Int)] (by kernel_rfl)]
        refine Rp.push_ow (e := rPair) (cs := [.int .i64 (i : Int), .int .i64 (k : Int)]) (x := ((i : Int), (k : Int))) (o3.ext e4) rfl rfl rfl ?_ ?_ (fun b hb => hb.elim) fun s5 h5 o5 f5 n5 => ?_
        · have := raceTo_len l i; have := raceRow_len l i k
          have : i * l.length ≤ 1000 * 1000 := Nat.mul_le_mul (by omega) hl
          rw [List.length_append]; omega
        · have := raceTo_len l i; have := raceRow_len l i k
          have : i * l.length ≤ 1000 * 1000 := Nat.mul_le_mul (by omega) hl
          rw [List.length_append]; omega
        have e5 : Ext h h5 := (e3.trans e4).then_fr f5 fun b hb => (n3 b hb).1
        refine hag3 _ _ (l.length - (k + 1)) (by omega) ⟨e5, f5.row (e4.row r3) fun hb => (n3 _ hb).2 rfl, k + 1, s5, by omega, hlt3, rfl, rfl, ?_, fun b hb => ?_⟩
        · rw [hst, if_pos rfl, ← List.append_assoc]; exact o5
        · rcases n5 b hb with h7 | h7
          · exact n3 b h7
          · have h8 := row_lt r3
            have h9 := e4.1
            exact ⟨Nat.le_trans (e3.trans e4).1 h7, by omega⟩
      | false =>
        rw [hr] at hst
        simp only [go_sem, wk]
        refine hag3 _ _ (l.length - (k + 1)) (by omega) ⟨e3.trans e4, e4.row r3, k + 1, s3, by omega, hlt3, rfl, rfl, ?_, n3⟩
        rw [hst]
        simp only [Bool.false_eq_true, if_false, List.append_nil]
        exact o3.ext e4
    · obtain rfl : k = l.length := by omega
      refine hag _ _ (l.length - (i + 1)) (by omega) ⟨e3, i + 1, s3, hlt, rfl, rfl, ?_, fun b hb => (n3 b hb).1⟩
      rw [raceTo_step]; exact o3
  · obtain rfl : i = l.length := by omega
    exact ⟨o1, e1, n1⟩

theorem raceTo_none {l : List Acc} (h : ∀ i k (hi : i < l.length) (hk : k < l.length), i < k → raceA l[i] l[k] = false) : raceTo l l.length = [] := by
  unfold raceTo
  rw [List.flatMap_eq_nil_iff]
  intro i hi
  have hi := List.mem_range.1 hi
  unfold raceRow
  rw [List.map_eq_nil_iff, List.filter_eq_nil_iff]
  intro k hk
  have hk := List.mem_range.1 hk
  rw [bang l hi, bang l hk]
  by_cases hik : i < k
  · simp [h i k hi hk hik]
  · simp [hik]

theorem accs_rd {h : Heap} {cs : List Value} {z : Nat} {l : List tAcc.T} (H : Rd (.sl (.st tAcc) z) h cs l) : ∃ v l', cs = [v] ∧ Accs h v l' ∧ l'.length * z ≤ 140737488351232 := by
  have hz := ints_len H
  obtain ⟨a, cap, rfl, _, _, _, hl⟩ := H
  refine ⟨_, l.map fun (x : tAcc.T) => (⟨x.1, x.2.1, x.2.2.1, x.2.2.2.1, x.2.2.2.2.1, x.2.2.2.2.2.1⟩ : Acc), rfl, ⟨a, cap, by rw [List.length_map]; rfl, ?_⟩, by rw [List.length_map]; exact hz⟩
  rcases hl with hl | ⟨b, o, ha, hl⟩
  · left
    have : l = [] := List.eq_nil_of_length_eq_zero hl
    rw [this]; rfl
  · refine .inr ⟨b, o, ha.resolve_left (by decide), fun i hi => ?_⟩
    rw [List.length_map] at hi
    obtain ⟨ds, hd, hc, hr⟩ := hl i hi
    refine ⟨ds, hd, fun j hj => hc j hj, ?_⟩
    have := (acc_rd (cs := ds) hr).1
    rw [List.getElem_map]
    exact this
end Go.Proofs.Ytmmcgbilnnaggaa
