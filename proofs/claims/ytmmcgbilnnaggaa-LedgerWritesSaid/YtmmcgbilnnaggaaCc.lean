/- LedgerRace's parts: an access as the document has it, few accesses, the chapter's example. Conditions: none. -/
import Derived.Test.YtmmcgbilnnaggaaCb
set_option linter.unusedVariables false
set_option linter.unusedSimpArgs false
namespace Go.Proofs.Ytmmcgbilnnaggaa
open Go Go.Crisp
attribute [local irreducible] FCall rowK newK stK iteK vK qK drawK gK joinK loopK

theorem c_ref {h : Heap} {v : Value} {a : Acc} (ha : IsAcc h v a) :
    FCall Try.prog F_law20_ref #[v] h fun r h' => r = v ∧ Ext h h' := by
  apply ok_law20_ref
  unfold sh_law20_ref
  obtain ⟨s, rfl, hs⟩ := ha
  simp only [cells_agg]
  refine newK_use fun b1 h1 r1 e1 _ => newK_use fun b2 h2 r2 e2 n2 => ?_
  have r1 := e2.row r1
  simp only [go_sem, cell_row r1]
  obtain ⟨sa, sc, rfl, _⟩ := hs
  rw [vK_map _ #[.int .i64 a.who, .slice sa a.when_.length sc, .int .i64 a.buf, .int .i64 a.lo, .int .i64 a.hi, .bool a.wr] (by kernel_rfl)]
  refine st_var (l := [.int .i64 a.who, .slice sa a.when_.length sc, .int .i64 a.buf, .int .i64 a.lo, .int .i64 a.hi, .bool a.wr]) r2 rfl (by simp [oneCell]) rfl fun h3 r3 u3 => ?_
  rw [lds_row r3 6 rfl]
  simp only [go_sem]
  exact ⟨trivial, e1.trans ((Ext.refl h1).trans e2 |>.upd n2 u3)⟩

/-- A row of accesses. -/
def Accs (h : Heap) (v : Value) (l : List Acc) : Prop :=
  ∃ a cap, v = .slice a l.length cap ∧ (l = [] ∨ ∃ b o, a = some ⟨b, o, none⟩ ∧ ∀ i (hi : i < l.length), ∃ cs : List Value, cs.length = 6 ∧ (∀ j (hj : j < cs.length), cellOf h ⟨b, o + i * 6 + j, none⟩ = some cs[j]) ∧ IsAcc h (.agg cs.toArray) l[i])

theorem Accs.ext {h h' : Heap} {v : Value} {l : List Acc} (H : Accs h v l) (e : Ext h h') : Accs h' v l := by
  obtain ⟨a, cap, rfl, hl⟩ := H
  refine ⟨a, cap, rfl, hl.imp id ?_⟩
  rintro ⟨b, o, rfl, hc⟩
  refine ⟨b, o, rfl, fun i hi => ?_⟩
  obtain ⟨cs, h1, h2, h3⟩ := hc i hi
  exact ⟨cs, h1, fun j hj => e.cell (h2 j hj), h3.ext e⟩

def fewB (l : List Acc) : Bool := l.all (fun a => decide (a.when_.length ≤ 20)) && decide (l.length ≤ 40)

theorem c_few {h : Heap} {v : Value} {l : List Acc} (hv : Accs h v l) (hn : l.length ≤ 9223372036854775807) :
    FCall Try.prog F_law20_few #[v] h fun r h' => r = .bool (fewB l) ∧ Ext h h' := by
  apply ok_law20_few
  unfold sh_law20_few
  have hv0 := hv
  obtain ⟨A, cap, rfl, hA⟩ := hv
  simp only [go_sem]
  refine loopK_var (fun d xs h' => Ext h h' ∧ ∃ k : Nat, k + d = l.length ∧ xs = [.int .i64 k] ∧ ∀ i (hi : i < k) (h1 : i < l.length), l[i].when_.length ≤ 20) l.length ⟨Ext.refl h, 0, by omega, rfl, fun i hi => by omega⟩ ?_
  rintro d _ ρj h1 again ⟨e, k, hk, rfl, hinv⟩ hag
  simp only [go_sem]
  refine iteK_dec (fun hlt => ?_) (fun hge => ?_)
  · have hk1 : k < l.length := by omega
    rcases hA with rfl | ⟨b, o, rfl, hA⟩
    · simp at hk1
    obtain ⟨cs, hcs, hcell, hacc⟩ := hA k hk1
    simp only [idxV_nat hk1, vK_some]
    rw [ldsV_row cs 6 hcs fun j hj => e.cell (hcell j hj), vK_some]
    refine newK_use fun b1 h2 r1 e2 n1 => ?_
    obtain ⟨s, hs, sa, sc, rfl, _⟩ := hacc
    have hcs' : cs = [.int .i64 l[k].who, .slice sa l[k].when_.length sc, .int .i64 l[k].buf, .int .i64 l[k].lo, .int .i64 l[k].hi, .bool l[k].wr] := by
      have := congrArg (fun v => match v with | Value.agg c => c.toList | _ => []) hs
      simpa using this
    subst hcs'
    refine st_var r1 rfl (by simp [oneCell]) rfl fun h3 r3 u3 => ?_
    have e' : Ext h h3 := e.trans (e2.upd n1 u3)
    simp only [go_sem, cell_row r3]
    refine iteK_dec (fun hgt => ?_) (fun hle => ?_)
    · refine ⟨?_, e'⟩
      congr 1
      rw [eq_comm, Bool.eq_false_iff]
      intro hf
      simp only [fewB, Bool.and_eq_true, List.all_eq_true, decide_eq_true_eq] at hf
      have := hf.1 l[k] (List.getElem_mem hk1)
      omega
    · rw [w64 (by omega) (by omega)]
      refine hag _ _ (d - 1) (by omega) ⟨e', k + 1, by omega, rfl, fun i hi h1 => ?_⟩
      rcases Nat.lt_succ_iff_lt_or_eq.1 hi with hi | rfl
      · exact hinv i hi h1
      · omega
  · refine ⟨?_, e⟩
    congr 1
    rw [Bool.eq_iff_iff]
    simp only [fewB, Bool.and_eq_true, List.all_eq_true, decide_eq_true_eq]
    constructor
    · intro hl
      refine ⟨fun a ha => ?_, by omega⟩
      obtain ⟨i, hi, rfl⟩ := List.mem_iff_getElem.1 ha
      exact hinv i (by omega) hi
    · rintro ⟨_, hl⟩; omega

theorem ints_row {h : Heap} {b : Nat} {l : List Int} {t : TypeId} {f : Nat × Nat} {cap : Nat} (r : h[b]? = some (.cells (l.map vi).toArray t f)) : Ints h (.slice (some ⟨b, 0, none⟩) l.length cap) l :=
  ⟨_, cap, rfl, .inr ⟨b, 0, rfl, fun i hi => by rw [Nat.zero_add, cell_row r]; simp [hi]⟩⟩

theorem c_Lives {h : Heap} : FCall Try.prog F_law20_Lives #[] h fun r h' => r = .bool true ∧ Ext h h' := by
  apply ok_law20_Lives
  unfold sh_law20_Lives
  refine rowK_use (c' := #[.int .i64 1, .int .i64 0]) (by kernel_rfl) fun b1 h1 r1 e1 _ => ?_
  rw [vK_map _ #[.int .i64 0, .slice (some ⟨b1, 0, none⟩) 2 2, .int .i64 0, .int .i64 3, .int .i64 4, .bool true] (by kernel_rfl)]
  refine newK_use fun b2 h2 r2 e2 n2 => ?_
  refine st_var (l := [.int .i64 0, .slice (some ⟨b1, 0, none⟩) 2 2, .int .i64 0, .int .i64 3, .int .i64 4, .bool true]) r2 rfl (by simp [oneCell]) rfl fun h3 r3 u3 => ?_
  have e3 : Ext h1 h3 := e2.upd n2 u3
  refine rowK_use (c' := #[.int .i64 0, .int .i64 1]) (by kernel_rfl) fun b4 h4 r4 e4 _ => ?_
  rw [vK_map _ #[.int .i64 1, .slice (some ⟨b4, 0, none⟩) 2 2, .int .i64 0, .int .i64 2, .int .i64 9, .bool true] (by kernel_rfl)]
  refine newK_use fun b5 h5 r5 e5 n5 => ?_
  refine st_var (l := [.int .i64 1, .slice (some ⟨b4, 0, none⟩) 2 2, .int .i64 0, .int .i64 2, .int .i64 9, .bool true]) r5 rfl (by simp [oneCell]) rfl fun h6 r6 u6 => ?_
  have e6 : Ext h4 h6 := e5.upd n5 u6
  have e36 : Ext h3 h6 := e4.trans e6
  have l3 := lds_row (e36.row r3) 6 rfl
  have l6 := lds_row r6 6 rfl
  have i1 : Ints h6 (.slice (some ⟨b1, 0, none⟩) 2 2) [1, 0] := ints_row (l := [1, 0]) ((e3.trans e36).row r1)
  have i4 : Ints h6 (.slice (some ⟨b4, 0, none⟩) 2 2) [0, 1] := ints_row (l := [0, 1]) (e6.row r4)
  have A1 : IsAcc h6 (.agg #[.int .i64 0, .slice (some ⟨b1, 0, none⟩) 2 2, .int .i64 0, .int .i64 3, .int .i64 4, .bool true]) ⟨0, [1, 0], 0, 3, 4, true⟩ := ⟨_, rfl, i1⟩
  have A4 : IsAcc h6 (.agg #[.int .i64 1, .slice (some ⟨b4, 0, none⟩) 2 2, .int .i64 0, .int .i64 2, .int .i64 9, .bool true]) ⟨1, [0, 1], 0, 2, 9, true⟩ := ⟨_, rfl, i4⟩
  have e : Ext h h6 := e1.trans (e3.trans e36)
  simp only [go_sem, l3, l6]
  refine (c_Race A1 A4 (by simp) (by simp)).mono ?_
  rintro _ h7 ⟨rfl, e7⟩
  rw [show raceA ⟨0, [1, 0], 0, 3, 4, true⟩ ⟨1, [0, 1], 0, 2, 9, true⟩ = true from by decide]
  simp only [go_sem, e7.lds l3, e7.lds l6]
  refine (c_Race (A4.ext e7) (A1.ext e7) (by simp) (by simp)).mono ?_
  rintro _ h8 ⟨rfl, e8⟩
  rw [show raceA ⟨1, [0, 1], 0, 2, 9, true⟩ ⟨0, [1, 0], 0, 3, 4, true⟩ = true from by decide]
  simp only [go_sem]
  exact ⟨trivial, e.trans (e7.trans e8)⟩

theorem raceA_comm (a b : Acc) : raceA a b = raceA b a := by
  have h1 : decide (a.who = b.who) = decide (b.who = a.who) := by rw [decide_eq_decide]; exact ⟨Eq.symm, Eq.symm⟩
  have h2 : decide (a.buf = b.buf) = decide (b.buf = a.buf) := by rw [decide_eq_decide]; exact ⟨Eq.symm, Eq.symm⟩
  have h3 : decide (max a.lo b.lo < min a.hi b.hi) = decide (max b.lo a.lo < min b.hi a.hi) := by rw [decide_eq_decide]; omega
  unfold raceA meetsA
  rw [h1, h2, h3]
  cases decide (b.who = a.who) <;> cases a.wr <;> cases b.wr <;> cases decide (b.buf = a.buf) <;> cases decide (max b.lo a.lo < min b.hi a.hi) <;> cases aheadL a.when_ b.when_ <;> cases aheadL b.when_ a.when_ <;> rfl
theorem raceA_self (a : Acc) : raceA a a = false := by simp [raceA]

/-- LedgerRace answers true. -/
theorem c_LedgerRace {h : Heap} {v u : Value} {a b : Acc} (ha : IsAcc h v a) (hb : IsAcc h u b) : FCall Try.prog F_law20_LedgerRace #[v, u] h fun r h' => r = .bool true ∧ Ext h h' := by
  apply ok_law20_LedgerRace
  unfold sh_law20_LedgerRace
  have ha0 := ha
  have hb0 := hb
  obtain ⟨s, rfl, hs⟩ := ha
  obtain ⟨s', rfl, hs'⟩ := hb
  simp only [cells_agg]
  refine newK_use fun b1 h1 r1 e1 _ => newK_use fun b2 h2 r2 e2 _ => ?_
  have l1 := lds_row (e2.row r1) 6 rfl
  have l2 := lds_row r2 6 rfl
  have e := e1.trans e2
  refine FCall.mono c_Lives ?_
  rintro _ h3 ⟨rfl, e3⟩
  have l1 := e3.lds l1
  have l2 := e3.lds l2
  have e := e.trans e3
  simp only [go_sem, l1, l2]
  refine rowK_use (c' := #[.int .i64 a.who, s, .int .i64 a.buf, .int .i64 a.lo, .int .i64 a.hi, .bool a.wr, .int .i64 b.who, s', .int .i64 b.buf, .int .i64 b.lo, .int .i64 b.hi, .bool b.wr]) ?_ fun b4 h4 r4 e4 _ => ?_
  · obtain ⟨_, _, rfl, _⟩ := hs
    obtain ⟨_, _, rfl, _⟩ := hs'
    kernel_rfl
  have e := e.trans e4
  have l1 := e4.lds l1
  have l2 := e4.lds l2
  have hA : Accs h4 (.slice (some ⟨b4, 0, none⟩) 2 2) [a, b] := by
    refine ⟨_, 2, rfl, .inr ⟨b4, 0, rfl, fun i hi => ?_⟩⟩
    match i, hi with
    | 0, _ =>
      refine ⟨[.int .i64 a.who, s, .int .i64 a.buf, .int .i64 a.lo, .int .i64 a.hi, .bool a.wr], rfl, fun j hj => ?_, s, rfl, hs.ext e⟩
      rw [cell_row r4]
      match j, hj with
      | 0, _ | 1, _ | 2, _ | 3, _ | 4, _ | 5, _ => rfl
    | 1, _ =>
      refine ⟨[.int .i64 b.who, s', .int .i64 b.buf, .int .i64 b.lo, .int .i64 b.hi, .bool b.wr], rfl, fun j hj => ?_, s', rfl, hs'.ext e⟩
      rw [cell_row r4]
      match j, hj with
      | 0, _ | 1, _ | 2, _ | 3, _ | 4, _ | 5, _ => rfl
  refine (c_few hA (by simp)).mono ?_
  rintro _ h5 ⟨rfl, e5⟩
  have e := e.trans e5
  have l1 := e5.lds l1
  have l2 := e5.lds l2
  cases hf : fewB [a, b] with
  | false =>
    simp only [go_sem]
    refine FCall.mono c_Lives ?_
    rintro _ h6 ⟨rfl, e6⟩
    exact ⟨rfl, e.trans e6⟩
  | true =>
    have hla : a.when_.length ≤ 9223372036854775807 ∧ b.when_.length ≤ 9223372036854775807 := by
      simp [fewB] at hf; omega
    simp only [go_sem]
    refine drawK_ext ?_
    refine qK_val _ (fun _ e => e.lds l1) ?_
    refine qK_val _ (fun _ e => e.lds l2) ?_
    refine qK_val _ (fun _ e => e.lds l1) ?_
    refine qK_val _ (fun _ e => e.lds l2) ?_
    refine (c_Race (ha0.ext e) (hb0.ext e) hla.1 hla.2).mono ?_
    rintro _ h6 ⟨rfl, e6⟩
    refine ⟨e6, ?_⟩
    refine (c_ref (ha0.ext (e.trans e6))).mono ?_
    rintro _ h7 ⟨rfl, e7⟩
    have e7 := e6.trans e7
    refine ⟨e7, ?_⟩
    refine (c_ref (hb0.ext (e.trans e7))).mono ?_
    rintro _ h8 ⟨rfl, e8⟩
    have e := e.trans (e7.trans e8)
    have l1 := (e7.trans e8).lds l1
    have l2 := (e7.trans e8).lds l2
    refine drawK_ext ?_
    refine (c_refRace (ha0.ext e) (hb0.ext e) hla.1 hla.2).mono ?_
    rintro _ h9 ⟨rfl, e9⟩
    have e := e.trans e9
    have l1 := e9.lds l1
    have l2 := e9.lds l2
    refine drawK_ext ?_
    simp only [go_sem, beq_self_eq_true]
    refine qK_val _ (fun _ e => e.lds l1) ?_
    refine qK_val _ (fun _ e => e.lds l2) ?_
    refine qK_val _ (fun _ e => e.lds l2) ?_
    refine qK_val _ (fun _ e => e.lds l1) ?_
    refine (c_Race (ha0.ext e) (hb0.ext e) hla.1 hla.2).mono ?_
    rintro _ h10 ⟨rfl, e10⟩
    refine ⟨e10, ?_⟩
    refine (c_Race (hb0.ext (e.trans e10)) (ha0.ext (e.trans e10)) hla.2 hla.1).mono ?_
    rintro _ h11 ⟨rfl, e11⟩
    have e11 := e10.trans e11
    have e := e.trans e11
    have l1 := e11.lds l1
    rw [raceA_comm b a]
    refine drawK_ext ?_
    simp only [go_sem, beq_self_eq_true]
    refine qK_val _ (fun _ e => e.lds l1) ?_
    refine qK_val _ (fun _ e => e.lds l1) ?_
    refine (c_Race (ha0.ext e) (ha0.ext e) hla.1 hla.1).mono ?_
    rintro _ h12 ⟨rfl, e12⟩
    rw [raceA_self]
    simp only [go_sem]
    exact ⟨trivial, e.trans e12⟩
end Go.Proofs.Ytmmcgbilnnaggaa
