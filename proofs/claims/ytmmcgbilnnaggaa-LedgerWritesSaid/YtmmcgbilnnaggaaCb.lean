/- Whether accesses race: the program's and the document's, at accesses whose stamps read as numbers. Conditions: none. -/
import Derived.Test.YtmmcgbilnnaggaaCa
set_option linter.unusedVariables false
set_option linter.unusedSimpArgs false
namespace Go.Proofs.Ytmmcgbilnnaggaa
open Go Go.Crisp

/-- An access, as numbers. -/
structure Acc where
  who : Int
  when_ : List Int
  buf : Int
  lo : Int
  hi : Int
  wr : Bool

/-- A value that reads as an access. -/
def IsAcc (h : Heap) (v : Value) (a : Acc) : Prop := ∃ s, v = .agg #[.int .i64 a.who, s, .int .i64 a.buf, .int .i64 a.lo, .int .i64 a.hi, .bool a.wr] ∧ Ints h s a.when_

theorem IsAcc.ext {h h' : Heap} {v : Value} {a : Acc} (H : IsAcc h v a) (e : Ext h h') : IsAcc h' v a := by
  obtain ⟨s, rfl, hs⟩ := H
  exact ⟨s, rfl, hs.ext e⟩

def meetsA (a b : Acc) : Bool := decide (a.buf = b.buf) && decide (max a.lo b.lo < min a.hi b.hi)
def raceA (a b : Acc) : Bool := !decide (a.who = b.who) && (a.wr || b.wr) && meetsA a b && !aheadL a.when_ b.when_ && !aheadL b.when_ a.when_

theorem c_meets {h : Heap} {v u : Value} {a b : Acc} (ha : IsAcc h v a) (hb : IsAcc h u b) :
    FCall Try.prog F_ledger_meets #[v, u] h fun r h' => r = .bool (meetsA a b) ∧ Ext h h' := by
  apply ok_ledger_meets
  unfold sh_ledger_meets
  obtain ⟨s, rfl, hs⟩ := ha
  obtain ⟨s', rfl, hs'⟩ := hb
  simp only [cells_agg]
  refine newK_use fun b1 h1 r1 e1 _ => newK_use fun b2 h2 r2 e2 _ => ?_
  have r1 := e2.row r1
  have e := e1.trans e2
  simp only [go_sem, cell_row r1, cell_row r2]
  by_cases hbuf : a.buf = b.buf
  · simp only [go_sem, hbuf, cell_row r1, cell_row r2]
    exact ⟨by simp [meetsA, hbuf], e⟩
  · simp only [go_sem, hbuf]
    exact ⟨by simp [meetsA, hbuf], e⟩

theorem c_Race {h : Heap} {v u : Value} {a b : Acc} (ha : IsAcc h v a) (hb : IsAcc h u b) (hn : a.when_.length ≤ 9223372036854775807) (hm : b.when_.length ≤ 9223372036854775807) :
    FCall Try.prog F_ledger_Race #[v, u] h fun r h' => r = .bool (raceA a b) ∧ Ext h h' := by
  apply ok_ledger_Race
  unfold sh_ledger_Race
  have ha0 := ha
  have hb0 := hb
  obtain ⟨s, rfl, hs⟩ := ha
  obtain ⟨s', rfl, hs'⟩ := hb
  simp only [cells_agg]
  refine newK_use fun b1 h1 r1 e1 _ => newK_use fun b2 h2 r2 e2 _ => ?_
  have r1 := e2.row r1
  have e := e1.trans e2
  have l1 := lds_row r1 6 rfl
  have l2 := lds_row r2 6 rfl
  simp only [go_sem, cell_row r1, cell_row r2]
  by_cases hw : a.who = b.who
  · simp only [go_sem, hw]
    exact ⟨by simp [raceA, hw], e⟩
  cases hwa : a.wr <;> cases hwb : b.wr <;> simp only [go_sem, hw, cell_row r1, cell_row r2, l1, l2, hwa, hwb]
  · exact ⟨by simp [raceA, hwa, hwb], e⟩
  all_goals
    refine (c_meets (a := a) (b := b) ?_ ?_).mono ?_
    · rw [← hwa]; exact ha0.ext e
    · rw [← hwb]; exact hb0.ext e
    rintro _ h3 ⟨rfl, e3⟩
    have r1 := e3.row r1
    have r2 := e3.row r2
    have e := e.trans e3
    cases hme : meetsA a b with
    | false => simp only [go_sem]; exact ⟨by simp [raceA, hme], e⟩
    | true =>
      simp only [go_sem, cell_row r1, cell_row r2]
      refine (c_Ahead (hs.ext e) (hs'.ext e) hn).mono ?_
      rintro _ _ ⟨rfl, rfl⟩
      cases h1a : aheadL a.when_ b.when_ with
      | true => simp only [go_sem]; exact ⟨by simp [raceA, h1a], e⟩
      | false =>
        simp only [go_sem, cell_row r1, cell_row r2]
        refine (c_Ahead (hs'.ext e) (hs.ext e) hm).mono ?_
        rintro _ _ ⟨rfl, rfl⟩
        simp only [go_sem]
        exact ⟨by simp [raceA, hw, hme, h1a, hwa, hwb], e⟩

theorem c_refRace {h : Heap} {v u : Value} {a b : Acc} (ha : IsAcc h v a) (hb : IsAcc h u b) (hn : a.when_.length ≤ 9223372036854775807) (hm : b.when_.length ≤ 9223372036854775807) :
    FCall Try.prog F_ref20_Race #[v, u] h fun r h' => r = .bool (raceA a b) ∧ Ext h h' := by
  apply ok_ref20_Race
  unfold sh_ref20_Race
  obtain ⟨s, rfl, hs⟩ := ha
  obtain ⟨s', rfl, hs'⟩ := hb
  simp only [cells_agg]
  refine newK_use fun b1 h1 r1 e1 _ => newK_use fun b2 h2 r2 e2 _ => ?_
  have r1 := e2.row r1
  have e := e1.trans e2
  simp only [go_sem, cell_row r1, cell_row r2]
  by_cases hw : a.who = b.who
  · simp only [go_sem, hw]
    exact ⟨by simp [raceA, hw], e⟩
  simp only [go_sem, hw, cell_row r1, cell_row r2]
  by_cases hbu : a.buf = b.buf
  case neg =>
    simp only [go_sem, hbu]
    exact ⟨by simp [raceA, meetsA, hbu], e⟩
  simp only [go_sem, hbu, cell_row r1, cell_row r2]
  cases hwa : a.wr <;> cases hwb : b.wr <;> simp only [go_sem, cell_row r1, cell_row r2, hwa, hwb]
  · exact ⟨by simp [raceA, hwa, hwb], e⟩
  all_goals
    by_cases q1 : a.hi ≤ b.lo
    · simp only [go_sem, q1]
      exact ⟨by simp [raceA, meetsA]; omega, e⟩
    simp only [go_sem, q1, cell_row r1, cell_row r2]
    by_cases q2 : b.hi ≤ a.lo
    · simp only [go_sem, q2]
      exact ⟨by simp [raceA, meetsA]; omega, e⟩
    simp only [go_sem, q2, cell_row r1, cell_row r2]
    by_cases q3 : a.hi ≤ a.lo
    · simp only [go_sem, q3]
      exact ⟨by simp [raceA, meetsA]; omega, e⟩
    simp only [go_sem, q3, cell_row r1, cell_row r2]
    by_cases q4 : b.hi ≤ b.lo
    · simp only [go_sem, q4]
      exact ⟨by simp [raceA, meetsA]; omega, e⟩
    simp only [go_sem, q4, cell_row r1, cell_row r2]
    have hme : meetsA a b = true := by simp [meetsA, hbu]; omega
    refine (c_refAhead (hs.ext e) (hs'.ext e) hn).mono ?_
    rintro _ _ ⟨rfl, rfl⟩
    cases h1a : aheadL a.when_ b.when_ with
    | true => simp only [go_sem]; exact ⟨by simp [raceA, h1a], e⟩
    | false =>
      simp only [go_sem, cell_row r1, cell_row r2]
      refine (c_refAhead (hs'.ext e) (hs.ext e) hm).mono ?_
      rintro _ _ ⟨rfl, rfl⟩
      simp only [go_sem]
      exact ⟨by simp [raceA, hw, hme, h1a, hwa, hwb], e⟩
end Go.Proofs.Ytmmcgbilnnaggaa
