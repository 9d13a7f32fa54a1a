/- The ledger: an access in memory, a copy of its own, what a ledger is, one access more, all pairs that race. Conditions: none. -/
import Derived.Test.YtmmcgbilnnaggaaEe
import Derived.Test.YtmmcgbilnnaggaaCc
import Derived.Test.YtmmcgbilnnaggaaKd
set_option linter.unusedVariables false
set_option linter.unusedSimpArgs false
namespace Go.Proofs.Ytmmcgbilnnaggaa
open Go Go.Crisp
attribute [local irreducible] FCall rowK newK stK iteK vK qK drawK gK joinK loopK mkK appK cpyK

abbrev rI : Rp Int := Rp.int .i64
theorem sl_ints {Z : Nat → Prop} {h : Heap} {v : Value} {l : List Int} (H : Rp.Sl rI Z h v l) : Ints h v l := by
  obtain ⟨ds, hs, _, he⟩ := H
  have hl : ds.length = l.length := by have := hs.1; simpa [Rp.int] using this
  have : ds = l.map vi := by
    apply List.ext_getElem (by simp [hl])
    intro i h1 h2
    have h3 := he i (by omega)
    have h4 : Rp.el 1 ds i = [.int .i64 l[i]] := h3
    rw [Rp.el_one h1] at h4
    rw [List.getElem_map]
    simpa [vi] using h4
  subst this
  exact ints_sl hs
theorem ints_sl_rp {Z : Nat → Prop} {h : Heap} {v : Value} {l : List Int} (H : Ints h v l) (hz : l ≠ [] → ∀ b, blk v b → Z b) : Rp.Sl rI Z h v l := by
  refine ⟨l.map vi, H.sl, fun h0 => hz (by simpa using h0), fun i hi => ?_⟩
  show Rp.el 1 (l.map vi) i = [.int .i64 l[i]]
  rw [Rp.el_one (by simpa using hi)]
  simp [vi]

/-- An access in memory. -/
def rAcc : Rp Acc where
  w := 6
  R := fun Z h cs a => ∃ s, cs = [.int .i64 a.who, s, .int .i64 a.buf, .int .i64 a.lo, .int .i64 a.hi, .bool a.wr] ∧ Rp.Sl rI Z h s a.when_
  len := by rintro _ _ _ _ ⟨s, rfl, _⟩; rfl
  one := by
    rintro _ _ _ _ ⟨s, rfl, H⟩ v hv
    have := H.one
    simp only [List.mem_cons, List.not_mem_nil, or_false] at hv
    rcases hv with rfl | rfl | rfl | rfl | rfl | rfl <;> first | rfl | exact this
  fr := by rintro _ _ _ _ _ _ ⟨s, rfl, H⟩ f q; exact ⟨s, rfl, H.fr f q⟩
  mono := by rintro _ _ _ _ _ ⟨s, rfl, H⟩ q; exact ⟨s, rfl, H.mono q⟩
theorem rAcc.isAcc {Z : Nat → Prop} {h : Heap} {cs : List Value} {a : Acc} (H : rAcc.R Z h cs a) : IsAcc h (.agg cs.toArray) a := by
  obtain ⟨s, rfl, hs⟩ := H
  exact ⟨s, rfl, sl_ints hs⟩

def mayA (a : Acc) : Bool := decide (0 ≤ a.who) && (decide (0 ≤ a.buf) && (decide (0 ≤ a.lo) && decide (a.lo < a.hi)))

theorem c_may {h : Heap} {v : Value} {a : Acc} (ha : IsAcc h v a) : FCall Try.prog F_ledger_may #[v] h fun r h' => r = .bool (mayA a) ∧ Ext h h' := by
  obtain ⟨s, rfl, _⟩ := ha
  apply ok_ledger_may
  unfold sh_ledger_may
  simp only [cells_agg]
  refine newK_use fun b h1 r1 e1 n1 => ?_
  by_cases p1 : 0 ≤ a.who
  · by_cases p2 : 0 ≤ a.buf
    · by_cases p3 : 0 ≤ a.lo
      · simp only [go_sem, cell_row r1, p1, p2, p3]
        exact ⟨by simp [mayA, p1, p2, p3], e1⟩
      · simp only [go_sem, cell_row r1, p1, p2, p3]
        exact ⟨by simp [mayA, p1, p2, p3], e1⟩
    · simp only [go_sem, cell_row r1, p1, p2]
      exact ⟨by simp [mayA, p1, p2], e1⟩
  · simp only [go_sem, cell_row r1, p1]
    exact ⟨by simp [mayA, p1], e1⟩

theorem c_apart {h : Heap} {v : Value} {a : Acc} (ha : IsAcc h v a) (hl : a.when_.length ≤ 4398046511104) :
    FCall Try.prog F_ledger_apart #[v] h fun r h' => ∃ ds, r = .agg (List.toArray ds) ∧ rAcc.R (fun b => h.size ≤ b ∧ b < h'.size) h' ds a ∧ Ext h h' := by
  obtain ⟨s, rfl, hs⟩ := ha
  apply ok_ledger_apart
  unfold sh_ledger_apart
  simp only [cells_agg]
  refine newK_use fun b1 h1 r1 e1 n1 => newK_use fun b3 h3 r3 e3 n3 => ?_
  have r1' := e3.row r1
  simp only [go_sem, cell_row r1']
  refine (c_Clone ((hs.ext e1).ext e3) hl).mono ?_
  rintro s' h4 ⟨o4, e4, n4⟩
  have hs' := own_one o4
  refine st_cell (o := 1) (e4.row r1') (by simp) hs' fun h5 r5 u5 => ?_
  have r5 : h5[b1]? = some (.cells (List.toArray [.int .i64 a.who, s', .int .i64 a.buf, .int .i64 a.lo, .int .i64 a.hi, .bool a.wr]) _ (0, 0)) := r5
  rw [lds_row r5 6 rfl, vK_some]
  have b13 : b3 ≠ b1 := by have := row_lt r1; omega
  refine st_var (l := [.int .i64 a.who, s', .int .i64 a.buf, .int .i64 a.lo, .int .i64 a.hi, .bool a.wr]) (u5.row b13 (e4.row r3)) rfl (by repeat' (first | rfl | assumption | exact ones_nil | refine ones_cons ?_ ?_)) rfl fun h6 r6 u6 => ?_
  rw [lds_row r6 6 rfl, vK_some]
  have e06 : Ext h h6 := (((e1.trans e3).trans e4).upd n1 u5).upd (Nat.le_trans e1.1 n3) u6
  refine ⟨_, rfl, ⟨s', rfl, ?_⟩, e06⟩
  have hs1 : ∀ b, blk s' b → b ≠ b1 ∧ b ≠ b3 := fun b hb => by
    have h1 := n4 b hb
    have h2 := row_lt r1'
    have h3 := row_lt r3
    exact ⟨by omega, by omega⟩
  have o6 : OwnI h6 s' a.when_ := (o4.fr u5.fr fun b hb => (hs1 b hb).1).fr u6.fr fun b hb => (hs1 b hb).2
  exact ints_sl_rp o6.ints fun _ b hb => ⟨Nat.le_trans (e1.trans e3).1 (n4 b hb), o6.lt hb⟩
end Go.Proofs.Ytmmcgbilnnaggaa
