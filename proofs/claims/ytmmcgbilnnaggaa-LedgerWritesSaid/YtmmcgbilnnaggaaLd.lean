/- LedgerOrdered. Conditions: none. -/
import Derived.Test.YtmmcgbilnnaggaaLc
set_option linter.unusedVariables false
set_option linter.unusedSimpArgs false
namespace Go.Proofs.Ytmmcgbilnnaggaa
open Go Go.Crisp
attribute [local irreducible] FCall rowK newK stK iteK vK qK drawK gK joinK loopK mkK appK cpyK

theorem ledger_new {h : Heap} {b : Nat} {t : TypeId} (r : h[b]? = some (.cells #[.slice none 0 0] t (0, 0))) : IsLedger (fun k => k = b) (fun _ => False) h (.pointer (some ⟨b, 0, none⟩)) [] :=
  ⟨b, _, t, rfl, { var := r, own := Rp.Ow.nil, inM := ⟨rfl, fun k hk => hk.elim⟩, ap := fun hb => hb.elim, lt := fun k hk => by rw [hk]; exact row_lt r, zlt := fun k hk => hk.elim }⟩

theorem isAcc_cells {h : Heap} {cs : List Value} {a : Acc} (H : IsAcc h (.agg cs.toArray) a) : ∃ s, cs = [.int .i64 a.who, s, .int .i64 a.buf, .int .i64 a.lo, .int .i64 a.hi, .bool a.wr] ∧ Ints h s a.when_ := by
  obtain ⟨s, hs, hi⟩ := H
  refine ⟨s, ?_, hi⟩
  have := congrArg (fun v => match v with | Value.agg c => c.toList | _ => []) hs
  simpa using this

theorem stamps_race {a b : Acc} {j k : Nat} (ha : a.when_ = [(j : Int), j, j]) (hb : b.when_ = [(k : Int), k, k]) (h : j < k) : raceA a b = false := by
  have : aheadL a.when_ b.when_ = true := by
    rw [ha, hb]
    have h1 : (j : Int) ≤ k := by omega
    have h2 : ¬ ([(j : Int), j, j] = [(k : Int), k, k]) := by simp; omega
    simp [aheadL, belowL, h1]
    omega
  simp [raceA, this]
theorem reads_race {a b : Acc} (ha : a.wr = false) (hb : b.wr = false) : raceA a b = false := by simp [raceA, ha, hb]

def OrdI (rise : Bool) (k : Nat) (l : List Acc) : Prop := l.length ≤ k ∧ (∀ a ∈ l, a.when_.length ≤ 20) ∧ l.Pairwise (fun a b => raceA a b = false) ∧ (rise = true → ∀ a ∈ l, ∃ j : Nat, j < k ∧ a.when_ = [(j : Int), j, j]) ∧ (rise = false → ∀ a ∈ l, a.wr = false)
theorem OrdI.step {rise : Bool} {k : Nat} {l : List Acc} {a : Acc} (H : OrdI rise k l) (hl : a.when_.length ≤ 20) (h1 : rise = true → a.when_ = [(k : Int), k, k]) (h2 : rise = false → a.wr = false) : OrdI rise (k + 1) (addA l a) := by
  obtain ⟨p1, p2, p3, p4, p5⟩ := H
  unfold addA
  split
  · refine ⟨by simp; omega, fun b hb => ?_, ?_, fun hr b hb => ?_, fun hr b hb => ?_⟩
    · rcases List.mem_append.1 hb with hb | hb
      · exact p2 b hb
      · rw [List.mem_singleton.1 hb]; exact hl
    · rw [List.pairwise_append]
      refine ⟨p3, by simp, fun x hx y hy => ?_⟩
      rw [List.mem_singleton.1 hy]
      cases rise with
      | true =>
        obtain ⟨j, hj, hw⟩ := p4 rfl x hx
        exact stamps_race hw (h1 rfl) hj
      | false => exact reads_race (p5 rfl x hx) (h2 rfl)
    · rcases List.mem_append.1 hb with hb | hb
      · obtain ⟨j, hj, hw⟩ := p4 hr b hb
        exact ⟨j, by omega, hw⟩
      · rw [List.mem_singleton.1 hb]; exact ⟨k, by omega, h1 hr⟩
    · rcases List.mem_append.1 hb with hb | hb
      · exact p5 hr b hb
      · rw [List.mem_singleton.1 hb]; exact h2 hr
  · exact ⟨by omega, p2, p3, fun hr b hb => by obtain ⟨j, hj, hw⟩ := p4 hr b hb; exact ⟨j, by omega, hw⟩, p5⟩

theorem few_of {l : List Acc} (h : fewB l = true) : l.length ≤ 40 ∧ ∀ a ∈ l, a.when_.length ≤ 20 := by
  simp only [fewB, Bool.and_eq_true, List.all_eq_true, decide_eq_true_eq] at h
  exact ⟨h.2, h.1⟩

theorem c_LedgerOrdered {h : Heap} {v : Value} {l : List Acc} {rise : Bool} (hv : Accs h v l) (hn : l.length ≤ 9223372036854775807) :
    FCall Try.prog F_law20_LedgerOrdered #[v, .bool rise] h fun r h' => r = .bool true ∧ Ext h h' := by
  apply ok_law20_LedgerOrdered
  unfold sh_law20_LedgerOrdered
  refine c_Lives.mono ?_
  rintro _ h1 ⟨rfl, e1⟩
  simp only [go_sem]
  refine (c_few (hv.ext e1) hn).mono ?_
  rintro _ h2 ⟨rfl, e2⟩
  have e02 := e1.trans e2
  cases hf : fewB l with
  | false =>
    simp only [go_sem]
    refine c_Lives.mono ?_
    rintro _ h3 ⟨rfl, e3⟩
    exact ⟨rfl, e02.trans e3⟩
  | true =>
    obtain ⟨hl40, hw20⟩ := few_of hf
    simp only [go_sem]
    refine newK_use fun bx h3 r3 e3 n3 => ?_
    have e03 := e02.trans e3
    have hv0 := hv
    obtain ⟨A, cap, rfl, hA⟩ := hv
    simp only [go_sem]
    refine loop_count l.length (fun k h' => k ≤ l.length ∧ Ext h h' ∧ ∃ M Z kept, IsLedger M Z h' (.pointer (some ⟨bx, 0, none⟩)) kept ∧ OrdI rise k kept ∧ ∀ b, M b ∨ Z b → h.size ≤ b)
      ⟨Nat.zero_le _, e03, _, _, [], ledger_new r3, ⟨Nat.zero_le _, fun a ha => absurd ha (by simp), List.Pairwise.nil, fun _ a ha => absurd ha (by simp), fun _ a ha => absurd ha (by simp)⟩,
        fun b hb => by rcases hb with hb | hb; rw [hb]; exact Nat.le_trans e02.1 n3; exact hb.elim⟩ ?_
    rintro k h4 again ρj ⟨hk, e4, M, Z, kept, L4, I4, n4⟩ hag
    simp only [go_sem]
    refine iteK_dec (fun hlt => ?_) (fun hge => ?_)
    · have hlt : k < l.length := by omega
      have wk : IntKind.i64.wrap ((k : Int) + 1) = (k : Int) + 1 := w64 (by omega) (by omega)
      rcases hA with rfl | ⟨b, o, rfl, hA⟩
      · simp at hlt
      obtain ⟨cs, hcs, hcell, hacc⟩ := hA k hlt
      obtain ⟨s, rfl, hs⟩ := isAcc_cells hacc
      simp only [idxV_nat hlt, vK_some]
      rw [ldsV_row _ 6 hcs fun j hj => e4.cell (hcell j hj), vK_some]
      have hs1 : oneCell s = true := by obtain ⟨_, _, rfl, _⟩ := hs; rfl
      refine var_new hcs (by repeat' (first | rfl | assumption | exact ones_nil | refine ones_cons ?_ ?_)) hcs fun b5 h5 r5 e5 n5 => ?_
      have e05 := e4.trans e5
      have L5 := L4.ext e5
      have b5L : ∀ b, M b ∨ Z b → b ≠ b5 := fun b hb hbb => by have := L4.lt hb; omega
      have b5o : h.size ≤ b5 := Nat.le_trans e4.1 n5
      have fin : ∀ (u : Value) (a : Acc) (h6 : Heap), IsAcc h6 u a → Fr (fun b => b = b5) h5 h6 → a.when_.length ≤ 20 → (rise = true → a.when_ = [(k : Int), k, k]) → (rise = false → a.wr = false) →
          FCall Try.prog F_ledger_Ledger_Add #[.pointer (some ⟨bx, 0, none⟩), u] h6 fun _ h7 => again [.int .i64 ((k : Int) + 1)] h7 := by
        intro u a h6 hu f6 hwl hr1 hr2
        have L6 := L5.fr f6 fun b _ hb hbb => b5L b hb hbb
        have e06 : Ext h h6 := e05.then_fr f6 fun b hb => by rw [hb]; exact b5o
        refine (c_Add L6 hu (by omega) (by have := I4.1; omega)).mono ?_
        rintro _ h7 ⟨rfl, M', Z', L7, f7, n7⟩
        have e07 : Ext h h7 := e06.then_fr f7 fun b hb => n4 b (.inl hb)
        refine hag h7 hlt ⟨hlt, e07, M', Z', _, L7, I4.step hwl hr1 hr2, fun b hb => ?_⟩
        rcases n7 b hb with h8 | h8 | h8
        · exact n4 b (.inl h8)
        · exact n4 b (.inr h8)
        · exact Nat.le_trans e06.1 h8
      cases rise with
      | true =>
        simp only [go_sem]
        refine rowK_use (c' := #[.int .i64 (k : Int), .int .i64 (k : Int), .int .i64 (k : Int)]) (by kernel_rfl) fun b6 h6 r6 e6 n6 => ?_
        refine st_cell (o := 1) (e6.row r5) (by simp) rfl fun h7 r7 u7 => ?_
        have r7 : h7[b5]? = some (.cells (List.toArray [.int .i64 l[k].who, .slice (some ⟨b6, 0, none⟩) 3 3, .int .i64 l[k].buf, .int .i64 l[k].lo, .int .i64 l[k].hi, .bool l[k].wr]) _ (0, 0)) := r7
        rw [lds_row r7 6 rfl, vK_some]
        have b65 : b6 ≠ b5 := by have := row_lt r5; omega
        simp only [go_sem, wk]
        refine fin _ ⟨l[k].who, [(k : Int), k, k], l[k].buf, l[k].lo, l[k].hi, l[k].wr⟩ h7 ⟨_, rfl, ints_row (l := [(k : Int), k, k]) (u7.row b65 r6)⟩ (e6.fr.trans u7.fr) (by simp) (fun _ => rfl) (fun h => by cases h)
      | false =>
        simp only [go_sem]
        refine st_cell (o := 5) r5 (by simp) rfl fun h7 r7 u7 => ?_
        have r7 : h7[b5]? = some (.cells (List.toArray [.int .i64 l[k].who, s, .int .i64 l[k].buf, .int .i64 l[k].lo, .int .i64 l[k].hi, .bool false]) _ (0, 0)) := r7
        rw [lds_row r7 6 rfl, vK_some]
        simp only [go_sem, wk]
        have e57 : Ext h h7 := e05.upd b5o u7
        refine fin _ ⟨l[k].who, l[k].when_, l[k].buf, l[k].lo, l[k].hi, false⟩ h7 ⟨_, rfl, hs.ext e57⟩ u7.fr (hw20 l[k] (List.getElem_mem hlt)) (fun h => by cases h) (fun _ => rfl)
    · refine (c_Races L4 (fun a ha => by have := I4.2.1 a ha; omega) (by have := I4.1; omega)).mono ?_
      rintro r h5 ⟨o5, e5, n5⟩
      have hp := I4.2.2.1
      rw [raceTo_none fun i j hi hj hij => List.pairwise_iff_getElem.1 hp i j hi hj hij] at o5
      obtain ⟨ra, rc, rfl⟩ := o5.isSl
      simp only [go_sem, List.length_nil]
      exact ⟨by simp, e4.trans e5⟩

theorem r_LedgerOrdered (h : Heap) (args : Array Value) (H : ArgsRd [.sl (.st tAcc) 64, .bool] h args.toList) : FCall Try.prog F_law20_LedgerOrdered args h fun r h' => r = .bool true ∧ Ext h h' := by
  obtain ⟨v, r, hr, ⟨x, hx⟩, u, r', hr', ⟨y, hy⟩, h0⟩ := H
  have h0 : r' = [] := h0
  subst h0 hr'
  have hy : [u] = [.bool y] := hy
  obtain rfl : u = .bool y := by simpa using hy
  obtain rfl : args = #[v, .bool y] := by cases args; simp_all
  obtain ⟨_, l', h1, h2, h3⟩ := accs_rd hx
  cases h1
  exact c_LedgerOrdered h2 (by omega)
end Go.Proofs.Ytmmcgbilnnaggaa
