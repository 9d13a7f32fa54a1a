/- How the ledger's arguments read; the rows' contracts. Conditions: none. -/
import Derived.Test.YtmmcgbilnnaggaaCc
import Derived.Test.YtmmcgbilnnaggaaRa
set_option linter.unusedVariables false
set_option linter.unusedSimpArgs false
namespace Go.Proofs.Ytmmcgbilnnaggaa
open Go Go.Crisp

theorem ints_rd {h : Heap} {cs : List Value} {z : Nat} {l : List Int} (H : Rd (.sl (.int .i64) z) h cs l) : ∃ v, cs = [v] ∧ Ints h v l := by
  obtain ⟨a, cap, rfl, _, _, _, hl⟩ := H
  refine ⟨_, rfl, a, cap, rfl, ?_⟩
  rcases hl with hl | ⟨b, o, ha, hl⟩
  · exact .inl (List.eq_nil_of_length_eq_zero hl)
  · refine .inr ⟨b, o, ha.resolve_left (by simp [TS.w]), fun i hi => ?_⟩
    obtain ⟨ds, _, hc, rfl, _⟩ := hl i hi
    have := hc 0 (by simp)
    simp only [TS.w, Nat.mul_one, Nat.add_zero, List.getElem_cons_zero] at this
    exact this

theorem ints_len {h : Heap} {cs : List Value} {e : TS} {z : Nat} {l : List e.T} (H : Rd (.sl e z) h cs l) : l.length * z ≤ 140737488351232 := by
  obtain ⟨a, cap, rfl, h1, _, h2, _⟩ := H
  exact Nat.le_trans (Nat.mul_le_mul_right z h1) h2

abbrev tAcc : TS := .pair (.int .i64) (.pair (.sl (.int .i64) 8) (.pair (.int .i64) (.pair (.int .i64) (.pair (.int .i64) (.pair .bool .unit)))))

/-- An access as an argument. -/
theorem acc_rd {h : Heap} {cs : List Value} {x : tAcc.T} (H : Rd tAcc h cs x) : IsAcc h (.agg cs.toArray) ⟨x.1, x.2.1, x.2.2.1, x.2.2.2.1, x.2.2.2.2.1, x.2.2.2.2.2.1⟩ ∧ cs.length = 6 ∧ List.length (α := Int) x.2.1 ≤ 9223372036854775807 := by
  have hl := H.length
  obtain ⟨c1, _, rfl, ⟨rfl, _⟩, c2, _, rfl, h2, c3, _, rfl, ⟨rfl, _⟩, c4, _, rfl, ⟨rfl, _⟩, c5, _, rfl, ⟨rfl, _⟩, c6, _, rfl, h6, h7⟩ := H
  obtain ⟨s, rfl, hs⟩ := ints_rd h2
  have h6 : c6 = [.bool x.2.2.2.2.2.1] := h6
  have h7 : _ = [] := h7
  subst h6 h7
  have : List.length (α := Int) x.2.1 * 8 ≤ 140737488351232 := ints_len h2
  exact ⟨⟨s, rfl, hs⟩, rfl, by omega⟩

theorem r_LedgerRace (h : Heap) (args : Array Value) (H : ArgsRd [.st tAcc, .st tAcc] h args.toList) : FCall Try.prog F_law20_LedgerRace args h fun r h' => r = .bool true ∧ Ext h h' := by
  obtain ⟨v, r, hr, ⟨x, cs, rfl, hx⟩, u, r', hr', ⟨y, ds, rfl, hy⟩, h0⟩ := H
  have h0 : r' = [] := h0
  subst h0 hr'
  obtain rfl : args = #[.agg cs, .agg ds] := by cases args; simp_all
  exact c_LedgerRace (acc_rd hx).1 (acc_rd hy).1
end Go.Proofs.Ytmmcgbilnnaggaa
