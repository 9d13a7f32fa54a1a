/- The ledger: what it is in memory, one access more, all pairs that race. Conditions: none. -/
import Derived.Test.YtmmcgbilnnaggaaLa
set_option linter.unusedVariables false
set_option linter.unusedSimpArgs false
namespace Go.Proofs.Ytmmcgbilnnaggaa
open Go Go.Crisp
attribute [local irreducible] FCall rowK newK stK iteK vK qK drawK gK joinK loopK mkK appK cpyK

/-- A ledger: accesses in a row of its own, their stamps in memory of its own. -/
structure LedgerAt (M Z : Nat → Prop) (h : Heap) (bx : Nat) (sl : Value) (t : TypeId) (l : List Acc) : Prop where
  var : h[bx]? = some (.cells #[sl] t (0, 0))
  own : Rp.Ow rAcc Z h sl l
  inM : M bx ∧ ∀ b, blk sl b → M b
  ap : ¬ blk sl bx
  lt : ∀ b, M b → b < h.size
  zlt : ∀ b, Z b → b < h.size ∧ ¬ M b
def IsLedger (M Z : Nat → Prop) (h : Heap) (v : Value) (l : List Acc) : Prop := ∃ bx sl t, v = .pointer (some ⟨bx, 0, none⟩) ∧ LedgerAt M Z h bx sl t l

theorem LedgerAt.fr {M Z Q : Nat → Prop} {h h' : Heap} {bx : Nat} {sl : Value} {t : TypeId} {l : List Acc} (H : LedgerAt M Z h bx sl t l) (f : Fr Q h h') (q : ∀ b, b < h.size → M b ∨ Z b → ¬ Q b) : LedgerAt M Z h' bx sl t l where
  var := f.row H.var (q bx (row_lt H.var) (.inl H.inM.1))
  own := H.own.fr f (fun b hb hz => q b hb (.inr hz)) fun b hb => q b (H.own.lt hb) (.inl (H.inM.2 b hb))
  inM := H.inM
  ap := H.ap
  lt := fun b hb => Nat.lt_of_lt_of_le (H.lt b hb) f.1
  zlt := fun b hb => ⟨Nat.lt_of_lt_of_le (H.zlt b hb).1 f.1, (H.zlt b hb).2⟩
theorem IsLedger.fr {M Z Q : Nat → Prop} {h h' : Heap} {v : Value} {l : List Acc} (H : IsLedger M Z h v l) (f : Fr Q h h') (q : ∀ b, b < h.size → M b ∨ Z b → ¬ Q b) : IsLedger M Z h' v l := by
  obtain ⟨bx, sl, t, rfl, L⟩ := H
  exact ⟨bx, sl, t, rfl, L.fr f q⟩
theorem IsLedger.ext {M Z : Nat → Prop} {h h' : Heap} {v : Value} {l : List Acc} (H : IsLedger M Z h v l) (e : Ext h h') : IsLedger M Z h' v l := H.fr (Q := fun _ => False) e.fr fun _ _ _ => id
theorem IsLedger.lt {M Z : Nat → Prop} {h : Heap} {v : Value} {l : List Acc} (H : IsLedger M Z h v l) {b : Nat} (hb : M b ∨ Z b) : b < h.size := by
  obtain ⟨bx, sl, t, rfl, L⟩ := H
  exact hb.elim (L.lt b) fun hz => (L.zlt b hz).1

def addA (l : List Acc) (a : Acc) : List Acc := if mayA a = true then l ++ [a] else l

theorem c_Add {M Z : Nat → Prop} {h : Heap} {v u : Value} {l : List Acc} {a : Acc} (H : IsLedger M Z h v l) (hu : IsAcc h u a) (ha : a.when_.length ≤ 4398046511104) (hl : l.length ≤ 1000000) :
    FCall Try.prog F_ledger_Ledger_Add #[v, u] h fun r h' => r = .bool (mayA a) ∧ ∃ M' Z', IsLedger M' Z' h' v (addA l a) ∧ Fr M h h' ∧ ∀ b, M' b ∨ Z' b → M b ∨ Z b ∨ h.size ≤ b := by
  obtain ⟨bx, sl, t, rfl, L⟩ := H
  obtain ⟨s, rfl, hs⟩ := hu
  apply ok_ledger_Ledger_Add
  unfold sh_ledger_Ledger_Add
  simp only [cells_agg]
  refine newK_use fun b1 h1 r1 e1 n1 => ?_
  rw [lds_row (l := [.int .i64 a.who, s, .int .i64 a.buf, .int .i64 a.lo, .int .i64 a.hi, .bool a.wr]) r1 6 rfl, vK_some]
  have A1 : IsAcc h1 (.agg #[.int .i64 a.who, s, .int .i64 a.buf, .int .i64 a.lo, .int .i64 a.hi, .bool a.wr]) a := ⟨s, rfl, hs.ext e1⟩
  refine (c_may A1).mono ?_
  rintro _ h2 ⟨rfl, e2⟩
  have e02 := e1.trans e2
  by_cases hm : mayA a = true
  · simp only [hm, go_sem]
    have r12 := e2.row r1
    have v2 := e02.row L.var
    refine drawK_of (fun hh => hh[bx]? = some (.cells #[sl] t (0, 0)) ∧ ldsV 6 hh (.pointer (some ⟨b1, 0, none⟩)) = some (.agg #[.int .i64 a.who, s, .int .i64 a.buf, .int .i64 a.lo, .int .i64 a.hi, .bool a.wr]))
      ⟨v2, lds_row (l := [.int .i64 a.who, s, .int .i64 a.buf, .int .i64 a.lo, .int .i64 a.hi, .bool a.wr]) r12 6 rfl⟩ ?_
    refine qK_val sl (fun hh S => by rw [cell_row S.1]; rfl) ?_
    refine qK_val _ (fun hh S => S.2) ?_
    refine (c_apart (A1.ext e2) ha).mono ?_
    rintro _ h3 ⟨ds, rfl, hds, e3⟩
    have e03 := e02.trans e3
    refine ⟨⟨e3.row v2, lds_row (l := [.int .i64 a.who, s, .int .i64 a.buf, .int .i64 a.lo, .int .i64 a.hi, .bool a.wr]) (e3.row r12) 6 rfl⟩, ?_⟩
    have hw6 : ds.length = 6 := rAcc.len hds
    refine rowK_use (Rp.fill_whole rfl hw6) fun b4 h4 r4 e4 n4 => ?_
    have e04 := e03.trans e4
    refine ⟨⟨e4.row (e3.row v2), e4.lds (lds_row (l := [.int .i64 a.who, s, .int .i64 a.buf, .int .i64 a.lo, .int .i64 a.hi, .bool a.wr]) (e3.row r12) 6 rfl)⟩, ?_⟩
    have S1 := Rp.SlC.single r4
    rw [hw6] at S1
    have o4 : Rp.Ow rAcc (fun b => Z b ∨ (h.size ≤ b ∧ b < h3.size)) h4 sl l := (L.own.ext e04).mono (fun b _ hb => .inl hb) fun b hb hz => by
      rcases hz with hz | hz
      · exact (L.zlt b hz).2 (L.inM.2 b hb)
      · have := L.own.lt hb; omega
    refine Rp.app_ow (e := rAcc) (l2 := [a]) o4 S1 (fun i hi => ?_) rfl (by simp; omega) (by simp; omega) (fun b hb => ?_) fun s' h5 o5 f5 n5 => ?_
    · have hi : i = 0 := by simpa using hi
      subst hi
      rw [show Rp.el rAcc.w ds 0 = ds from Rp.el_self hw6]
      exact rAcc.mono (rAcc.ext hds e4) fun b _ hb => .inr ⟨Nat.le_trans e02.1 hb.1, hb.2⟩
    · rcases hb with hb | hb
      · exact Nat.lt_of_lt_of_le (L.zlt b hb).1 e04.1
      · exact Nat.lt_of_lt_of_le hb.2 e4.1
    have v5 : h5[bx]? = some (.cells #[sl] t (0, 0)) := f5.row (e04.row L.var) L.ap
    have n1' : ¬ blk sl b1 := fun hb => by have := L.own.lt hb; omega
    refine ⟨⟨v5, lds_row (l := [.int .i64 a.who, s, .int .i64 a.buf, .int .i64 a.lo, .int .i64 a.hi, .bool a.wr]) (f5.row ((e3.trans e4).row r12) n1') 6 rfl⟩, ?_⟩
    refine st_cell v5 (by simp) o5.one fun h6 r6 u6 => ?_
    have r6 : h6[bx]? = some (.cells #[s'] t (0, 0)) := r6
    have hbx : ∀ b, blk s' b → b ≠ bx := fun b hb hbb => by
      rcases n5 b hb with h7 | h7
      · exact L.ap (hbb ▸ h7)
      · have := row_lt L.var; have := e04.1; omega
    have zbx : ∀ b, (Z b ∨ (h.size ≤ b ∧ b < h3.size)) → b ≠ bx := fun b hb hbb => by
      have := row_lt L.var
      rcases hb with hb | hb
      · exact (L.zlt b hb).2 (hbb ▸ L.inM.1)
      · omega
    have o6 := o5.fr u6.fr (fun b _ hb => zbx b hb) hbx
    refine ⟨trivial, fun b => b = bx ∨ blk s' b, fun b => Z b ∨ (h.size ≤ b ∧ b < h3.size), ⟨bx, s', t, rfl, ?_⟩, ?_, ?_⟩
    · rw [addA, if_pos hm]
      exact {
        var := r6, own := o6, inM := ⟨.inl rfl, fun b hb => .inr hb⟩, ap := fun hb => hbx bx hb rfl
        lt := fun b hb => by
          rcases hb with rfl | hb
          · exact row_lt r6
          · exact o6.lt hb
        zlt := fun b hb => by
          refine ⟨?_, fun hm => ?_⟩
          · have h7 : h4.size ≤ h6.size := by rw [u6.1]; exact f5.1
            rcases hb with hb | hb
            · have := (L.zlt b hb).1; have := e04.1; omega
            · have := e4.1; omega
          · rcases hm with hm | hm
            · exact zbx b hb hm
            · obtain ⟨_, _, hd, _⟩ := o6
              exact hd b hm hb }
    · refine (e04.fr.trans (f5.mono fun b _ hb => L.inM.2 b hb)).trans (u6.fr.mono fun b _ hb => ?_)
      rw [show b = bx from hb]; exact L.inM.1
    · rintro b (hb | hb)
      · rcases hb with rfl | hb
        · exact .inl L.inM.1
        · rcases n5 b hb with h7 | h7
          · exact .inl (L.inM.2 b h7)
          · exact .inr (.inr (Nat.le_trans e04.1 h7))
      · rcases hb with hb | hb
        · exact .inr (.inl hb)
        · exact .inr (.inr hb.1)
  · have hm : mayA a = false := by simpa using hm
    simp only [hm, go_sem]
    exact ⟨trivial, M, Z, ⟨bx, sl, t, rfl, by rw [addA, hm]; exact L.fr (Q := fun _ => False) e02.fr fun _ _ _ => id⟩, e02.fr, fun b hb => hb.elim .inl fun h => .inr (.inl h)⟩
end Go.Proofs.Ytmmcgbilnnaggaa
