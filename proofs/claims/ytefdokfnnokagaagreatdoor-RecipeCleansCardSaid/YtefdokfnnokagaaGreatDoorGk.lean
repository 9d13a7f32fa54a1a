/- A row of numbers that is cloned. Conditions: none. -/
import Derived.Test.YtefdokfnnokagaaGreatDoorGo
import Derived.Test.YtefdokfnnokagaaGreatDoorShz
set_option linter.unusedVariables false
set_option linter.unusedSimpArgs false
set_option maxRecDepth 10000
namespace Go.Proofs.YtefdokfnnokagaaGreatDoor
open Go Go.Crisp
attribute [local irreducible] FCall rowK newK stK iteK vK qK drawK gK joinK loopK mkK appK cpyK nextStrK rangeStrK bsK

theorem binSl_nil (a : Option Addr) (n c : Nat) : binV .sl .eql (.slice a n c) (.slice none 0 0) = some (.bool a.isNone) := by cases a <;> rfl
theorem c_Clone64 {h : Heap} {Z : Nat → Prop} {v : Value} {l : List Int} (H : Rp.Sl rI Z h v l) (hl : l.length ≤ 1000000000) :
    FCall Tryz.prog F_slices_Clone_sl_int64_int64 #[v] h fun r h' => Rp.Sl rI (fun b => h.size ≤ b) h' r l ∧ Ext h h' := by
  apply ok_slices_Clone_sl_int64_int64
  unfold sh_slices_Clone_sl_int64_int64
  obtain ⟨ds, ⟨hl1, a, cap, rfl, hs⟩, hz, he⟩ := H
  rw [binSl_nil, vK_some]
  cases a with
  | none =>
    have : l = [] := by
      rcases hs with hs | ⟨b, o, h0, _⟩
      · subst hs
        have h2 : ([] : List Value).length = l.length * 1 := hl1
        exact List.eq_nil_of_length_eq_zero (by simpa using h2.symm)
      · cases h0
    subst this
    simp only [Option.isNone_none, go_sem]
    exact ⟨Rp.Sl.nil, Ext.refl _⟩
  | some a =>
    simp only [Option.isNone_some, go_sem]
    refine rowK_use (c' := #[]) rfl fun b h1 r1 e1 n1 => ?_
    have O : Rp.Ow rI (fun _ => False) h1 (.slice (some ⟨b, 0, none⟩) 0 0) [] := ⟨[], .inr ⟨b, 0, [], _, rfl, Nat.le_refl _, rfl, rfl, r1⟩, fun b hb hb' => hb', fun i hi => absurd hi (by simp)⟩
    have S1 : SlC 1 h1 (.slice (some a) l.length cap) l.length ds := SlC.ext ⟨hl1, some a, cap, rfl, hs⟩ e1
    refine Rp.app_ow (e := rI) (l := []) (l2 := l) O S1 (fun i hi => he i hi) rfl (by simp; omega) (by simp; omega) (fun b hb => hb.elim) fun v2 h2 O2 f2 n2 => ?_
    rw [List.nil_append] at O2
    have nb : ∀ k, blk (.slice (some ⟨b, 0, none⟩) 0 0) k → h.size ≤ k := fun k hk => by have : k = b := hk; omega
    refine ⟨O2.sl.mono fun k hk hz => ?_, e1.then_fr f2 nb⟩
    rcases hz with hz | hz
    · exact hz.elim
    · rcases n2 k hz with h3 | h3
      · exact nb k h3
      · exact Nat.le_trans e1.1 h3

end Go.Proofs.YtefdokfnnokagaaGreatDoor
