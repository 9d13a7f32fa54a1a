/- The keys of a map of truths, sorted: the library's contracts, over the heap. Conditions: none. -/
import Derived.Test.YtmmcgbilnnaggaaMb
import Derived.Shelf.Slices.In.SortNone
set_option linter.unusedVariables false
set_option linter.unusedSimpArgs false
set_option maxRecDepth 10000
namespace Go.Proofs.Ytmmcgbilnnaggaa
open Go Go.Crisp Go.MapKept Go.RowKit
attribute [local irreducible] rowK newK stK iteK vK qK drawK gK joinK loopK mkK appK cpyK

abbrev sortI (l : List Int) : List Int := l.mergeSort fun x y => decide (x ≤ y)
theorem sorts_in (m : Nat) : AnyZI.SortsIn Try.prog ren_lay_Sorted Fence.wide m :=
  ⟨fun blk off cap ss W hH hb hs => callsIn_wide.2 (Any.slices_Sort_int lay_Sort blk off cap ss W hH hb hs), fun p cap W => callsIn_wide.2 (Any.slices_Sort_int_none lay_Sort p cap W)⟩

/-- The keys of a map, rising. -/
theorem c_SortedB {h : Heap} {b1 b : Nat} {t : TypeId} {kv : List (Int × Value)} (r1 : h[b1]? = some (.cells #[.map (some b)] t (0, 0))) (hm : MapI h b kv) (hw : ∀ p ∈ kv, (Lit.int .i64 p.1).wf = true) (hl : kv.length ≤ 1000000) :
    FCall Try.prog F_slices_Sorted_int #[.func (.func F_maps_Keys_map_int_bool_int_bool__c1) #[] #[.pointer (some ⟨b1, 0, none⟩)]] h fun r h' => ∃ ss : List Int, ss.Perm (kv.map Prod.fst) ∧ OwnI h' r (sortI ss) ∧ Ext h h' ∧ ∀ k, blk r k → h.size ≤ k := by
  refine ⟨by kernel_rfl, fun w hh => ?_⟩
  subst hh
  obtain ⟨D, hD, hp, hs⟩ := owns_map (P := Try.prog) (k := (ren_lay_KeysB).t 26) lay_KeysB.t26 hm hw (by unfold maxLen; omega)
  have seq := AnyZI.keys_gives lay_KeysB Fence.wide 3 trivial rfl (by omega) b1 b kv.length D w (row_lt r1) (show cellOf w.heap ⟨b1, 0, none⟩ = _ from by rw [cell_row r1]; rfl) hD
  have := AnyZI.sorted_in lay_Sorted Fence.wide 6 trivial trivial trivial trivial rfl (by omega) (sorts_in _) (fun args w => run_callFunc (by kernel_rfl)) _ #[.pointer (some ⟨b1, 0, none⟩)] trivial (fun args w => run_callFunc (by kernel_rfl)) _ _ (by rw [hs]; unfold maxLen; omega) (by rw [hs]; omega) w seq
  refine calls_wide this ?_
  rintro e w' ⟨v, ss, rfl, hS, hrow, _, hB⟩
  rw [← List.length_mergeSort (le := fun x y => decide (x ≤ y)) (l := ss)] at hrow
  obtain ⟨o, n⟩ := own_of_row hrow
  obtain ⟨s, e⟩ := below_ext hB
  exact ⟨v, rfl, s, ss, hS.trans hp, o, e, n⟩
theorem sortI_le (l : List Int) : (sortI l).Pairwise fun a b => a ≤ b := by
  have := List.pairwise_mergeSort (le := fun x y : Int => decide (x ≤ y)) (fun a b c h1 h2 => by simp only [decide_eq_true_eq] at *; omega) (fun a b => by simp only [Bool.or_eq_true, decide_eq_true_eq]; omega) l
  exact this.imp fun h => by simpa using h
theorem sortI_lt {l : List Int} (hn : l.Nodup) : (sortI l).Pairwise fun a b => a < b := by
  have h1 := sortI_le l
  have h2 : (sortI l).Nodup := (List.mergeSort_perm l _).nodup_iff.2 hn
  unfold List.Nodup at h2
  exact (h1.and h2).imp fun ⟨h3, h4⟩ => by omega
end Go.Proofs.Ytmmcgbilnnaggaa
