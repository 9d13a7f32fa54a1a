/- The keys of a map, collected, or sorted: the library's contracts, over the heap. Conditions: none. -/
import Derived.Test.YtmmcgbilnnaggaaMa
import Derived.Test.YtmmcgbilnnaggaaLy
import Derived.Test.YtmmcgbilnnaggaaKa
import Derived.Test.YtmmcgbilnnaggaaSh0
import Derived.Test.YtmmcgbilnnaggaaSh1
import Derived.Test.YtmmcgbilnnaggaaSh2
set_option linter.unusedVariables false
set_option linter.unusedSimpArgs false
set_option maxRecDepth 10000
namespace Go.Proofs.Ytmmcgbilnnaggaa
open Go Go.Crisp Go.MapKept Go.RowKit
attribute [local irreducible] rowK newK stK iteK vK qK drawK gK joinK loopK mkK appK cpyK

theorem own_of_row {w : World} {base : Nat} {e : TypeId} {v : Value} {xs : List Int} (H : w.ownsRow base e 1 v xs.length (xs.map encZ)) : OwnI w.heap v xs ∧ ∀ b, blk v b → base ≤ b := by
  obtain ⟨_, H⟩ := H
  rcases H with ⟨rfl, hn⟩ | ⟨g, cap, cur, rfl, hb, hg, hc, _, hs, ht⟩
  · have : xs = [] := List.eq_nil_of_length_eq_zero hn
    subst this
    exact ⟨.inl ⟨rfl, rfl, rfl⟩, fun b hb => hb.elim⟩
  · refine ⟨.inr ⟨g, cap, cur.toList.drop xs.length, e, rfl, hc, by simp, ?_, ?_⟩, fun b h => by rw [show b = g from h]; exact hb⟩
    · rw [Nat.mul_one] at ht
      rw [show xs.map vi = xs.map encZ from rfl, ← ht, List.take_append_drop, Array.length_toList]; exact hs
    · rw [Nat.mul_one] at ht
      rw [show xs.map vi = xs.map encZ from rfl, ← ht, List.take_append_drop, Array.toArray_toList]; exact hg
theorem below_ext {w w' : World} (H : Below w.heap.size w w') : Same w w' ∧ Ext w.heap w'.heap := ⟨⟨H.os, H.tape, H.output⟩, H.size, fun b hb => H.block b hb⟩

/-- What is read of a value: nothing. -/
def noR : Value → Option (DataW Unit × List MemPlace) := fun _ => some (.nil, [])
theorem insert_perm (x : Lit × DataW Unit) : ∀ l : List (Lit × DataW Unit), (DataW.insert x l).Perm (x :: l)
  | [] => List.Perm.refl _
  | y :: r => by
    unfold DataW.insert
    split
    · exact List.Perm.refl _
    · exact ((insert_perm x r).cons y).trans (List.Perm.swap x y r)
theorem foldr_perm : ∀ l : List (Lit × DataW Unit), (l.foldr DataW.insert []).Perm l
  | [] => List.Perm.refl _
  | x :: l => by
    rw [List.foldr_cons]
    exact (insert_perm x _).trans ((foldr_perm l).cons x)
theorem owns_map {P : Program} {k : TypeId} {w : World} {b : Nat} {kv : List (Int × Value)} (hk : P.underlying k = some (.int .i64)) (H : MapI w.heap b kv) (hw : ∀ p ∈ kv, (Lit.int .i64 p.1).wf = true) (hl : kv.length ≤ maxLen) :
    ∃ D : DataW Unit, w.ownsMap P k noR b kv.length D ∧ (intKeys D).Perm (kv.map Prod.fst) ∧ Go.Maps.size D = kv.length := by
  obtain ⟨es, c, hb, hs, he⟩ := H
  have hlen := he.length
  have hmem : ∀ x ∈ es.toList, ∃ j, x.key = .int .i64 j ∧ (Lit.int .i64 j).wf = true := fun x hx => by
    have : (x.key, x.val) ∈ kv.map fun p => (Value.int .i64 p.1, p.2) := by rw [← he]; exact List.mem_map.2 ⟨x, hx, rfl⟩
    obtain ⟨p, hp, hpe⟩ := List.mem_map.1 this
    exact ⟨p.1, (congrArg Prod.fst hpe).symm, hw p hp⟩
  have hrd : ∀ x ∈ es.toList, ∀ j, x.key = .int .i64 j → (Lit.int .i64 j).wf = true → WideElems.rd P k noR x = some (.int .i64 j, .nil) := fun x hx j hj hwf => by
    unfold WideElems.rd
    rw [hj]
    simp [keyOf, hk, mapKey, hwf, noR]
  refine ⟨.map ((es.toList.map (WideElems.rg P k noR)).foldr DataW.insert []), ⟨es, c, hb, ⟨by rw [← Array.length_toList, hlen]; exact hl, hs, fun x hx => ?_⟩, by rw [← Array.length_toList, hlen]; exact Nat.le_refl _, rfl⟩, ?_, ?_⟩
  · obtain ⟨j, hj, hwf⟩ := hmem x hx
    exact ⟨_, hrd x hx j hj hwf⟩
  · have h1 : (es.toList.map (WideElems.rg P k noR)).map (fun p => _root_.Go.intOf p.1) = kv.map Prod.fst := by
      have h2 : kv.map Prod.fst = (kv.map fun p => (Value.int .i64 p.1, p.2)).map fun q => match q.1 with | .int _ n => n | _ => 0 := by simp [List.map_map, Function.comp_def]
      rw [h2, ← he, List.map_map, List.map_map]
      refine List.map_congr_left fun x hx => ?_
      obtain ⟨j, hj, hwf⟩ := hmem x hx
      simp only [Function.comp_def]
      rw [WideElems.rg_of (hrd x hx j hj hwf), hj]
      rfl
    rw [← h1]
    exact (foldr_perm _).map _
  · show (List.foldr DataW.insert [] _).length = _
    rw [(foldr_perm _).length_eq, List.length_map, hlen]

theorem calls_wide {P : Program} {f : FuncId} {args : Array Value} {w : World} {n : Nat} {R R' : Ending → World → Prop} (H : CallsIn Fence.wide n P f args w R) (hr : ∀ e w', R e w' → R' e w') : Calls P f args w R' := (callsIn_wide.1 H).mono hr

/-- The keys of a map, in some order. -/
theorem c_Collect64 {h : Heap} {b1 b : Nat} {t : TypeId} {kv : List (Int × Value)} (r1 : h[b1]? = some (.cells #[.map (some b)] t (0, 0))) (hm : MapI h b kv) (hw : ∀ p ∈ kv, (Lit.int .i64 p.1).wf = true) (hl : kv.length ≤ 1000000) :
    FCall Try.prog F_slices_Collect_int64 #[.func (.func F_maps_Keys_map_int64_sl_int64_int64_sl_int64__c1) #[] #[.pointer (some ⟨b1, 0, none⟩)]] h fun r h' => ∃ ss : List Int, ss.Perm (kv.map Prod.fst) ∧ OwnI h' r ss ∧ Ext h h' ∧ ∀ k, blk r k → h.size ≤ k := by
  refine ⟨by kernel_rfl, fun w hh => ?_⟩
  subst hh
  obtain ⟨D, hD, hp, hs⟩ := owns_map (P := Try.prog) (k := (ren_lay_Keys64).t 26) lay_Keys64.t26 hm hw (by unfold maxLen; omega)
  have seq := AnyZI.keys_gives lay_Keys64 Fence.wide 3 trivial rfl (by omega) b1 b kv.length D w (row_lt r1) (show cellOf w.heap ⟨b1, 0, none⟩ = _ from by rw [cell_row r1]; rfl) hD
  have := AnyZI.collect_in lay_Collect64 Fence.wide 5 trivial trivial rfl (by omega) _ #[.pointer (some ⟨b1, 0, none⟩)] trivial (fun args w => run_callFunc (by kernel_rfl)) _ _ (by rw [hs]; unfold maxLen; omega) (by rw [hs]; omega) w seq
  refine calls_wide this ?_
  rintro e w' ⟨v, ss, rfl, hS, hrow, _, hB⟩
  obtain ⟨o, n⟩ := own_of_row hrow
  obtain ⟨s, e⟩ := below_ext hB
  exact ⟨v, rfl, s, ss, hS.trans hp, o, e, n⟩
end Go.Proofs.Ytmmcgbilnnaggaa
