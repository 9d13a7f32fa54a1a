/- Sorting that is stable (slices.SortStableFunc): rows of indices that are swapped, turned round, put in order. Conditions: none. -/
import Derived.Test.YtefdokfnnokagaaGreatDoorEg
import Derived.Test.YtefdokfnnokagaaGreatDoorTd
import Derived.Test.YtefdokfnnokagaaGreatDoorShz
set_option linter.unusedVariables false
set_option linter.unusedSimpArgs false
set_option maxRecDepth 10000
namespace Go.Proofs.YtefdokfnnokagaaGreatDoor
open Go Go.Crisp
attribute [local irreducible] FCall rowK newK stK iteK vK qK drawK gK joinK loopK mkK appK cpyK nextStrK rangeStrK bsK clK

abbrev iv (i : Nat) : Value := .int .i64 (i : Int)
/-- What two indices are compared by. -/
structure CmpOK (v f : Value) (P : Heap → Prop) (r : Nat → Int) (n : Nat) : Prop where
  call : ∀ {h : Heap} {a b : Nat} {K : Value → Heap → Prop}, P h → a < n → b < n → (∀ c : Int, (c < 0 ↔ r b < r a) → K (.int .i64 c) h) → clK Tryz.prog f #[iv a, iv b] h K
  fr : ∀ {h h' : Heap}, P h → Fr (blk v) h h' → P h'
/-- A row of indices of one's own. -/
structure IxRow (v : Value) (P : Heap → Prop) (n : Nat) (h : Heap) (l : List Nat) : Prop where
  own : Own 1 h v l.length (l.map iv)
  ok : P h
  small : l.length < 4611686018427387904
  below : ∀ x ∈ l, x < n
section
variable {v f : Value} {P : Heap → Prop} {r : Nat → Int} {n : Nat}
theorem IxRow.at {h : Heap} {l : List Nat} (H : IxRow v P n h l) {i : Nat} (hi : i < l.length) : ∃ p, idxV 1 v (iv i) = some p ∧ ldV h p = some (iv l[i]) := by
  obtain ⟨p, h1, h2, _⟩ := H.own.at1 (k := .i64) hi
  exact ⟨p, h1, by rw [h2, List.getElem_map]⟩
theorem IxRow.at_mid {h : Heap} {A B : List Nat} {x : Nat} (H : IxRow v P n h (A ++ x :: B)) {i : Nat} (hi : i = A.length) : ∃ p, idxV 1 v (iv i) = some p ∧ ldV h p = some (iv x) ∧ x < n := by
  subst hi
  obtain ⟨p, h1, h2⟩ := H.at (i := A.length) (by simp)
  exact ⟨p, h1, by rw [h2]; simp, H.below x (by simp)⟩
/-- Two of them change places. -/
theorem IxRow.swap (C : CmpOK v f P r n) {h : Heap} {A B D : List Nat} {x y : Nat} (H : IxRow v P n h (A ++ x :: (B ++ y :: D))) {i j : Nat} (hi : i = A.length) (hj : j = A.length + 1 + B.length) :
    ∃ p q, idxV 1 v (iv i) = some p ∧ idxV 1 v (iv j) = some q ∧ ldV h p = some (iv x) ∧ ldV h q = some (iv y) ∧ ∀ K : Value → Heap → Prop,
      (∀ h', IxRow v P n h' (A ++ y :: (B ++ x :: D)) → Fr (blk v) h h' → K undef h') →
        (stK 1 p (iv y) h fun _ h2 => stK 1 q (iv x) h2 K) ∧ (stK 1 q (iv x) h fun _ h2 => stK 1 p (iv y) h2 K) := by
  subst hi hj
  have l1 : A.length < (A ++ x :: (B ++ y :: D)).length := by simp
  have l2 : A.length + 1 + B.length < (A ++ x :: (B ++ y :: D)).length := by simp; omega
  obtain ⟨p, h1, h2, h3⟩ := H.own.at1 (k := .i64) l1
  obtain ⟨q, g1, g2, g3⟩ := H.own.at1 (k := .i64) l2
  have e1 : (A ++ x :: (B ++ y :: D))[A.length] = x := by simp
  have e2 : (A ++ x :: (B ++ y :: D))[A.length + 1 + B.length] = y := by
    apply Option.some.inj
    rw [← List.getElem?_eq_getElem, List.getElem?_append_right (by omega), show A.length + 1 + B.length - A.length = B.length + 1 by omega, List.getElem?_cons_succ, List.getElem?_append_right (by omega)]
    simp
  rw [List.getElem_map, e1] at h2
  rw [List.getElem_map, e2] at g2
  have fin : ∀ h', Own 1 h' v (A ++ x :: (B ++ y :: D)).length ((A ++ y :: (B ++ x :: D)).map iv) → Fr (blk v) h h' → IxRow v P n h' (A ++ y :: (B ++ x :: D)) := fun h' o f' =>
    ⟨by rw [show (A ++ y :: (B ++ x :: D)).length = (A ++ x :: (B ++ y :: D)).length by simp]; exact o, C.fr H.ok f', by have := H.small; simpa using this, fun z hz => H.below z (by
      simp only [List.mem_append, List.mem_cons] at hz ⊢
      rcases hz with h | h | h | h | h <;> simp [h])⟩
  have s1 : ((A ++ x :: (B ++ y :: D)).map iv).set A.length (iv y) = (A ++ y :: (B ++ y :: D)).map iv := by simp
  have s2 : ((A ++ y :: (B ++ y :: D)).map iv).set (A.length + 1 + B.length) (iv x) = (A ++ y :: (B ++ x :: D)).map iv := by
    rw [← List.map_set]
    congr 1
    rw [List.set_append_right _ _ (by omega), show A.length + 1 + B.length - A.length = B.length + 1 by omega, List.set_cons_succ, List.set_append_right _ _ (by omega)]
    simp
  have s3 : ((A ++ x :: (B ++ y :: D)).map iv).set (A.length + 1 + B.length) (iv x) = (A ++ x :: (B ++ x :: D)).map iv := by
    rw [← List.map_set]
    congr 1
    rw [List.set_append_right _ _ (by omega), show A.length + 1 + B.length - A.length = B.length + 1 by omega, List.set_cons_succ, List.set_append_right _ _ (by omega)]
    simp
  have s4 : ((A ++ x :: (B ++ x :: D)).map iv).set A.length (iv y) = (A ++ y :: (B ++ x :: D)).map iv := by simp
  refine ⟨p, q, h1, g1, h2, g2, fun K HK => ⟨?_, ?_⟩⟩
  · refine h3 _ _ rfl fun h2 o2 f2 z2 => ?_
    rw [s1] at o2
    obtain ⟨q', g1', _, g3'⟩ := o2.at1 (k := .i64) l2
    rw [g1] at g1'
    cases g1'
    refine g3' _ _ rfl fun h3 o3 f3 z3 => ?_
    rw [s2] at o3
    exact HK h3 (fin h3 o3 (f2.trans f3)) (f2.trans f3)
  · refine g3 _ _ rfl fun h2 o2 f2 z2 => ?_
    rw [s3] at o2
    obtain ⟨p', h1', _, h3'⟩ := o2.at1 (k := .i64) l1
    rw [h1] at h1'
    cases h1'
    refine h3' _ _ rfl fun h3 o3 f3 z3 => ?_
    rw [s4] at o3
    exact HK h3 (fin h3 o3 (f2.trans f3)) (f2.trans f3)
theorem nat_add (a b : Nat) (h : a + b ≤ 9223372036854775807) : IntKind.i64.wrap ((a : Int) + (b : Int)) = ((a + b : Nat) : Int) := by rw [w64 (by omega) (by omega)]; omega
theorem nat_sub (a b : Nat) (h : b ≤ a) (h2 : a ≤ 9223372036854775807) : IntKind.i64.wrap ((a : Int) - (b : Int)) = ((a - b : Nat) : Int) := by rw [w64 (by omega) (by omega)]; omega
theorem nat_add1 (a : Nat) (h : a + 1 ≤ 9223372036854775807) : IntKind.i64.wrap ((a : Int) + 1) = ((a + 1 : Nat) : Int) := by rw [w64 (by omega) (by omega)]; omega
theorem nat_sub1 (a : Nat) (h : 1 ≤ a) (h2 : a ≤ 9223372036854775807) : IntKind.i64.wrap ((a : Int) - 1) = ((a - 1 : Nat) : Int) := by rw [w64 (by omega) (by omega)]; omega

/-- Two parts of the same length change places. -/
theorem c_swapRange (C : CmpOK v f P r n) {h : Heap} {A U M V D : List Nat} (H : IxRow v P n h (A ++ U ++ M ++ V ++ D)) {a b k : Nat} (ha : a = A.length) (hb : b = A.length + U.length + M.length) (hU : U.length = k) (hV : V.length = k) :
    FCall Tryz.prog F_slices_swapRangeCmpFunc_int #[v, iv a, iv b, iv k, f] h fun _ h' => IxRow v P n h' (A ++ V ++ M ++ U ++ D) ∧ Fr (blk v) h h' := by
  apply ok_slices_swapRangeCmpFunc_int
  unfold sh_slices_swapRangeCmpFunc_int
  have hsm := H.small
  simp only [List.length_append] at hsm
  refine loop_g k 0 (fun i (_ : Unit) => [iv i]) (fun i _ h' => IxRow v P n h' (A ++ V.take i ++ (U.drop i ++ M ++ U.take i ++ (V.drop i ++ D))) ∧ Fr (blk v) h h') () rfl (Nat.zero_le _) ⟨by simpa using H, Fr.refl _ _⟩ fun i _ h1 again ρj _ hi ⟨H1, F1⟩ Hag => ?_
  try simp only [go_sem]
  refine iteK_dec (fun h0 => ?_) (fun h0 => ?_)
  · have hi' : i < k := by omega
    have dU : U.drop i = U[i] :: U.drop (i + 1) := List.drop_eq_getElem_cons (by omega)
    have dV : V.drop i = V[i] :: V.drop (i + 1) := List.drop_eq_getElem_cons (by omega)
    have tU : U.take (i + 1) = U.take i ++ [U[i]] := List.take_succ_eq_append_getElem (by omega)
    have tV : V.take (i + 1) = V.take i ++ [V[i]] := List.take_succ_eq_append_getElem (by omega)
    have H2 : IxRow v P n h1 ((A ++ V.take i) ++ U[i] :: ((U.drop (i + 1) ++ M ++ U.take i) ++ V[i] :: (V.drop (i + 1) ++ D))) := by
      rw [dU, dV] at H1
      simpa only [List.append_assoc, List.cons_append, List.nil_append] using H1
    obtain ⟨p, q, e1, e2, e3, e4, st⟩ := H2.swap C (i := a + i) (j := b + i) (by rw [List.length_append, List.length_take]; omega) (by simp only [List.length_append, List.length_take, List.length_drop]; omega)
    refine drawK_of (fun h' => h' = h1) rfl ?_
    rw [nat_add a i (by omega), nat_add b i (by omega)]
    simp only [go_sem, e1, e2]
    refine qK_val (iv V[i]) (fun h' e => by rw [e]; exact e4) ?_
    refine qK_val (iv U[i]) (fun h' e => by rw [e]; exact e3) ?_
    refine (st _ fun h3 H3 F3 => ?_).1
    rw [nat_add1 i (by omega)]
    refine Hag () h3 hi' ⟨?_, F1.trans F3⟩
    rw [tU, tV]
    simpa only [List.append_assoc, List.cons_append, List.nil_append] using H3
  · have : i = k := by omega
    subst this
    rw [List.take_of_length_le (by omega), List.take_of_length_le (by omega), List.drop_eq_nil_of_le (by omega), List.drop_eq_nil_of_le (by omega)] at H1
    exact ⟨by simpa using H1, F1⟩
/-- Two parts change places. -/
theorem c_rotate (C : CmpOK v f P r n) {h : Heap} {A U V D : List Nat} (H : IxRow v P n h (A ++ U ++ V ++ D)) {a m b : Nat} (ha : a = A.length) (hm : m = A.length + U.length) (hb : b = A.length + U.length + V.length) (hU : 0 < U.length) (hV : 0 < V.length) :
    FCall Tryz.prog F_slices_rotateCmpFunc_int #[v, iv a, iv m, iv b, f] h fun _ h' => IxRow v P n h' (A ++ V ++ U ++ D) ∧ Fr (blk v) h h' := by
  apply ok_slices_rotateCmpFunc_int
  unfold sh_slices_rotateCmpFunc_int
  have hsm := H.small
  simp only [List.length_append] at hsm
  simp only [binV_sub, vK_some]
  rw [nat_sub m a (by omega) (by omega), nat_sub b m (by omega) (by omega)]
  refine loopK_var (fun d xs h' => ∃ (P1 U1 V1 Q1 : List Nat), d = U1.length + V1.length ∧ xs = [iv U1.length, iv V1.length] ∧ 0 < U1.length ∧ 0 < V1.length ∧ IxRow v P n h' (P1 ++ U1 ++ V1 ++ Q1) ∧ Fr (blk v) h h' ∧ m = P1.length + U1.length ∧ P1 ++ V1 ++ U1 ++ Q1 = A ++ V ++ U ++ D)
    (U.length + V.length) ⟨A, U, V, D, rfl, by rw [show m - a = U.length by omega, show b - m = V.length by omega], hU, hV, H, Fr.refl _ _, hm, rfl⟩ ?_
  rintro d xs ρj h1 again ⟨P1, U1, V1, Q1, rfl, rfl, u0, v0, H1, F1, hm1, hg⟩ Hag
  have hsm1 := H1.small
  simp only [List.length_append] at hsm1
  simp only [ix_0, ix_1, binV_neq, vK_some]
  by_cases hne : U1.length = V1.length
  · have e : ((U1.length : Int) = (V1.length : Int)) = True := eq_true (by omega)
    simp only [go_sem, e]
    rw [nat_sub m U1.length (by omega) (by omega)]
    refine (c_swapRange C (A := P1) (U := U1) (M := []) (V := V1) (D := Q1) (k := U1.length) (by simpa using H1) (by omega) (by simp; omega) rfl hne.symm).mono fun w h2 ⟨H2, F2⟩ => ?_
    refine ⟨?_, F1.trans F2⟩
    rw [← hg]
    simpa using H2
  · have e : ((U1.length : Int) = (V1.length : Int)) = False := eq_false (by omega)
    simp only [go_sem, e]
    refine iteK_dec (fun h0 => ?_) (fun h0 => ?_)
    · rw [nat_sub m U1.length (by omega) (by omega)]
      have hsp : U1 = U1.take V1.length ++ U1.drop V1.length := (List.take_append_drop _ _).symm
      have l1 : (U1.take V1.length).length = V1.length := by rw [List.length_take]; omega
      have l2 : (U1.drop V1.length).length = U1.length - V1.length := by rw [List.length_drop]
      refine (c_swapRange C (A := P1) (U := U1.take V1.length) (M := U1.drop V1.length) (V := V1) (D := Q1) (k := V1.length) (by rw [List.append_assoc P1, ← hsp]; exact H1) (by omega) (by omega) l1 rfl).mono fun w h2 ⟨H2, F2⟩ => ?_
      try simp only [go_sem]
      rw [nat_sub U1.length V1.length (by omega) (by omega)]
      refine Hag _ _ (U1.length - V1.length + V1.length) (by omega) ⟨P1 ++ V1, U1.drop V1.length, U1.take V1.length, Q1, by rw [l1, l2], by rw [l1, l2], by omega, by omega, by simpa using H2, F1.trans F2, by rw [List.length_append]; omega, ?_⟩
      rw [← hg]
      simp only [List.append_assoc]
      rw [← List.append_assoc (U1.take _), ← hsp]
    · rw [nat_sub m U1.length (by omega) (by omega), nat_add m V1.length (by omega), nat_sub (m + V1.length) U1.length (by omega) (by omega)]
      have hsp : V1 = V1.take (V1.length - U1.length) ++ V1.drop (V1.length - U1.length) := (List.take_append_drop _ _).symm
      have l1 : (V1.take (V1.length - U1.length)).length = V1.length - U1.length := by rw [List.length_take]; omega
      have l2 : (V1.drop (V1.length - U1.length)).length = U1.length := by rw [List.length_drop]; omega
      refine (c_swapRange C (A := P1) (U := U1) (M := V1.take (V1.length - U1.length)) (V := V1.drop (V1.length - U1.length)) (D := Q1) (k := U1.length) (by
        have e : P1 ++ U1 ++ V1.take (V1.length - U1.length) ++ V1.drop (V1.length - U1.length) ++ Q1 = P1 ++ U1 ++ V1 ++ Q1 := by
          conv => rhs; rw [hsp]
          simp only [List.append_assoc]
        rw [e]; exact H1) (by omega) (by omega) rfl l2).mono fun w h2 ⟨H2, F2⟩ => ?_
      try simp only [go_sem]
      rw [nat_sub V1.length U1.length (by omega) (by omega)]
      refine Hag _ _ (U1.length + (V1.length - U1.length)) (by omega) ⟨P1, V1.drop (V1.length - U1.length), V1.take (V1.length - U1.length), U1 ++ Q1, by rw [l1, l2], by rw [l1, l2], by omega, by omega, by simpa using H2, F1.trans F2, by omega, ?_⟩
      rw [← hg]
      simp only [List.append_assoc]
      rw [← List.append_assoc (V1.take _), ← hsp]
end
end Go.Proofs.YtefdokfnnokagaaGreatDoor
