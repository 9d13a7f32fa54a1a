/- Sorting that is stable (slices.SortStableFunc): insertion, merging by turning a middle part round, the whole. Conditions: none. -/
import Derived.Test.YtefdokfnnokagaaGreatDoorVa
import Derived.Test.YtefdokfnnokagaaGreatDoorUc
set_option linter.unusedVariables false
set_option linter.unusedSimpArgs false
set_option maxRecDepth 10000
namespace Go.Proofs.YtefdokfnnokagaaGreatDoor
open Go Go.Crisp
attribute [local irreducible] FCall rowK newK stK iteK vK qK drawK gK joinK loopK mkK appK cpyK nextStrK rangeStrK bsK clK

theorem half_use {i j : Nat} {K : Value → Prop} (h : i + j < 9223372036854775808) : (vK (binV .i .add (iv i) (iv j)) fun v8 => vK (cviV .u64 v8) fun v9 => vK (binV .i .shr v9 (.int .u64 1)) fun v10 => vK (cviV .i64 v10) K) = K (iv ((i + j) / 2)) := by
  rw [binV_add, vK_some, nat_add i j (by omega), cviV_int, vK_some, u64_nat (by omega), show (1 : Int) = ((1 : Nat) : Int) from rfl, shr_u64 _ (by omega), vK_some, cviV_int, vK_some, w64 (by omega) (by omega)]
theorem iv_ix0 (i : Nat) (l : List Value) : ix (iv i :: l) 0 = iv i := rfl
section
variable {v f : Value} {P : Heap → Prop} {r : Nat → Int} {n : Nat}
theorem lead_iff {x y : Nat} (h : x < y) : lead r y x ↔ r x < r y := by unfold lead; omega
/-- What is put in among what is in order. -/
theorem put_in {S1 S2 : List Nat} {x : Nat} (hs : (S1 ++ S2).Pairwise (lead r)) (h1 : ∀ y ∈ S1, lead r y x) (h2 : ∀ y ∈ S2, lead r x y) : (S1 ++ x :: S2).Pairwise (lead r) := by
  rw [List.pairwise_append] at hs ⊢
  refine ⟨hs.1, List.pairwise_cons.2 ⟨h2, hs.2.1⟩, fun y hy z hz => ?_⟩
  rcases List.mem_cons.1 hz with rfl | hz
  · exact h1 y hy
  · exact hs.2.2 y hy z hz
theorem last_lead {S1 : List Nat} {y x : Nat} (hs : (S1 ++ [y]).Pairwise (lead r)) (h : lead r y x) : ∀ z ∈ S1 ++ [y], lead r z x := by
  rw [List.pairwise_append] at hs
  intro z hz
  rcases List.mem_append.1 hz with hz | hz
  · exact lead_trans (hs.2.2 z hz y (by simp)) h
  · rw [List.mem_singleton.1 hz]; exact h
theorem c_insertion (C : CmpOK v f P r n) {h : Heap} {A M D : List Nat} (H : IxRow v P n h (A ++ M ++ D)) {a b : Nat} (ha : a = A.length) (hb : b = A.length + M.length) (asc : M.Pairwise (· < ·)) :
    FCall Tryz.prog F_slices_insertionSortCmpFunc_int #[v, iv a, iv b, f] h fun _ h' => ∃ M' : List Nat, M'.Perm M ∧ M'.Pairwise (lead r) ∧ IxRow v P n h' (A ++ M' ++ D) ∧ Fr (blk v) h h' := by
  apply ok_slices_insertionSortCmpFunc_int
  unfold sh_slices_insertionSortCmpFunc_int
  have hsm := H.small
  simp only [List.length_append] at hsm
  rw [binV_add, vK_some, nat_add1 a (by omega)]
  refine loop_g (M.length - 1) 0 (fun k (_ : Unit) => [iv (a + 1 + k)]) (fun k _ h' => ∃ S : List Nat, S.Perm (M.take (k + 1)) ∧ S.Pairwise (lead r) ∧ IxRow v P n h' (A ++ S ++ M.drop (k + 1) ++ D) ∧ Fr (blk v) h h') () rfl (Nat.zero_le _)
    ⟨M.take 1, List.Perm.refl _, ?_, by rw [List.append_assoc A, List.take_append_drop]; exact H, Fr.refl _ _⟩ fun k _ h1 again ρj _ hk ⟨S, hp, hs, H1, F1⟩ Hag => ?_
  · cases M with
    | nil => simp
    | cons x M => simp
  simp only [ix_0, binV_lss, vK_some]
  refine iteK_dec (fun h0 => ?_) (fun h0 => ?_)
  · have hk1 : k + 1 < M.length := by omega
    have dM : M.drop (k + 1) = M[k + 1] :: M.drop (k + 1 + 1) := List.drop_eq_getElem_cons hk1
    have tM : M.take (k + 1 + 1) = M.take (k + 1) ++ [M[k + 1]] := List.take_succ_eq_append_getElem hk1
    have hSl : S.length = k + 1 := by rw [hp.length_eq, List.length_take]; omega
    have hlt : ∀ y ∈ S, y < M[k + 1] := fun y hy => by
      have := hp.mem_iff.1 hy
      obtain ⟨i, hi, rfl⟩ := List.mem_iff_getElem.1 this
      rw [List.length_take] at hi
      rw [List.getElem_take]
      exact List.pairwise_iff_getElem.1 asc i (k + 1) (by omega) hk1 (by omega)
    generalize M[k + 1] = x at *
    refine loopK_var (fun d xs h' => ∃ S1 S2 : List Nat, d = S1.length ∧ xs = [iv (a + S1.length)] ∧ S = S1 ++ S2 ∧ (∀ y ∈ S2, lead r x y) ∧ IxRow v P n h' (A ++ S1 ++ x :: (S2 ++ M.drop (k + 1 + 1) ++ D)) ∧ Fr (blk v) h h') S.length
      ⟨S, [], rfl, by rw [hSl]; congr 2; omega, by simp, by simp, by rw [dM] at H1; simpa only [List.append_assoc, List.cons_append, List.nil_append] using H1, F1⟩ ?_
    rintro d xs ρj2 h2 again2 ⟨S1, S2, rfl, rfl, rfl, hx, H2, F2⟩ Hag2
    simp only [ix_0, binV_gtr, vK_some]
    have Done : (∀ y ∈ S1, lead r y x) → IxRow v P n h2 (A ++ S1 ++ x :: (S2 ++ M.drop (k + 1 + 1) ++ D)) → Fr (blk v) h h2 → again [.int .i64 (IntKind.i64.wrap (((a + 1 + k : Nat) : Int) + 1))] h2 := by
      intro g1 g2 g3
      rw [nat_add1 (a + 1 + k) (by omega), show a + 1 + k + 1 = a + 1 + (k + 1) by omega]
      refine Hag () h2 (by omega) ⟨S1 ++ x :: S2, ?_, put_in hs g1 hx, by simpa only [List.append_assoc, List.cons_append, List.nil_append] using g2, g3⟩
      rw [tM]
      exact List.perm_middle.trans ((List.Perm.cons _ hp).trans (List.perm_append_comm (l₁ := [x])))
    refine drawK_of (fun h' => h' = h2) rfl ?_
    rcases List.eq_nil_or_concat S1 with rfl | ⟨S1, y, rfl⟩
    · have e : ((a : Int) < ((a + ([] : List Nat).length : Nat) : Int)) = False := eq_false (by simp)
      simp only [go_sem, e]
      refine qK_val undef (fun _ _ => rfl) ?_
      refine qK_val undef (fun _ _ => rfl) ?_
      try simp only [go_sem]
      exact Done (by simp) H2 F2
    · have hyl : (S1.concat y).length = S1.length + 1 := by simp
      have hyx : y < x := hlt y (by simp)
      have hsm2 := H2.small
      simp only [List.length_append, List.length_cons, hyl] at hsm2
      have H3 : IxRow v P n h2 ((A ++ S1) ++ y :: ([] ++ x :: (S2 ++ M.drop (k + 1 + 1) ++ D))) := by
        simpa only [List.concat_eq_append, List.append_assoc, List.cons_append, List.nil_append] using H2
      obtain ⟨p, q, e1, e2, e3, e4, st⟩ := H3.swap C (i := a + S1.length) (j := a + (S1.length + 1)) (by rw [List.length_append]; omega) (by rw [List.length_append, List.length_nil]; omega)
      have e : ((a : Int) < ((a + (S1.length + 1) : Nat) : Int)) = True := eq_true (by omega)
      have es : IntKind.i64.wrap (((a + (S1.length + 1) : Nat) : Int) - 1) = ((a + S1.length : Nat) : Int) := by rw [nat_sub1 _ (by omega) (by omega)]; congr 1
      simp only [go_sem, e, hyl, es, e1, e2]
      refine qK_val (iv x) (fun h' e => by rw [e]; exact e4) ?_
      refine qK_val (iv y) (fun h' e => by rw [e]; exact e3) ?_
      refine C.call H2.ok (H2.below x (by simp)) (H2.below y (by simp)) fun c hc => ?_
      simp only [go_sem]
      have hsS : (S1 ++ [y]).Pairwise (lead r) := by
        have := (List.pairwise_append.1 hs).1
        simpa only [List.concat_eq_append] using this
      refine iteK_dec (fun hcl => ?_) (fun hcl => ?_)
      · refine drawK_of (fun h' => h' = h2) rfl ?_
        try simp only [go_sem, e1, e2]
        refine qK_val (iv y) (fun h' e => by rw [e]; exact e3) ?_
        refine qK_val (iv x) (fun h' e => by rw [e]; exact e4) ?_
        refine (st _ fun h3 H4 F3 => ?_).2
        refine Hag2 _ h3 S1.length (by omega) ⟨S1, y :: S2, rfl, rfl, by simp [List.concat_eq_append], fun z hz => ?_, by simpa only [List.append_assoc, List.cons_append, List.nil_append] using H4, F2.trans F3⟩
        rcases List.mem_cons.1 hz with rfl | hz
        · exact (lead_iff hyx).2 (hc.1 hcl)
        · exact hx z hz
      · refine Done ?_ H2 F2
        have hl : lead r y x := by
          have : ¬ lead r x y := fun g => hcl (hc.2 ((lead_iff hyx).1 g))
          exact (lead_total r (show y ≠ x by omega)).resolve_right this
        have := last_lead hsS hl
        simpa only [List.concat_eq_append] using this
  · have hle : M.length ≤ k + 1 := by omega
    refine ⟨S, ?_, hs, ?_, F1⟩
    · rw [List.take_of_length_le hle] at hp; exact hp
    · rw [List.drop_eq_nil_of_le hle] at H1; simpa using H1
theorem perm_mid {L1 R1 : List Nat} {x : Nat} : (R1 ++ x :: L1).Perm ([x] ++ (R1 ++ L1)) := List.perm_middle
/-- Where a search ends. -/
theorem c_symMerge (C : CmpOK v f P r n) : ∀ (N : Nat) {h : Heap} {A L R D : List Nat} (H : IxRow v P n h (A ++ L ++ R ++ D)) {a m b : Nat} (ha : a = A.length) (hm : m = A.length + L.length) (hb : b = A.length + L.length + R.length)
    (hL : 0 < L.length) (hR : 0 < R.length) (sL : L.Pairwise (lead r)) (sR : R.Pairwise (lead r)) (hlt : ∀ x ∈ L, ∀ y ∈ R, x < y) (hN : L.length + R.length ≤ N),
    FCall Tryz.prog F_slices_symMergeCmpFunc_int #[v, iv a, iv m, iv b, f] h fun _ h' => ∃ S : List Nat, S.Perm (L ++ R) ∧ S.Pairwise (lead r) ∧ IxRow v P n h' (A ++ S ++ D) ∧ Fr (blk v) h h' := by
  intro N
  induction N with
  | zero => intro h A L R D H a m b ha hm hb hL hR sL sR hlt hN; omega
  | succ N ih =>
  intro h A L R D H a m b ha hm hb hL hR sL sR hlt hN
  apply ok_slices_symMergeCmpFunc_int
  unfold sh_slices_symMergeCmpFunc_int
  have hsm := H.small
  simp only [List.length_append] at hsm
  -- elements of the two parts
  have hAt : ∀ {h' : Heap}, IxRow v P n h' (A ++ L ++ R ++ D) → ∀ k (hk : k < L.length), ∃ p, idxV 1 v (iv (a + k)) = some p ∧ ldV h' p = some (iv L[k]) ∧ L[k] < n := fun H' k hk => by
    obtain ⟨p, e1, e2⟩ := H'.at (i := a + k) (by simp only [List.length_append]; omega)
    have e : (A ++ L ++ R ++ D)[a + k]'(by simp only [List.length_append]; omega) = L[k] := by
      apply Option.some.inj
      rw [← List.getElem?_eq_getElem, List.append_assoc, List.append_assoc, List.getElem?_append_right (by omega), show a + k - A.length = k by omega, List.getElem?_append_left hk, List.getElem?_eq_getElem hk]
    exact ⟨p, e1, by rw [e2, e], H'.below _ (by simp [List.getElem_mem])⟩
  have hAtR : ∀ {h' : Heap}, IxRow v P n h' (A ++ L ++ R ++ D) → ∀ k (hk : k < R.length), ∃ p, idxV 1 v (iv (m + k)) = some p ∧ ldV h' p = some (iv R[k]) ∧ R[k] < n := fun H' k hk => by
    obtain ⟨p, e1, e2⟩ := H'.at (i := m + k) (by simp only [List.length_append]; omega)
    have e : (A ++ L ++ R ++ D)[m + k]'(by simp only [List.length_append]; omega) = R[k] := by
      apply Option.some.inj
      rw [← List.getElem?_eq_getElem, List.append_assoc, List.getElem?_append_right (by simp only [List.length_append]; omega), List.length_append, show m + k - (A.length + L.length) = k by omega, List.getElem?_append_left hk, List.getElem?_eq_getElem hk]
    exact ⟨p, e1, by rw [e2, e], H'.below _ (by simp [List.getElem_mem])⟩
  simp only [binV_sub, binV_eql, vK_some]
  rw [nat_sub m a (by omega) (by omega), nat_sub b m (by omega) (by omega)]
  refine iteK_dec (fun h1 => ?_) (fun h1 => ?_)
  · -- one on the left
    have hL1 : L.length = 1 := by omega
    obtain ⟨x, rfl⟩ := List.length_eq_one_iff.1 hL1
    refine loopK_var (fun d xs h' => h' = h ∧ ∃ i j : Nat, d = j - i ∧ xs = [iv (m + i), iv (m + j)] ∧ i ≤ j ∧ j ≤ R.length ∧ (∀ h0 : 0 < i, ∀ hi : i - 1 < R.length, lead r R[i - 1] x) ∧ (∀ hj : j < R.length, ¬ lead r R[j] x)) R.length
      ⟨rfl, 0, R.length, rfl, by rw [show b = m + R.length by omega]; rfl, by omega, Nat.le_refl _, by omega, by omega⟩ ?_
    rintro d xs ρj h' again ⟨hh, i, j, rfl, rfl, hij, hj, c1, c2⟩ Hag
    subst hh
    simp only [ix_0, ix_1, binV_lss, vK_some]
    refine iteK_dec (fun h2 => ?_) (fun h2 => ?_)
    · rw [half_use (by omega), show (m + i + (m + j)) / 2 = m + (i + j) / 2 by omega]
      have hk : (i + j) / 2 < R.length := by omega
      obtain ⟨p, e1, e2, b1⟩ := hAtR H ((i + j) / 2) hk
      obtain ⟨q, g1, g2, b2⟩ := hAt H 0 (by omega)
      simp only [Nat.add_zero, List.getElem_cons_zero] at g1 g2 b2
      refine drawK_of (fun h2 => h2 = h') rfl ?_
      simp only [e1, g1, vK_some]
      refine qK_val _ (fun h2 e => by rw [e]; exact e2) ?_
      refine qK_val _ (fun h2 e => by rw [e]; exact g2) ?_
      refine C.call H.ok b1 b2 fun c hc => ?_
      have hxy : x < R[(i + j) / 2] := hlt x (by simp) _ (List.getElem_mem _)
      try simp only [go_sem]
      refine iteK_dec (fun h3 => ?_) (fun h3 => ?_)
      · rw [nat_add1 _ (by omega)]
        refine Hag _ _ (j - ((i + j) / 2 + 1)) (by omega) ⟨rfl, (i + j) / 2 + 1, j, rfl, rfl, by omega, hj, fun _ _ => ?_, c2⟩
        exact (lead_iff hxy).2 (hc.1 h3)
      · refine Hag _ _ ((i + j) / 2 - i) (by omega) ⟨rfl, i, (i + j) / 2, rfl, rfl, by omega, by omega, c1, fun _ g => h3 (hc.2 ((lead_iff hxy).1 g))⟩
    · have hij2 : i = j := by omega
      subst hij2
      -- it goes to its place
      refine loop_g i 0 (fun c (_ : Unit) => [iv (a + c)]) (fun c _ h2 => IxRow v P n h2 (A ++ R.take c ++ x :: (R.drop c ++ D)) ∧ Fr (blk v) h' h2) () rfl (Nat.zero_le _) ⟨by simpa using H, Fr.refl _ _⟩ fun c _ h2 again2 ρj2 _ hc ⟨H2, F2⟩ Hag2 => ?_
      simp only [ix_0, binV_sub, binV_lss, vK_some]
      rw [nat_sub1 _ (by omega) (by omega)]
      have lA : A.length + [x].length = A.length + 1 := rfl
      refine iteK_dec (fun h3 => ?_) (fun h3 => ?_)
      · have hci : c < i := by omega
        have dR : R.drop c = R[c] :: R.drop (c + 1) := List.drop_eq_getElem_cons (by omega)
        have tR : R.take (c + 1) = R.take c ++ [R[c]] := List.take_succ_eq_append_getElem (by omega)
        have H3 : IxRow v P n h2 ((A ++ R.take c) ++ x :: ([] ++ R[c] :: (R.drop (c + 1) ++ D))) := by
          rw [dR] at H2
          simpa only [List.append_assoc, List.cons_append, List.nil_append] using H2
        obtain ⟨p, q, e1, e2, e3, e4, st⟩ := H3.swap C (i := a + c) (j := a + c + 1) (by rw [List.length_append, List.length_take]; omega) (by rw [List.length_append, List.length_take, List.length_nil]; omega)
        refine drawK_of (fun h3 => h3 = h2) rfl ?_
        rw [binV_add, vK_some, nat_add1 _ (by omega)]
        simp only [go_sem, e1, e2]
        refine qK_val _ (fun h3 e => by rw [e]; exact e4) ?_
        refine qK_val _ (fun h3 e => by rw [e]; exact e3) ?_
        refine (st _ fun h3 H4 F3 => ?_).1
        try rw [nat_add1 _ (by omega)]
        refine Hag2 () h3 hci ⟨?_, F2.trans F3⟩
        rw [tR]
        simpa only [List.append_assoc, List.cons_append, List.nil_append] using H4
      · have : c = i := by omega
        subst this
        refine ⟨R.take c ++ x :: R.drop c, ?_, ?_, by simpa only [List.append_assoc, List.cons_append, List.nil_append] using H2, F2⟩
        · refine List.perm_middle.trans ?_
          rw [List.take_append_drop]
          exact List.Perm.refl _
        · refine put_in (by rw [List.take_append_drop]; exact sR) (fun y hy => ?_) (fun y hy => ?_)
          · obtain ⟨k, hk, rfl⟩ := List.mem_iff_getElem.1 hy
            rw [List.length_take] at hk
            rw [List.getElem_take]
            exact sorted_le (lt := lead r) lead_trans sR (i := k) (j := c - 1) (by omega) (by omega) (c1 (by omega) (by omega))
          · obtain ⟨k, hk, rfl⟩ := List.mem_iff_getElem.1 hy
            rw [List.length_drop] at hk
            rw [List.getElem_drop]
            have hx : lead r x R[c] := (lead_total r (show x ≠ R[c] by have := hlt x (by simp) _ (List.getElem_mem (l := R) (n := c) (by omega)); omega)).resolve_right (c2 (by omega))
            exact sorted_ge (lt := lead r) lead_trans sR (i := c) (j := c + k) (by omega) (by omega) hx
  refine iteK_dec (fun h2 => ?_) (fun h2 => ?_)
  · -- one on the right
    have hR1 : R.length = 1 := by omega
    obtain ⟨y, rfl⟩ := List.length_eq_one_iff.1 hR1
    refine loopK_var (fun d xs h' => h' = h ∧ ∃ i j : Nat, d = j - i ∧ xs = [iv (a + i), iv (a + j)] ∧ i ≤ j ∧ j ≤ L.length ∧ (∀ h0 : 0 < i, ∀ hi : i - 1 < L.length, lead r L[i - 1] y) ∧ (∀ hj : j < L.length, ¬ lead r L[j] y)) L.length
      ⟨rfl, 0, L.length, rfl, by rw [show m = a + L.length by omega]; rfl, by omega, Nat.le_refl _, by omega, by omega⟩ ?_
    rintro d xs ρj h' again ⟨hh, i, j, rfl, rfl, hij, hj, c1, c2⟩ Hag
    subst hh
    simp only [ix_0, ix_1, binV_lss, vK_some]
    refine iteK_dec (fun h3 => ?_) (fun h3 => ?_)
    · rw [half_use (by omega), show (a + i + (a + j)) / 2 = a + (i + j) / 2 by omega]
      have hk : (i + j) / 2 < L.length := by omega
      obtain ⟨p, e1, e2, b1⟩ := hAt H ((i + j) / 2) hk
      obtain ⟨q, g1, g2, b2⟩ := hAtR H 0 (by simp)
      simp only [Nat.add_zero, List.getElem_cons_zero] at g1 g2 b2
      refine drawK_of (fun h2 => h2 = h') rfl ?_
      simp only [e1, g1, vK_some]
      refine qK_val _ (fun h2 e => by rw [e]; exact g2) ?_
      refine qK_val _ (fun h2 e => by rw [e]; exact e2) ?_
      refine C.call H.ok b2 b1 fun c hc => ?_
      have hxy : L[(i + j) / 2] < y := hlt _ (List.getElem_mem _) y (by simp)
      simp only [go_sem]
      refine iteK_dec (fun h4 => ?_) (fun h4 => ?_)
      · rw [nat_add1 _ (by omega)]
        refine Hag _ _ (j - ((i + j) / 2 + 1)) (by omega) ⟨rfl, (i + j) / 2 + 1, j, rfl, rfl, by omega, hj, fun _ _ => ?_, c2⟩
        have e : (i + j) / 2 + 1 - 1 = (i + j) / 2 := by omega
        simp only [e]
        exact (lead_total r (by omega)).resolve_right fun g => h4 (hc.2 ((lead_iff hxy).1 g))
      · refine Hag _ _ ((i + j) / 2 - i) (by omega) ⟨rfl, i, (i + j) / 2, rfl, rfl, by omega, by omega, c1, fun _ g => ?_⟩
        exact lead_asymm g ((lead_iff hxy).2 (hc.1 (Decidable.of_not_not h4)))
    · have hij2 : i = j := by omega
      subst hij2
      refine loopK_var (fun d xs h2 => ∃ c : Nat, d = c ∧ xs = [iv (a + c)] ∧ i ≤ c ∧ c ≤ L.length ∧ IxRow v P n h2 (A ++ L.take c ++ y :: (L.drop c ++ D)) ∧ Fr (blk v) h' h2) L.length
        ⟨L.length, rfl, by rw [show m = a + L.length by omega], hj, Nat.le_refl _, by rw [List.take_of_length_le (Nat.le_refl _), List.drop_eq_nil_of_le (Nat.le_refl _)]; simpa using H, Fr.refl _ _⟩ ?_
      rintro d xs ρj2 h2 again2 ⟨c, hdc, rfl, hic, hcL, H2, F2⟩ Hag2
      have hdc := hdc.symm
      subst hdc
      simp only [ix_0, binV_gtr, vK_some]
      refine iteK_dec (fun h4 => ?_) (fun h4 => ?_)
      · obtain ⟨c, rfl⟩ : ∃ e, c = e + 1 := ⟨c - 1, by omega⟩
        have dL : L.drop c = L[c] :: L.drop (c + 1) := List.drop_eq_getElem_cons (by omega)
        have tL : L.take (c + 1) = L.take c ++ [L[c]] := List.take_succ_eq_append_getElem (by omega)
        have H3 : IxRow v P n h2 ((A ++ L.take c) ++ L[c] :: ([] ++ y :: (L.drop (c + 1) ++ D))) := by
          rw [tL] at H2
          simpa only [List.append_assoc, List.cons_append, List.nil_append] using H2
        obtain ⟨p, q, e1, e2, e3, e4, st⟩ := H3.swap C (i := a + c) (j := a + (c + 1)) (by rw [List.length_append, List.length_take]; omega) (by rw [List.length_append, List.length_take, List.length_nil]; omega)
        have es : IntKind.i64.wrap (((a + (c + 1) : Nat) : Int) - 1) = ((a + c : Nat) : Int) := by rw [nat_sub1 _ (by omega) (by omega)]; congr 1
        refine drawK_of (fun h3 => h3 = h2) rfl ?_
        simp only [go_sem, es, e1, e2]
        refine qK_val _ (fun h3 e => by rw [e]; exact e3) ?_
        refine qK_val _ (fun h3 e => by rw [e]; exact e4) ?_
        refine (st _ fun h3 H4 F3 => ?_).2
        refine Hag2 _ h3 c (by omega) ⟨c, rfl, rfl, by omega, by omega, ?_, F2.trans F3⟩
        rw [dL]
        simpa only [List.append_assoc, List.cons_append, List.nil_append] using H4
      · have : c = i := by omega
        subst this
        refine ⟨L.take c ++ y :: L.drop c, ?_, ?_, by simpa only [List.append_assoc, List.cons_append, List.nil_append] using H2, F2⟩
        · refine List.perm_middle.trans ?_
          rw [List.take_append_drop]
          exact List.perm_append_comm (l₁ := [y])
        · refine put_in (by rw [List.take_append_drop]; exact sL) (fun z hz => ?_) (fun z hz => ?_)
          · obtain ⟨k, hk, rfl⟩ := List.mem_iff_getElem.1 hz
            rw [List.length_take] at hk
            rw [List.getElem_take]
            exact sorted_le (lt := lead r) lead_trans sL (i := k) (j := c - 1) (by omega) (by omega) (c1 (by omega) (by omega))
          · obtain ⟨k, hk, rfl⟩ := List.mem_iff_getElem.1 hz
            rw [List.length_drop] at hk
            rw [List.getElem_drop]
            have hx : lead r y L[c] := (lead_total r (show y ≠ L[c] by have := hlt _ (List.getElem_mem (l := L) (n := c) (by omega)) y (by simp); omega)).resolve_right (c2 (by omega))
            exact sorted_ge (lt := lead r) lead_trans sL (i := c) (j := c + k) (by omega) (by omega) hx
  -- cut in the middle
  rw [half_use (by omega)]
  obtain ⟨mid, hmid⟩ : ∃ mid, mid = (a + b) / 2 := ⟨_, rfl⟩
  rw [← hmid, binV_add, vK_some, nat_add mid m (by omega)]
  obtain ⟨s0, hs0⟩ : ∃ s0, s0 = if mid < m then mid + m - b else a := ⟨_, rfl⟩
  obtain ⟨r0, hr0⟩ : ∃ r0, r0 = if mid < m then mid else m := ⟨_, rfl⟩
  have hs0' : (mid < m → s0 = mid + m - b) ∧ (¬ mid < m → s0 = a) := ⟨fun h => by rw [hs0, if_pos h], fun h => by rw [hs0, if_neg h]⟩
  have hr0' : (mid < m → r0 = mid) ∧ (¬ mid < m → r0 = m) := ⟨fun h => by rw [hr0, if_pos h], fun h => by rw [hr0, if_neg h]⟩
  clear hs0 hr0
  refine joinK_intro (fun xs h' => h' = h ∧ xs = [iv s0, iv r0]) ?_ ?_
  · rw [binV_gtr, vK_some]
    refine iteK_dec (fun h3 => ?_) (fun h3 => ?_)
    · rw [binV_sub, vK_some, nat_sub (mid + m) b (by omega) (by omega)]
      exact ⟨rfl, by rw [hs0'.1 (by omega), hr0'.1 (by omega)]⟩
    · exact ⟨rfl, by rw [hs0'.2 (by omega), hr0'.2 (by omega)]⟩
  rintro xs ρj h' ⟨hh, rfl⟩
  subst hh
  simp only [ix_0, ix_1]
  rw [binV_sub, vK_some, nat_sub1 (mid + m) (by omega) (by omega)]
  have hb0 : a ≤ s0 ∧ s0 ≤ r0 ∧ r0 ≤ m ∧ r0 ≤ mid ∧ mid + m - b ≤ s0 := by
    by_cases h3 : mid < m
    · have e1 := hs0'.1 h3
      have e2 := hr0'.1 h3
      omega
    · have e1 := hs0'.2 h3
      have e2 := hr0'.2 h3
      omega
  -- which ones come ahead
  have cmpAt : ∀ c : Nat, s0 ≤ c → c < r0 → ∃ (h1 : c - a < L.length) (h2 : mid - 1 - c < R.length), ∃ p q, idxV 1 v (iv c) = some p ∧ ldV h' p = some (iv L[c - a]) ∧ idxV 1 v (iv (mid + m - 1 - c)) = some q ∧ ldV h' q = some (iv R[mid - 1 - c]) ∧ L[c - a] < n ∧ R[mid - 1 - c] < n := by
    intro c h1 h2
    have l1 : c - a < L.length := by omega
    have l2 : mid - 1 - c < R.length := by omega
    obtain ⟨p, e1, e2, b1⟩ := hAt H (c - a) l1
    obtain ⟨q, g1, g2, b2⟩ := hAtR H (mid - 1 - c) l2
    rw [show a + (c - a) = c by omega] at e1
    rw [show m + (mid - 1 - c) = mid + m - 1 - c by omega] at g1
    exact ⟨l1, l2, p, q, e1, e2, g1, g2, b1, b2⟩
  refine loopK_var (fun d xs h2 => h2 = h' ∧ ∃ i j : Nat, d = j - i ∧ xs = [iv i, iv j] ∧ s0 ≤ i ∧ i ≤ j ∧ j ≤ r0 ∧ (∀ h0 : s0 < i, ∀ (g1 : i - 1 - a < L.length) (g2 : mid - i < R.length), lead r L[i - 1 - a] R[mid - i]) ∧ (j < r0 → ∀ (g1 : j - a < L.length) (g2 : mid - 1 - j < R.length), lead r R[mid - 1 - j] L[j - a])) (r0 - s0)
    ⟨rfl, s0, r0, rfl, rfl, Nat.le_refl _, hb0.2.1, Nat.le_refl _, by omega, by omega⟩ ?_
  rintro d xs ρj2 h2 again ⟨hh, i, j, rfl, rfl, hsi, hij, hjr, c1, c2⟩ Hag
  subst hh
  simp only [ix_0, ix_1, binV_lss, vK_some]
  refine iteK_dec (fun h3 => ?_) (fun h3 => ?_)
  · rw [half_use (by omega)]
    obtain ⟨l1, l2, p, q, e1, e2, g1, g2, b1, b2⟩ := cmpAt ((i + j) / 2) (by omega) (by omega)
    obtain ⟨c, hc⟩ : ∃ c, c = (i + j) / 2 := ⟨_, rfl⟩
    simp only [← hc] at l1 l2 e1 e2 g1 g2 b1 b2 ⊢
    have hxy : L[c - a] < R[mid - 1 - c] := hlt _ (List.getElem_mem _) _ (List.getElem_mem _)
    refine drawK_of (fun h4 => h4 = h2) rfl ?_
    simp only [binV_sub, vK_some]
    rw [nat_sub (mid + m - 1) c (by omega) (by omega)]
    simp only [e1, g1, vK_some]
    refine qK_val _ (fun h3 e => by rw [e]; exact g2) ?_
    refine qK_val _ (fun h3 e => by rw [e]; exact e2) ?_
    refine C.call H.ok b2 b1 fun w hw => ?_
    simp only [go_sem]
    refine iteK_dec (fun h4 => ?_) (fun h4 => ?_)
    · rw [nat_add1 _ (by omega)]
      refine Hag _ _ (j - (c + 1)) (by omega) ⟨rfl, c + 1, j, rfl, rfl, by omega, by omega, hjr, fun _ _ _ => ?_, c2⟩
      have : lead r L[c - a] R[mid - 1 - c] := (lead_total r (by omega)).resolve_right fun g => h4 (hw.2 ((lead_iff hxy).1 g))
      have e : mid - (c + 1) = mid - 1 - c := by omega
      simp only [e, Nat.add_sub_cancel]
      exact this
    · refine Hag _ _ (c - i) (by omega) ⟨rfl, i, c, rfl, rfl, hsi, by omega, by omega, c1, fun _ _ _ => (lead_iff hxy).2 (hw.1 (Decidable.of_not_not h4))⟩
  -- turned round
  have hij2 : i = j := by omega
  subst hij2
  obtain ⟨p, hp⟩ : ∃ p, p = i - a := ⟨_, rfl⟩
  obtain ⟨q, hq⟩ : ∃ q, q = mid - i := ⟨_, rfl⟩
  have hpL : p ≤ L.length := by omega
  have hqR : q ≤ R.length := by omega
  have x1 : ∀ (g1 : 0 < p) (g2 : q < R.length), lead r (L[p - 1]'(by omega)) R[q] := fun g1 g2 => by
    have hs : s0 < i := by
      by_cases h4 : mid < m
      · have := hs0'.1 h4; omega
      · have := hs0'.2 h4; omega
    have := c1 hs (by omega) (by omega)
    have e1 : i - 1 - a = p - 1 := by omega
    simp only [e1, ← hq] at this
    exact this
  have x2 : ∀ (g1 : 0 < q) (g2 : p < L.length), lead r (R[q - 1]'(by omega)) L[p] := fun g1 g2 => by
    have hs : i < r0 := by
      by_cases h4 : mid < m
      · have := hr0'.1 h4; omega
      · have := hr0'.2 h4; omega
    have := c2 hs (by omega) (by omega)
    have e1 : mid - 1 - i = q - 1 := by omega
    simp only [e1, ← hp] at this
    exact this
  have hcr := cross (lt := lead r) lead_trans sL sR hpL hqR x1 x2
  have lp : (L.take p).length = p := by rw [List.length_take]; omega
  have lq : (R.take q).length = q := by rw [List.length_take]; omega
  have ld : (L.drop p).length = L.length - p := by rw [List.length_drop]
  have lr : (R.drop q).length = R.length - q := by rw [List.length_drop]
  have eL : L = L.take p ++ L.drop p := (List.take_append_drop _ _).symm
  have eR : R = R.take q ++ R.drop q := (List.take_append_drop _ _).symm
  have H0 : IxRow v P n h2 ((A ++ L.take p) ++ L.drop p ++ R.take q ++ (R.drop q ++ D)) := by
    have e : (A ++ L.take p) ++ L.drop p ++ R.take q ++ (R.drop q ++ D) = A ++ L ++ R ++ D := by
      conv => rhs; rw [eL, eR]
      simp only [List.append_assoc]
    rw [e]; exact H
  rw [binV_sub, vK_some, nat_sub (mid + m) i (by omega) (by omega)]
  refine joinK_intro (fun _ h3 => IxRow v P n h3 (A ++ L.take p ++ R.take q ++ (L.drop p ++ R.drop q ++ D)) ∧ Fr (blk v) h2 h3) ?_ ?_
  · simp only [go_sem]
    refine iteK_dec (fun h4 => ?_) (fun h4 => ?_)
    · refine (c_rotate C H0 (a := i) (m := m) (b := mid + m - i) (by rw [List.length_append]; omega) (by rw [List.length_append]; omega) (by rw [List.length_append]; omega) (by omega) (by omega)).mono fun w h3 ⟨H3, F3⟩ => ?_
      exact ⟨by simpa only [List.append_assoc] using H3, F3⟩
    · refine ⟨?_, Fr.refl _ _⟩
      by_cases h5 : p = L.length
      · rw [List.drop_eq_nil_of_le (show L.length ≤ p by omega)] at H0 ⊢
        simpa only [List.append_assoc, List.append_nil, List.nil_append] using H0
      · have : q = 0 := by omega
        subst this
        simpa only [List.append_assoc, List.take_zero, List.append_nil, List.nil_append] using H0
  rintro xs ρj3 h3 ⟨H3, F3⟩
  -- the two halves
  have hlt1 : ∀ x ∈ L.take p, ∀ y ∈ R.take q, x < y := fun x hx y hy => hlt x (List.mem_of_mem_take hx) y (List.mem_of_mem_take hy)
  have hlt2 : ∀ x ∈ L.drop p, ∀ y ∈ R.drop q, x < y := fun x hx y hy => hlt x (List.mem_of_mem_drop hx) y (List.mem_of_mem_drop hy)
  have sLt := sL.sublist (List.take_sublist p L)
  have sLd := sL.sublist (List.drop_sublist p L)
  have sRt := sR.sublist (List.take_sublist q R)
  have sRd := sR.sublist (List.drop_sublist q R)
  have second : ∀ (S1 : List Nat) (h4 : Heap), S1.Perm (L.take p ++ R.take q) → S1.Pairwise (lead r) → IxRow v P n h4 (A ++ S1 ++ (L.drop p ++ R.drop q ++ D)) → Fr (blk v) h2 h4 →
      vK (binV .i .lss (iv mid) (iv (mid + m - i))) fun v127 => vK (gV v127 true (some (iv (mid + m - i)))) fun v128 => vK (gV v127 true (some (iv b))) fun v129 => vK (gV v127 true (binV .i .lss v128 v129)) fun v130 => vK (pickV v127 v130 (.bool false)) fun v131 =>
        iteK v131 (FCall Tryz.prog F_slices_symMergeCmpFunc_int #[v, iv mid, iv (mid + m - i), iv b, f] h4 fun v132 h133 => ∃ S : List Nat, S.Perm (L ++ R) ∧ S.Pairwise (lead r) ∧ IxRow v P n h133 (A ++ S ++ D) ∧ Fr (blk v) h2 h133)
          (∃ S : List Nat, S.Perm (L ++ R) ∧ S.Pairwise (lead r) ∧ IxRow v P n h4 (A ++ S ++ D) ∧ Fr (blk v) h2 h4) := by
    intro S1 h4 hp1 hs1 H4 F4
    have hS1 : S1.length = p + q := by rw [hp1.length_eq, List.length_append]; omega
    have fin : ∀ (S2 : List Nat) (h5 : Heap), S2.Perm (L.drop p ++ R.drop q) → S2.Pairwise (lead r) → IxRow v P n h5 (A ++ S1 ++ S2 ++ D) → Fr (blk v) h2 h5 → ∃ S : List Nat, S.Perm (L ++ R) ∧ S.Pairwise (lead r) ∧ IxRow v P n h5 (A ++ S ++ D) ∧ Fr (blk v) h2 h5 := by
      intro S2 h5 hp2 hs2 H5 F5
      obtain ⟨m1, m2⟩ := merged (lt := lead r) hcr hp1 hp2 hs1 hs2
      exact ⟨S1 ++ S2, m1, m2, by simpa only [List.append_assoc] using H5, F5⟩
    simp only [go_sem]
    refine iteK_dec (fun h6 => ?_) (fun h6 => ?_)
    · refine (ih (A := A ++ S1) (L := L.drop p) (R := R.drop q) (D := D) (by simpa only [List.append_assoc] using H4) (by rw [List.length_append]; omega) (by rw [List.length_append]; omega) (by rw [List.length_append]; omega) (by omega) (by omega) sLd sRd hlt2 (by omega)).mono fun w h5 ⟨S2, g1, g2, g3, g4⟩ => ?_
      exact fin S2 h5 g1 g2 g3 (F4.trans g4)
    · by_cases h7 : L.length ≤ p
      · rw [List.drop_eq_nil_of_le h7] at H4 fin
        exact fin (R.drop q) h4 (by simp) sRd (by simpa only [List.append_assoc, List.nil_append] using H4) F4
      · have h8 : R.length ≤ q := by omega
        rw [List.drop_eq_nil_of_le h8] at H4 fin
        exact fin (L.drop p) h4 (by simp) sLd (by simpa only [List.append_assoc, List.append_nil, List.nil_append] using H4) F4
  simp only [binV_lss, vK_some]
  by_cases h4 : a < i ∧ i < mid
  · have e1 : ((a : Int) < (i : Int)) = True := eq_true (by omega)
    have e2 : ((i : Int) < (mid : Int)) = True := eq_true (by omega)
    simp only [go_sem, e1, e2]
    refine (ih (A := A) (L := L.take p) (R := R.take q) (D := L.drop p ++ R.drop q ++ D) H3 (by omega) (by omega) (by omega) (by omega) (by omega) sLt sRt hlt1 (by omega)).mono fun w h5 ⟨S1, g1, g2, g3, g4⟩ => ?_
    have := second S1 h5 g1 g2 g3 (F3.trans g4)
    simp only [go_sem] at this ⊢
    exact this
  · have e1 : ((a : Int) < (i : Int) ∧ (i : Int) < (mid : Int)) = False := eq_false (by omega)
    simp only [go_sem, e1]
    by_cases h5 : p = 0
    · subst h5
      have := second (R.take q) h3 (by simp) sRt (by simpa only [List.append_assoc, List.take_zero, List.append_nil, List.nil_append] using H3) F3
      simp only [go_sem] at this ⊢
      exact this
    · have hq0 : q = 0 := by omega
      have hq0' := hq0
      have := second (L.take p) h3 (by rw [hq0]; simp) sLt (by rw [hq0] at H3 ⊢; simpa only [List.append_assoc, List.take_zero, List.append_nil, List.nil_append] using H3) F3
      simp only [go_sem] at this ⊢
      exact this
end
end Go.Proofs.YtefdokfnnokagaaGreatDoor
