/- Operations as text: numbers, a word. Conditions: none. -/
import Derived.Test.YtefdokfnnokagaaGreatDoorSb
import Derived.Test.YtefdokfnnokagaaGreatDoorGo
set_option linter.unusedVariables false
set_option linter.unusedSimpArgs false
set_option maxRecDepth 10000
namespace Go.Proofs.YtefdokfnnokagaaGreatDoor
open Go Go.Crisp
attribute [local irreducible] FCall rowK newK stK iteK vK qK drawK gK joinK loopK mkK appK cpyK nextStrK rangeStrK

/-! ### numbers -/
def numsL (l : List Int) : List UInt8 := Lib.join (l.map Lib.itoa) [44]
theorem joinTail_length (sep : List UInt8) : ∀ (r : List (List UInt8)) (k : Nat), (∀ x ∈ r, x.length ≤ k) → (Lib.joinTail sep r).length ≤ (sep.length + k) * r.length
  | [], k, _ => by simp [Lib.joinTail]
  | x :: r, k, h => by
    have h1 := joinTail_length sep r k fun y hy => h y (List.mem_cons_of_mem _ hy)
    have h2 := h x (List.mem_cons_self ..)
    have e : Lib.joinTail sep (x :: r) = sep ++ x ++ Lib.joinTail sep r := by simp [Lib.joinTail]
    rw [e, List.length_append, List.length_append, List.length_cons, Nat.mul_succ]
    omega
theorem join_length (sep : List UInt8) (r : List (List UInt8)) (k : Nat) (h : ∀ x ∈ r, x.length ≤ k) : (Lib.join r sep).length ≤ (sep.length + k) * r.length := by
  match r, h with
  | [], _ => simp [Lib.join_nil]
  | x :: r, h =>
    rw [Lib.join_cons, List.length_append, List.length_cons, Nat.mul_succ]
    have h1 := joinTail_length sep r k fun y hy => h y (List.mem_cons_of_mem _ hy)
    have h2 := h x (List.mem_cons_self ..)
    omega
theorem numsL_length {l : List Int} (h : ∀ n ∈ l, I64 n) : (numsL l).length ≤ 22 * l.length := by
  have := join_length [44] (l.map Lib.itoa) 21 (fun x hx => by
    obtain ⟨n, hn, rfl⟩ := List.mem_map.1 hx
    exact Lib.itoa_length_le n (h n hn).1 (h n hn).2)
  simpa [numsL] using this

theorem c_numbers {h : Heap} (G : GlobH h) {Z : Nat → Prop} {v : Value} {l : List Int} (H : Rp.Sl rI Z h v l) (hw : ∀ n ∈ l, I64 n) (hl : l.length ≤ 1000000) :
    FCall Tryz.prog F_recipe_numbers #[v] h fun r h' => r = S (numsL l) ∧ Ext h h' := by
  apply ok_recipe_numbers
  unfold sh_recipe_numbers
  obtain ⟨a, cap, rfl⟩ := H.isSl
  simp only [go_sem]
  refine loopK_var (fun d xs h2 => ∃ (i : Nat) (sv : Value), i ≤ l.length ∧ d = l.length - i ∧ xs = [sv, .int .i64 (i : Int)] ∧ Words h2 sv ((l.take i).map Lib.itoa) ∧ Ext h h2 ∧ ∀ b, blk sv b → h.size ≤ b) l.length
    ⟨0, _, by omega, by omega, rfl, Rp.Ow.nil, Ext.refl _, fun b hb => hb.elim⟩ ?_
  rintro d _ ρj h2 again ⟨i, sv, hi, rfl, rfl, W, e, nb⟩ hag
  simp only [go_sem]
  refine iteK_dec (fun h1 => ?_) (fun h1 => ?_)
  · have hi' : i < l.length := by omega
    obtain ⟨p, c, hp, hc, hR⟩ := (H.ext e).at1 rfl (k := .i64) hi'
    have hR : [c] = [.int .i64 l[i]] := hR
    obtain rfl : c = .int .i64 l[i] := by simpa using hR
    simp only [go_sem, hp, hc]
    have hx := hw l[i] (List.getElem_mem hi')
    refine (c_FormatInt (G.ext e) hx.1 hx.2).mono fun r h3 ⟨hr, e3⟩ => ?_
    subst hr
    refine Rp.push_ow1 (e := Rp.bs) rfl (x := Lib.itoa l[i]) (W.ext e3) rfl rfl (by simp; omega) (by simp; omega) (fun b hb => hb.elim) fun s' h5 o5 f5 n5 => ?_
    rw [w64 (by omega) (by omega)]
    refine hag _ _ (l.length - (i + 1)) (by omega) ⟨i + 1, s', by omega, rfl, by simp, ?_, (e.trans e3).then_fr f5 nb, fun b hb => ?_⟩
    · have : (l.take (i + 1)).map Lib.itoa = (l.take i).map Lib.itoa ++ [Lib.itoa l[i]] := by rw [List.take_succ_eq_append_getElem hi', List.map_append]; rfl
      rw [this]; exact o5
    · rcases n5 b hb with h6 | h6
      · exact nb b h6
      · exact Nat.le_trans (e.trans e3).1 h6
  · have : i = l.length := by omega
    subst this
    rw [List.take_length] at W
    refine FCall.mono (c_Join W (by simp; omega) ?_) fun r h3 ⟨hr, e3⟩ => ⟨hr, e.trans e3⟩
    have := numsL_length hw
    show (numsL l).length ≤ _
    omega

/-! ### a word -/
def bodyL (o : OpD) : List UInt8 :=
  if o.kind = 0 then Lib.itoa o.sigma else if o.kind = 1 then Lib.itoa o.radius else if o.kind = 2 then numsL o.x ++ [195, 151] ++ numsL o.y
  else if o.kind = 3 then Lib.itoa o.w ++ [195, 151] ++ Lib.itoa o.hh ++ [44] ++ fName o.filter else []
def OpD.ok (o : OpD) : Prop := (0 ≤ o.kind ∧ o.kind ≤ 3) ∧ (0 ≤ o.border ∧ o.border ≤ 2) ∧ (o.kind = 3 → 0 ≤ o.filter ∧ o.filter ≤ 2)
instance (o : OpD) : Decidable o.ok := by unfold OpD.ok; exact inferInstance
def wordL (o : OpD) : List UInt8 := if o.ok then kSign o.kind ++ bodyL o ++ [124] ++ bName o.border else []
theorem bName_nil (b : Int) : bName b = [] ↔ ¬ (0 ≤ b ∧ b ≤ 2) := by
  unfold bName
  by_cases h0 : b = 0
  · subst h0; simp
  by_cases h1 : b = 1
  · subst h1; simp
  by_cases h2 : b = 2
  · subst h2; simp
  rw [if_neg h0, if_neg h1, if_neg h2]
  simp; omega
theorem fName_nil (b : Int) : fName b = [] ↔ ¬ (0 ≤ b ∧ b ≤ 2) := by
  unfold fName
  by_cases h0 : b = 0
  · subst h0; simp
  by_cases h1 : b = 1
  · subst h1; simp
  by_cases h2 : b = 2
  · subst h2; simp
  rw [if_neg h0, if_neg h1, if_neg h2]
  simp; omega
theorem kRune_zero (b : Int) : kRune b = 0 ↔ ¬ (0 ≤ b ∧ b ≤ 3) := by
  unfold kRune
  by_cases h0 : b = 0
  · subst h0; simp
  by_cases h1 : b = 1
  · subst h1; simp
  by_cases h2 : b = 2
  · subst h2; simp
  by_cases h3 : b = 3
  · subst h3; simp
  rw [if_neg h0, if_neg h1, if_neg h2, if_neg h3]
  simp; omega
theorem kSign_enc {b : Int} (h : 0 ≤ b ∧ b ≤ 3) : cvrsV (.int .i32 (kRune b)) = some (S (kSign b)) := by
  obtain ⟨n, rfl⟩ : ∃ n : Nat, b = (n : Int) := ⟨b.toNat, by omega⟩
  have : n < 4 := by omega
  match n, this with
  | 0, _ => exact cvrs_lit _ _ _ (by decide +kernel)
  | 1, _ => exact cvrs_lit _ _ _ (by decide +kernel)
  | 2, _ => exact cvrs_lit _ _ _ (by decide +kernel)
  | 3, _ => exact cvrs_lit _ _ _ (by decide +kernel)
theorem itoa_le {n : Int} (h : I64 n) : (Lib.itoa n).length ≤ 21 := Lib.itoa_length_le n h.1 h.2
theorem bodyL_length {o : OpD} (hw : o.Wf) : (bodyL o).length ≤ 22 * o.x.length + 22 * o.y.length + 60 := by
  have h1 := itoa_le hw.sigma
  have h2 := itoa_le hw.radius
  have h3 := itoa_le hw.w
  have h4 := itoa_le hw.hh
  have h5 := numsL_length hw.x
  have h6 := numsL_length hw.y
  have h7 : (fName o.filter).length ≤ 7 := by unfold fName; split <;> (try split) <;> (try split) <;> simp
  unfold bodyL
  split
  · omega
  split
  · omega
  split
  · simp; omega
  split
  · simp; omega
  · simp
theorem kSign_le (k : Int) : (kSign k).length ≤ 3 := by unfold kSign; split <;> (try split) <;> (try split) <;> (try split) <;> simp
theorem bName_le (k : Int) : (bName k).length ≤ 6 := by unfold bName; split <;> (try split) <;> (try split) <;> simp
theorem wordL_length {o : OpD} (hw : o.Wf) : (wordL o).length ≤ 22 * o.x.length + 22 * o.y.length + 70 := by
  have h1 := bodyL_length hw
  have h2 := kSign_le o.kind
  have h3 := bName_le o.border
  unfold wordL
  split
  · simp; omega
  · simp

theorem c_Word {h : Heap} (G : GlobH h) {Z : Nat → Prop} {cs : List Value} {o : OpD} (H : rOp.R Z h cs o) (hw : o.Wf) (hx : o.x.length ≤ 1000000) (hy : o.y.length ≤ 1000000) :
    FCall Tryz.prog F_recipe_Word #[.agg cs.toArray] h fun r h' => r = .tuple #[S (wordL o), .int .i64 (if o.ok then 0 else 6)] ∧ Ext h h' := by
  apply ok_recipe_Word
  unfold sh_recipe_Word
  obtain ⟨s, t, rfl, Hx, Hy⟩ := H
  simp only [cells_agg]
  refine newK_use fun b1 h1 r1 e1 n1 => ?_
  simp only [go_sem, cell_row r1]
  refine (c_borderName (G.toGlobB.ext e1)).mono fun v2 h2 ⟨hv2, hh2⟩ => ?_
  have hh2 := hh2.symm
  subst hv2 hh2
  simp only [go_sem, cell_row r1]
  refine c_Sign.mono fun v3 h3 ⟨hv3, e3⟩ => ?_
  subst hv3
  have r3 := e3.row r1
  have e13 := e1.trans e3
  have G3 := G.ext e13
  have bad : ∀ {h' : Heap}, ¬ o.ok → Ext h3 h' → (Value.tuple #[S [], .int .i64 6] = .tuple #[S (wordL o), .int .i64 (if o.ok then 0 else 6)] ∧ Ext h h') := fun hb e => by
    refine ⟨?_, e13.trans e⟩
    rw [if_neg hb]
    unfold wordL
    rw [if_neg hb]
  have fin : ∀ hJ, o.ok → Ext h3 hJ → FCall Tryz.prog F_recipe_Sign #[.int .i64 o.kind] hJ fun v72 h73 =>
      vK (cvrsV v72) fun v74 => vK (binV .s .add v74 (S (bodyL o))) fun v75 => vK (binV .s .add v75 (S [124])) fun v76 => vK (binV .s .add v76 (S (bName o.border))) fun v77 =>
      Value.tuple #[v77, .int .i64 0] = .tuple #[S (wordL o), .int .i64 (if o.ok then 0 else 6)] ∧ Ext h h73 := fun hJ ok eJ => by
    refine c_Sign.mono fun v4 h4 ⟨hv4, e4⟩ => ?_
    subst hv4
    have l1 := bodyL_length hw
    have l2 := kSign_le o.kind
    have l3 := bName_le o.border
    rw [kSign_enc ok.1, vK_some, binS_add (by omega), vK_some, binS_add (by simp; omega), vK_some, binS_add (by simp; omega), vK_some]
    refine ⟨?_, e13.trans (eJ.trans e4)⟩
    unfold wordL
    rw [if_pos ok, if_pos ok]
  by_cases hk : 0 ≤ o.kind ∧ o.kind ≤ 3
  · have hz : ¬ kRune o.kind = 0 := fun h => (kRune_zero _).1 h hk
    by_cases hb : 0 ≤ o.border ∧ o.border ≤ 2
    · have hbz : ¬ bName o.border = [] := fun h => (bName_nil _).1 h hb
      have hk4 : o.kind = 0 ∨ o.kind = 1 ∨ o.kind = 2 ∨ o.kind = 3 := by omega
      rcases hk4 with k0 | k0 | k0 | k0
      · have q0 : (o.kind = 0) = True := eq_true k0
        have q1 : (o.kind = 1) = False := eq_false (by omega)
        have q2 : (o.kind = 2) = False := eq_false (by omega)
        have q3 : (o.kind = 3) = False := eq_false (by omega)
        have ok : o.ok := ⟨hk, hb, fun h => by omega⟩
        simp only [go_sem, cell_row r3, hz, hbz, q0, q1, q2, q3]
        refine joinK_intro (fun xs hJ => xs = [S (bodyL o)] ∧ Ext h3 hJ) ?_ ?_
        · refine (c_FormatInt G3 hw.sigma.1 hw.sigma.2).mono fun v5 h5 ⟨hv5, e5⟩ => ⟨?_, e5⟩
          rw [hv5]; unfold bodyL; rw [if_pos k0]
        · rintro _ _ hJ ⟨rfl, eJ⟩
          simp only [go_sem, cell_row (eJ.row r3)]
          exact fin hJ ok eJ
      · have q0 : (o.kind = 0) = False := eq_false (by omega)
        have q1 : (o.kind = 1) = True := eq_true k0
        have q2 : (o.kind = 2) = False := eq_false (by omega)
        have q3 : (o.kind = 3) = False := eq_false (by omega)
        have ok : o.ok := ⟨hk, hb, fun h => by omega⟩
        simp only [go_sem, cell_row r3, hz, hbz, q0, q1, q2, q3]
        refine joinK_intro (fun xs hJ => xs = [S (bodyL o)] ∧ Ext h3 hJ) ?_ ?_
        · refine (c_Itoa G3 hw.radius.1 hw.radius.2).mono fun v5 h5 ⟨hv5, e5⟩ => ⟨?_, e5⟩
          rw [hv5]; unfold bodyL; rw [if_neg (by omega), if_pos k0]
        · rintro _ _ hJ ⟨rfl, eJ⟩
          simp only [go_sem, cell_row (eJ.row r3)]
          exact fin hJ ok eJ
      · have q0 : (o.kind = 0) = False := eq_false (by omega)
        have q1 : (o.kind = 1) = False := eq_false (by omega)
        have q2 : (o.kind = 2) = True := eq_true k0
        have q3 : (o.kind = 3) = False := eq_false (by omega)
        have ok : o.ok := ⟨hk, hb, fun h => by omega⟩
        simp only [go_sem, cell_row r3, hz, hbz, q0, q1, q2, q3]
        refine joinK_intro (fun xs hJ => xs = [S (bodyL o)] ∧ Ext h3 hJ) ?_ ?_
        · refine drawK_ext ?_
          try simp only [go_sem]
          refine qK_val s (fun h' e => by simp only [go_sem, cell_row (e.row r3)]) ?_
          try simp only [go_sem]
          refine qK_val t (fun h' e => by simp only [go_sem, cell_row (e.row r3)]) ?_
          refine (c_numbers G3 (Hx.ext e13) hw.x hx).mono fun v5 h5 ⟨hv5, e5⟩ => ⟨e5, ?_⟩
          subst hv5
          have l5 := numsL_length hw.x
          have l6 := numsL_length hw.y
          rw [binS_add (by simp; omega), vK_some]
          refine (c_numbers (G3.ext e5) (Hy.ext (e13.trans e5)) hw.y hy).mono fun v6 h6 ⟨hv6, e6⟩ => ⟨e5.trans e6, ?_⟩
          subst hv6
          rw [binS_add (by simp; omega), vK_some]
          refine ⟨?_, e5.trans e6⟩
          unfold bodyL; rw [if_neg (by omega), if_neg (by omega), if_pos k0]
        · rintro _ _ hJ ⟨rfl, eJ⟩
          simp only [go_sem, cell_row (eJ.row r3)]
          exact fin hJ ok eJ
      · have q0 : (o.kind = 0) = False := eq_false (by omega)
        have q1 : (o.kind = 1) = False := eq_false (by omega)
        have q2 : (o.kind = 2) = False := eq_false (by omega)
        have q3 : (o.kind = 3) = True := eq_true k0
        simp only [go_sem, cell_row r3, hz, hbz, q0, q1, q2, q3]
        refine (c_rawName G3.toGlobB).mono fun v5 h5 ⟨hv5, hh5⟩ => ?_
        have hh5 := hh5.symm
        subst hv5 hh5
        simp only [go_sem]
        refine iteK_dec (fun h6 => ?_) (fun h6 => ?_)
        · exact bad (fun ok => (fName_nil _).1 h6 (ok.2.2 k0)) (Ext.refl _)
        have ok : o.ok := ⟨hk, hb, fun _ => by
          by_cases h7 : 0 ≤ o.filter ∧ o.filter ≤ 2
          · exact h7
          · exact absurd ((fName_nil _).2 h7) h6⟩
        simp only [go_sem, cell_row r3, q0, q1, q2, q3]
        refine joinK_intro (fun xs hJ => xs = [S (bodyL o)] ∧ Ext h3 hJ) ?_ ?_
        · refine drawK_ext ?_
          try simp only [go_sem]
          refine qK_val (.int .i64 o.w) (fun h' e => by simp only [go_sem, cell_row (e.row r3)]) ?_
          try simp only [go_sem]
          refine qK_val (.int .i64 o.hh) (fun h' e => by simp only [go_sem, cell_row (e.row r3)]) ?_
          try simp only [go_sem]
          refine qK_val (.int .i64 o.filter) (fun h' e => by simp only [go_sem, cell_row (e.row r3)]) ?_
          have l5 := itoa_le hw.w
          have l6 := itoa_le hw.hh
          have h7 : (fName o.filter).length ≤ 7 := by unfold fName; split <;> (try split) <;> (try split) <;> simp
          refine (c_Itoa G3 hw.w.1 hw.w.2).mono fun v5 h5 ⟨hv5, e5⟩ => ⟨e5, ?_⟩
          subst hv5
          rw [binS_add (by simp; omega), vK_some]
          refine (c_Itoa (G3.ext e5) hw.hh.1 hw.hh.2).mono fun v6 h6 ⟨hv6, e6⟩ => ⟨e5.trans e6, ?_⟩
          subst hv6
          rw [binS_add (by simp; omega), vK_some, binS_add (by simp; omega), vK_some]
          refine (c_rawName (G3.ext (e5.trans e6)).toGlobB).mono fun v8 h8 ⟨hv8, hh8⟩ => ?_
          have hh8 := hh8.symm
          subst hv8 hh8
          refine ⟨e5.trans e6, ?_⟩
          rw [binS_add (by simp; omega), vK_some]
          refine ⟨?_, e5.trans e6⟩
          unfold bodyL; rw [if_neg (by omega), if_neg (by omega), if_neg (by omega), if_pos k0]
        · rintro _ _ hJ ⟨rfl, eJ⟩
          simp only [go_sem, cell_row (eJ.row r3)]
          exact fin hJ ok eJ
    · have hbz : bName o.border = [] := (bName_nil _).2 hb
      simp only [go_sem, cell_row r3, hz, hbz]
      exact bad (fun ok => hb ok.2.1) (Ext.refl _)
  · have hz : kRune o.kind = 0 := (kRune_zero _).2 hk
    simp only [go_sem, cell_row r3, hz]
    exact bad (fun ok => hk ok.1) (Ext.refl _)
end Go.Proofs.YtefdokfnnokagaaGreatDoor
