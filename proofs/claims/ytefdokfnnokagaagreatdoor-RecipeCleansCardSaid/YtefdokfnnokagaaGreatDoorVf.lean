/- What is done to an image (op): may it be, the weights, the tables, a stage: the program's. Conditions: none. -/
import Derived.Test.YtefdokfnnokagaaGreatDoorVe
set_option linter.unusedVariables false
set_option linter.unusedSimpArgs false
set_option maxRecDepth 10000
namespace Go.Proofs.YtefdokfnnokagaaGreatDoor
open Go Go.Crisp
attribute [local irreducible] FCall rowK newK stK iteK vK qK drawK gK joinK loopK mkK appK cpyK nextStrK rangeStrK bsK clK

theorem bNameNil (b : Int) : bName b = [] ↔ ¬ (0 ≤ b ∧ b < 3) := by
  unfold bName
  split
  · constructor
    · intro h; cases h
    · intro h; omega
  split
  · constructor
    · intro h; cases h
    · intro h; omega
  split
  · constructor
    · intro h; cases h
    · intro h; omega
  · constructor
    · intro _; omega
    · intro _; rfl
def opMay (o : OpD) : Prop := (0 ≤ o.kind ∧ o.kind < 4) ∧ (0 ≤ o.border ∧ o.border < 3) ∧ (o.kind = 3 → sideOk o.w ∧ sideOk o.hh ∧ 0 ≤ o.filter ∧ o.filter < 3)
instance (o : OpD) : Decidable (opMay o) := by unfold opMay; infer_instance
theorem c_opSide {h : Heap} {n : Int} : FCall Tryz.prog F_op_side #[.int .i64 n] h fun r h' => r = .bool (decide (sideOk n)) ∧ h' = h := by
  apply ok_op_side
  unfold sh_op_side
  simp only [go_sem]
  exact ⟨rfl, by first | rfl | trivial⟩
theorem c_opMay {Z : Nat → Prop} {h : Heap} (G : GlobB h) {cs : List Value} {o : OpD} (H : rOp.R Z h cs o) : FCall Tryz.prog F_op_may #[.agg cs.toArray] h fun r h' => r = .bool (decide (opMay o)) ∧ Ext h h' := by
  apply ok_op_may
  unfold sh_op_may
  obtain ⟨s, t, rfl, Hx, Hy⟩ := H
  simp only [cells_agg]
  refine newK_use fun b h1 r1 e1 n1 => ?_
  have G1 := G.ext e1
  simp only [go_sem, cell_row r1]
  have hbn := bNameNil o.border
  by_cases hk : o.kind < 0 ∨ 4 ≤ o.kind
  · have q : opMay o = False := eq_false (by unfold opMay; omega)
    simp only [go_sem, hk, q]
    exact ⟨by simp, e1⟩
  simp only [go_sem, hk]
  refine (c_borderName G1).mono fun v h2 ⟨e, w⟩ => ?_
  subst e w
  try rw [S_nil]
  rw [binS_eql, vK_some]
  by_cases hb : bName o.border = []
  · have q : opMay o = False := eq_false (by unfold opMay; exact fun h => hbn.1 hb h.2.1)
    simp only [go_sem, hb, q]
    exact ⟨by simp, e1⟩
  have hb3 : 0 ≤ o.border ∧ o.border < 3 := Decidable.of_not_not fun h => hb (hbn.2 h)
  simp only [go_sem, hb, cell_row r1]
  by_cases hk3 : ¬ o.kind = 3
  · have q : opMay o = True := eq_true ⟨by omega, hb3, fun h => absurd h hk3⟩
    simp only [go_sem, hk3, q]
    exact ⟨by simp, e1⟩
  have hk3 : o.kind = 3 := Decidable.of_not_not hk3
  simp only [go_sem, hk3, cell_row r1]
  refine c_opSide.mono fun v h3 ⟨e, w⟩ => ?_
  subst e w
  by_cases hw : ¬ sideOk o.w
  · have q : opMay o = False := eq_false (fun h => hw (h.2.2 hk3).1)
    simp only [go_sem, hw, q]
    exact ⟨by simp, e1⟩
  have hw : sideOk o.w := Decidable.of_not_not hw
  simp only [go_sem, hw, cell_row r1]
  refine c_opSide.mono fun v h4 ⟨e, w⟩ => ?_
  subst e w
  by_cases hh : ¬ sideOk o.hh
  · have q : opMay o = False := eq_false (fun h => hh (h.2.2 hk3).2.1)
    simp only [go_sem, hh, q]
    exact ⟨by simp, e1⟩
  have hh : sideOk o.hh := Decidable.of_not_not hh
  simp only [go_sem, hh, cell_row r1]
  refine (c_rawName G1).mono fun v h5 ⟨e, w⟩ => ?_
  subst e w
  try rw [S_nil]
  rw [binS_neq, vK_some]
  have hfn := fNameNil o.filter
  simp only [go_sem]
  refine ⟨?_, e1⟩
  congr 1
  rw [decide_eq_decide]
  unfold opMay
  constructor
  · intro hf
    exact ⟨by omega, hb3, fun _ => ⟨hw, hh, Decidable.of_not_not fun h => hf (hfn.2 h)⟩⟩
  · intro hf he
    exact hfn.1 he (hf.2.2 hk3).2.2

/-! ### weights -/
def weightsC (o : OpD) : Int := if o.kind = 0 then gaussC o.sigma else if o.kind = 1 then blurC o.radius else if userC o.x ≠ 0 then userC o.x else userC o.y
def weightsX (o : OpD) : List Int := if o.kind = 0 then gaussW o.sigma else if o.kind = 1 then blurW o.radius else userW o.x
def weightsY (o : OpD) : List Int := if o.kind = 0 then gaussW o.sigma else if o.kind = 1 then blurW o.radius else userW o.y
theorem weightsX_I64 (o : OpD) : ∀ x ∈ weightsX o, I64 x := by
  unfold weightsX
  split
  · exact gaussW_I64 _
  split
  · exact blurW_I64 _
  · exact userW_I64 _
theorem weightsY_I64 (o : OpD) : ∀ x ∈ weightsY o, I64 x := by
  unfold weightsY
  split
  · exact gaussW_I64 _
  split
  · exact blurW_I64 _
  · exact userW_I64 _
theorem userW_len (l : List Int) : (userW l).length ≤ 1024 := by
  unfold userW
  split
  · simp
  · rename_i h
    unfold userBad at h
    rw [List.length_map]; omega
theorem gaussW_len (s : Int) : (gaussW s).length ≤ 1024 := by
  unfold gaussW
  split
  · simp
  · rename_i h
    unfold gaussBad at h
    rw [List.length_map, List.length_range]
    unfold gaussRad; omega
theorem blurW_len (r : Int) : (blurW r).length ≤ 1024 := by
  unfold blurW
  split
  · simp
  · exact userW_len _
theorem weightsX_len (o : OpD) : (weightsX o).length < 4611686018427387904 := by
  unfold weightsX
  split
  · have := gaussW_len o.sigma; omega
  split
  · have := blurW_len o.radius; omega
  · have := userW_len o.x; omega
theorem weightsY_len (o : OpD) : (weightsY o).length < 4611686018427387904 := by
  unfold weightsY
  split
  · have := gaussW_len o.sigma; omega
  split
  · have := blurW_len o.radius; omega
  · have := userW_len o.y; omega
/-- What was made since. -/
abbrev Since (h h' : Heap) (c : Nat) : Prop := h.size ≤ c ∧ c < h'.size
theorem _root_.Go.Crisp.New.since {α : Type} {e : Rp α} {h0 h h' : Heap} {v : Value} {l : List α} (H : New e h h' v l) (k : Ext h0 h) : Rp.Sl e (Since h0 h') h' v l := H.sl.mono fun b hb hz => ⟨Nat.le_trans k.1 (H.2.2 b hz), hb⟩
theorem c_weights {Z : Nat → Prop} {h : Heap} {cs : List Value} {o : OpD} (H : rOp.R Z h cs o) (W : o.Wf) (lx : o.x.length < 4611686018427387904) (ly : o.y.length < 4611686018427387904) :
    FCall Tryz.prog F_op_weights #[.agg cs.toArray] h fun r h' => ∃ u v, r = .tuple #[u, v, .int .i64 (weightsC o)] ∧ Ext h h' ∧ (weightsC o = 0 → SlI (Since h h') h' u (weightsX o) ∧ SlI (Since h h') h' v (weightsY o)) := by
  apply ok_op_weights
  unfold sh_op_weights
  obtain ⟨s, t, rfl, Hx, Hy⟩ := H
  simp only [cells_agg]
  refine newK_use fun b h1 r1 e1 n1 => ?_
  simp only [go_sem, cell_row r1]
  unfold weightsC weightsX weightsY
  refine iteK_dec (fun hk => ?_) (fun hk => ?_)
  · rw [if_pos hk, if_pos hk, if_pos hk]
    refine (c_Gaussian W.sigma).mono fun w h2 ⟨u, e, N⟩ => ?_
    subst e
    simp only [go_sem]
    exact ⟨u, u, rfl, e1.trans N.2.1, fun _ => ⟨N.since e1, N.since e1⟩⟩
  rw [if_neg hk, if_neg hk, if_neg hk]
  refine iteK_dec (fun hk1 => ?_) (fun hk1 => ?_)
  · rw [if_pos hk1, if_pos hk1, if_pos hk1]
    refine (c_Blur W.radius).mono fun w h2 ⟨u, e, N⟩ => ?_
    subst e
    simp only [go_sem]
    exact ⟨u, u, rfl, e1.trans N.2.1, fun _ => ⟨N.since e1, N.since e1⟩⟩
  rw [if_neg hk1, if_neg hk1, if_neg hk1]
  refine (c_tapsUser (Hx.ext e1) W.x lx).mono fun w h2 ⟨u, e, N⟩ => ?_
  subst e
  simp only [go_sem]
  refine iteK_dec (fun hu => ?_) (fun hu => ?_)
  · rw [if_pos hu]
    exact ⟨_, _, rfl, e1.trans N.2.1, fun h => absurd h hu⟩
  rw [if_neg hu]
  simp only [go_sem, cell_row (N.2.1.row r1)]
  refine (c_tapsUser ((Hy.ext e1).ext N.2.1) W.y ly).mono fun w h3 ⟨v, e, M⟩ => ?_
  subst e
  simp only [go_sem]
  refine ⟨u, v, rfl, (e1.trans N.2.1).trans M.2.1, fun _ => ⟨?_, M.since (e1.trans N.2.1)⟩⟩
  exact ((N.since e1).ext M.2.1).mono fun c hc hz => ⟨hz.1, hc⟩

/-! ### a stage -/
def tablesC (o : OpD) (w h : Int) : Int :=
  if o.kind = 3 then (if resizeC o.filter w o.w ≠ 0 then resizeC o.filter w o.w else resizeC o.filter h o.hh)
  else if weightsC o ≠ 0 then weightsC o else if filterC (weightsX o) w ≠ 0 then filterC (weightsX o) w else filterC (weightsY o) h
def tableX (o : OpD) (w : Int) : Tbl := if o.kind = 3 then resizeT o.filter w o.w else filterT (weightsX o) w
def tableY (o : OpD) (h : Int) : Tbl := if o.kind = 3 then resizeT o.filter h o.hh else filterT (weightsY o) h
theorem c_tables {Z : Nat → Prop} {h : Heap} (G : GlobB h) {cs : List Value} {o : OpD} (H : rOp.R Z h cs o) (W : o.Wf) (lx : o.x.length < 4611686018427387904) (ly : o.y.length < 4611686018427387904) {w hh : Int} (hw : I64 w) (hhh : I64 hh) :
    FCall Tryz.prog F_op_tables #[.agg cs.toArray, .int .i64 w, .int .i64 hh] h fun r h' => ∃ p q, r = .tuple #[p, q, .int .i64 (tablesC o w hh)] ∧ Ext h h' ∧ (tablesC o w hh = 0 → IsTbl (Since h h') h' p (tableX o w) ∧ IsTbl (Since h h') h' q (tableY o hh)) := by
  apply ok_op_tables
  unfold sh_op_tables
  have H0 := H
  obtain ⟨s, t, rfl, Hx, Hy⟩ := H
  simp only [cells_agg]
  refine newK_use fun b h1 r1 e1 n1 => ?_
  have G1 := G.ext e1
  simp only [go_sem, cell_row r1]
  unfold tablesC tableX tableY
  refine iteK_dec (fun hk => ?_) (fun hk => ?_)
  · rw [if_pos hk, if_pos hk, if_pos hk]
    refine (c_Resize G1 W.filter hw W.w).mono fun r h2 ⟨p, e, e2, p0, p1⟩ => ?_
    subst e
    simp only [go_sem]
    refine iteK_dec (fun hc => ?_) (fun hc => ?_)
    · rw [if_neg (by simpa using hc)]
      simp only [go_sem, cell_row (e2.row r1)]
      refine (c_Resize (G1.ext e2) W.filter hhh W.hh).mono fun r h3 ⟨q, e, e3, q0, q1⟩ => ?_
      subst e
      simp only [go_sem]
      refine ⟨p, q, rfl, (e1.trans e2).trans e3, fun h0 => ⟨?_, ?_⟩⟩
      · exact ((p1 hc).ext e3).mono fun c hc hz => ⟨Nat.le_trans e1.1 hz.1, hc⟩
      · exact (q1 h0).mono fun c hc hz => ⟨Nat.le_trans (e1.trans e2).1 hz.1, hz.2⟩
    · rw [if_pos (by simpa using hc)]
      exact ⟨p, _, rfl, e1.trans e2, fun h0 => absurd h0 hc⟩
  rw [if_neg hk, if_neg hk, if_neg hk]
  rw [lds_row r1 9 rfl, vK_some]
  refine (c_weights (rOp.ext H0 e1) W lx ly).mono fun r h2 ⟨u, v, e, e2, hu⟩ => ?_
  subst e
  simp only [go_sem]
  refine iteK_dec (fun hc => ?_) (fun hc => ?_)
  · rw [if_pos hc]
    exact ⟨_, _, rfl, e1.trans e2, fun h0 => absurd h0 hc⟩
  have hc0 : weightsC o = 0 := Decidable.of_not_not hc
  rw [if_neg hc]
  obtain ⟨Hu, Hv⟩ := hu hc0
  refine (c_Filter Hu (weightsX_I64 o) (weightsX_len o) hw).mono fun r h3 ⟨p, e, e3, p0, p1⟩ => ?_
  subst e
  simp only [go_sem]
  refine iteK_dec (fun hc => ?_) (fun hc => ?_)
  · rw [if_neg (by simpa using hc)]
    refine (c_Filter (Hv.ext e3) (weightsY_I64 o) (weightsY_len o) hhh).mono fun r h4 ⟨q, e, e4, q0, q1⟩ => ?_
    subst e
    simp only [go_sem]
    refine ⟨p, q, rfl, ((e1.trans e2).trans e3).trans e4, fun h0 => ⟨?_, ?_⟩⟩
    · exact ((p1 hc).ext e4).mono fun c hc hz => ⟨Nat.le_trans (e1.trans e2).1 hz.1, hc⟩
    · exact (q1 h0).mono fun c hc hz => ⟨Nat.le_trans ((e1.trans e2).trans e3).1 hz.1, hz.2⟩
  · rw [if_pos (by simpa using hc)]
    exact ⟨p, _, rfl, (e1.trans e2).trans e3, fun h0 => absurd h0 hc⟩
structure Stg where
  x : Tbl
  y : Tbl
  border : Int
/-- A stage, as a value. -/
def IsStg (Z : Nat → Prop) (h : Heap) (v : Value) (s : Stg) : Prop := ∃ p q, v = .agg #[p, q, .int .i64 s.border] ∧ IsTbl Z h p s.x ∧ IsTbl Z h q s.y
theorem IsStg.mono {Z Z' : Nat → Prop} {h : Heap} {v : Value} {s : Stg} (H : IsStg Z h v s) (q : ∀ b, b < h.size → Z b → Z' b) : IsStg Z' h v s := by
  obtain ⟨p, r, rfl, h1, h2⟩ := H
  exact ⟨p, r, rfl, h1.mono q, h2.mono q⟩
theorem IsStg.ext {Z : Nat → Prop} {h h' : Heap} {v : Value} {s : Stg} (H : IsStg Z h v s) (e : Ext h h') : IsStg Z h' v s := by
  obtain ⟨p, r, rfl, h1, h2⟩ := H
  exact ⟨p, r, rfl, h1.ext e, h2.ext e⟩
theorem IsStg.fr {Z M : Nat → Prop} {h h' : Heap} {v : Value} {s : Stg} (H : IsStg Z h v s) (f : Fr M h h') (q : ∀ b, b < h.size → Z b → ¬ M b) : IsStg Z h' v s := by
  obtain ⟨p, r, rfl, h1, h2⟩ := H
  exact ⟨p, r, rfl, h1.fr f q, h2.fr f q⟩
theorem ptr_one {α : Type} {e : Rp α} {Z : Nat → Prop} {h : Heap} {v : Value} {x : α} (H : Rp.Pt e Z h v x) : oneCell v = true := by
  obtain ⟨b, ds, t, rfl, _⟩ := H
  rfl
theorem fill_3 {a b c x y z : Value} (ha : oneCell a = true) (hb : oneCell b = true) (hc : oneCell c = true) : fillL #[x, y, z] [(0, 1, a), (1, 1, b), (2, 1, c)] = some #[a, b, c] := by
  simp only [fillL, cells_one ha, cells_one hb, cells_one hc]
  rfl
abbrev noStg : Value := .agg #[.pointer none, .pointer none, .int .i64 0]
def makeC (o : OpD) (w h : Int) : Int := if ¬ opMay o ∨ ¬ sideOk w ∨ ¬ sideOk h then 6 else tablesC o w h
def makeS (o : OpD) (w h : Int) : Stg := ⟨tableX o w, tableY o h, o.border⟩
def StgOut (h : Heap) (code : Int) (s : Stg) (r : Value) (h' : Heap) : Prop := ∃ v, r = .tuple #[v, .int .i64 code] ∧ Ext h h' ∧ (code ≠ 0 → v = noStg) ∧ (code = 0 → IsStg (Since h h') h' v s)
theorem c_Make {Z : Nat → Prop} {h : Heap} (G : GlobB h) {cs : List Value} {o : OpD} (H : rOp.R Z h cs o) (W : o.Wf) (lx : o.x.length < 4611686018427387904) (ly : o.y.length < 4611686018427387904) {w hh : Int} (hw : I64 w) (hhh : I64 hh) :
    FCall Tryz.prog F_op_Make #[.agg cs.toArray, .int .i64 w, .int .i64 hh] h (StgOut h (makeC o w hh) (makeS o w hh)) := by
  apply ok_op_Make
  unfold sh_op_Make
  have H0 := H
  obtain ⟨s, t, rfl, Hx, Hy⟩ := H
  simp only [cells_agg]
  refine newK_use fun b h1 r1 e1 n1 => ?_
  have l1 := row_lt r1
  refine newK_use fun b2 h2 r2 e2 n2 => ?_
  have r1 := e2.row r1
  have e12 := e1.trans e2
  have l2 := row_lt r2
  have hb : b ≠ b2 := by omega
  rw [lds_row r1 9 rfl, vK_some]
  refine (c_opMay (G.ext e12) (rOp.ext H0 e12)).mono fun v h3 ⟨e, e3⟩ => ?_
  subst e
  have bad : ∀ (code : Int) (h4 : Heap), makeC o w hh = code → code ≠ 0 → Ext h2 h4 → stK 3 (.pointer (some ⟨b2, 0, none⟩)) (.agg #[.pointer none, .pointer none, .int .i64 0]) h4 fun _ h21 => vK (ldsV 3 h21 (.pointer (some ⟨b2, 0, none⟩))) fun v22 => StgOut h (makeC o w hh) (makeS o w hh) (.tuple #[v22, .int .i64 code]) h21 := by
    intro code h4 hmc hc e4
    rw [hmc]
    refine st_var (l := [.pointer none, .pointer none, .int .i64 0]) (e4.row r2) rfl (ones_cons rfl (ones_cons rfl (ones_cons rfl ones_nil))) rfl fun h5 r5 u5 => ?_
    rw [lds_row r5 3 rfl, vK_some]
    exact ⟨_, rfl, (e12.trans e4).upd (Nat.le_trans e1.1 n2) u5, fun _ => rfl, fun h => absurd h hc⟩
  by_cases hm : ¬ opMay o
  · have hmc : makeC o w hh = 6 := if_pos (.inl hm)
    simp only [go_sem, hm, fill_0, Option.map_some]
    exact bad 6 h3 hmc (by omega) e3
  have hm : opMay o := Decidable.of_not_not hm
  simp only [go_sem, hm]
  refine c_opSide.mono fun v h4 ⟨e, w⟩ => ?_
  subst e w
  by_cases hsw : ¬ sideOk w
  · have hmc : makeC o w hh = 6 := if_pos (.inr (.inl hsw))
    simp only [go_sem, hsw, fill_0, Option.map_some]
    exact bad 6 _ hmc (by omega) e3
  have hsw : sideOk w := Decidable.of_not_not hsw
  simp only [go_sem, hsw]
  refine c_opSide.mono fun v h5 ⟨e, w⟩ => ?_
  subst e w
  by_cases hsh : ¬ sideOk hh
  · have hmc : makeC o w hh = 6 := if_pos (.inr (.inr hsh))
    simp only [go_sem, hsh, fill_0, Option.map_some]
    exact bad 6 _ hmc (by omega) e3
  have hsh : sideOk hh := Decidable.of_not_not hsh
  have hmc : makeC o w hh = tablesC o w hh := if_neg (by rintro (h | h | h); exact h hm; exact h hsw; exact h hsh)
  simp only [go_sem, hsh]
  rw [lds_row (e3.row r1) 9 rfl, vK_some]
  refine (c_tables ((G.ext e12).ext e3) (rOp.ext (rOp.ext H0 e12) e3) W lx ly hw hhh).mono fun r h6 ⟨p, q, e, e6, hp⟩ => ?_
  subst e
  simp only [go_sem]
  refine iteK_dec (fun hc => ?_) (fun hc => ?_)
  · simp only [fill_0, Option.map_some, vK_some]
    exact bad _ _ hmc hc (e3.trans e6)
  have hc0 : tablesC o w hh = 0 := Decidable.of_not_not hc
  obtain ⟨hp1, hp2⟩ := hp hc0
  have c1 : cellOf h6 ⟨b, 1, none⟩ = some (.int .i64 o.border) := cell_row (e6.row (e3.row r1))
  simp only [go_sem, c1]
  rw [fill_3 (ptr_one hp1) (ptr_one hp2) rfl, Option.map_some, vK_some]
  refine st_var (l := [p, q, .int .i64 o.border]) (e6.row (e3.row r2)) rfl (ones_cons (ptr_one hp1) (ones_cons (ptr_one hp2) (ones_cons rfl ones_nil))) rfl fun h7 r7 u7 => ?_
  rw [lds_row r7 3 rfl, vK_some]
  have hz : ∀ c, c < h6.size → Since h5 h6 c → ¬ c = b2 := fun c _ hz he => by
    have := hz.1
    have := (e3.1)
    subst he
    omega
  have E : Ext h h6 := (e12.trans e3).trans e6
  have fin : ∀ {t : Tbl} {p : Value}, IsTbl (Since h5 h6) h6 p t → IsTbl (Since h h7) h7 p t := fun H => by
    have := Rp.Pt.fr H u7.fr hz
    refine this.mono fun c hc hz => ⟨?_, hc⟩
    exact Nat.le_trans (e12.trans e3).1 hz.1
  rw [hmc]
  exact ⟨.agg #[p, q, .int .i64 o.border], by rw [hc0], E.upd (Nat.le_trans e1.1 n2) u7, fun h => absurd hc0 h, fun _ => ⟨p, q, rfl, fin hp1, fin hp2⟩⟩
end Go.Proofs.YtefdokfnnokagaaGreatDoor
