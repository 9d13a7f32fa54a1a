/- RecipeCleans: an operation that is clean stays as it is, and does what the other one does. Conditions: none. -/
import Derived.Test.YtefdokfnnokagaaGreatDoorSd
import Derived.Test.YtefdokfnnokagaaGreatDoorSj
import Derived.Test.YtefdokfnnokagaaGreatDoorRo
import Derived.Test.YtefdokfnnokagaaGreatDoorVg
set_option linter.unusedVariables false
set_option linter.unusedSimpArgs false
set_option maxRecDepth 10000
namespace Go.Proofs.YtefdokfnnokagaaGreatDoor
open Go Go.Crisp
attribute [local irreducible] FCall rowK newK stK iteK vK qK drawK gK joinK loopK mkK appK cpyK nextStrK rangeStrK bsK clK

theorem clean_clean (o : OpD) : cleanD (cleanD o) = cleanD o := by
  unfold cleanD
  simp only
  congr 1 <;> split <;> simp_all
theorem clean_wf {o : OpD} (W : o.Wf) : (cleanD o).Wf := by
  have z : I64 0 := by unfold I64; omega
  constructor
  · exact W.kind
  · exact W.border
  · show I64 (if o.kind = 0 then o.sigma else 0)
    split; exact W.sigma; exact z
  · show I64 (if o.kind = 1 then o.radius else 0)
    split; exact W.radius; exact z
  · show I64 (if o.kind = 3 then o.filter else 0)
    split; exact W.filter; exact z
  · show I64 (if o.kind = 3 then o.w else 0)
    split; exact W.w; exact z
  · show I64 (if o.kind = 3 then o.hh else 0)
    split; exact W.hh; exact z
  · show ∀ n ∈ (if o.kind = 2 then o.x else []), I64 n
    split; exact W.x; simp
  · show ∀ n ∈ (if o.kind = 2 then o.y else []), I64 n
    split; exact W.y; simp
theorem clean_may (o : OpD) : opMay (cleanD o) ↔ opMay o := by
  unfold opMay cleanD
  simp only
  constructor
  · rintro ⟨h1, h2, h3⟩
    refine ⟨h1, h2, fun h => ?_⟩
    have := h3 h
    rw [if_pos h, if_pos h, if_pos h] at this
    exact this
  · rintro ⟨h1, h2, h3⟩
    refine ⟨h1, h2, fun h => ?_⟩
    rw [if_pos h, if_pos h, if_pos h]
    exact h3 h
theorem clean_weights {o : OpD} (h0 : 0 ≤ o.kind) (h3 : o.kind < 3) : weightsC (cleanD o) = weightsC o ∧ weightsX (cleanD o) = weightsX o ∧ weightsY (cleanD o) = weightsY o := by
  unfold weightsC weightsX weightsY cleanD
  simp only
  by_cases k0 : o.kind = 0
  · simp [k0]
  by_cases k1 : o.kind = 1
  · simp [k1]
  have k2 : o.kind = 2 := by omega
  simp [k2]
theorem clean_make (o : OpD) (w h : Int) : makeC (cleanD o) w h = makeC o w h ∧ (makeC o w h = 0 → makeS (cleanD o) w h = makeS o w h) := by
  have hm := clean_may o
  unfold makeC
  by_cases ho : opMay o
  · have hk := ho.1
    have e1 : tablesC (cleanD o) w h = tablesC o w h := by
      unfold tablesC
      by_cases k3 : o.kind = 3
      · have : (cleanD o).kind = 3 := k3
        rw [if_pos k3, if_pos this]
        unfold cleanD
        simp [k3]
      · have : ¬ (cleanD o).kind = 3 := k3
        obtain ⟨c1, c2, c3⟩ := clean_weights hk.1 (show o.kind < 3 by omega)
        rw [if_neg k3, if_neg this, c1, c2, c3]
    have e2 : makeS (cleanD o) w h = makeS o w h := by
      unfold makeS tableX tableY
      by_cases k3 : o.kind = 3
      · have : (cleanD o).kind = 3 := k3
        rw [if_pos k3, if_pos this, if_pos k3, if_pos this]
        unfold cleanD
        simp [k3]
      · have : ¬ (cleanD o).kind = 3 := k3
        obtain ⟨c1, c2, c3⟩ := clean_weights hk.1 (show o.kind < 3 by omega)
        rw [if_neg k3, if_neg this, if_neg k3, if_neg this, c2, c3]
        rfl
    refine ⟨?_, fun _ => e2⟩
    have hb : (¬ opMay (cleanD o) ∨ ¬ sideOk w ∨ ¬ sideOk h) ↔ (¬ opMay o ∨ ¬ sideOk w ∨ ¬ sideOk h) := by rw [hm]
    by_cases hx : ¬ opMay o ∨ ¬ sideOk w ∨ ¬ sideOk h
    · rw [if_pos (hb.2 hx), if_pos hx]
    · rw [if_neg (fun h => hx (hb.1 h)), if_neg hx, e1]
  · rw [if_pos (.inl (fun h => ho (hm.1 h))), if_pos (.inl ho)]
    exact ⟨rfl, fun h => by cases h⟩
theorem StgOut.open {h : Heap} {c : Int} {s : Stg} {r : Value} {h' : Heap} (H : StgOut h c s r h') : ∃ x y z, r = .tuple #[.agg #[x, y, z], .int .i64 c] ∧ Ext h h' ∧ (∀ v ∈ [x, y, z], oneCell v = true) ∧ (c = 0 → IsTbl (Since h h') h' x s.x ∧ IsTbl (Since h h') h' y s.y ∧ z = .int .i64 s.border) := by
  obtain ⟨v, rfl, e, h0, h1⟩ := H
  by_cases hc : c = 0
  · obtain ⟨p, q, rfl, hp, hq⟩ := h1 hc
    exact ⟨p, q, _, rfl, e, ones_cons (ptr_one hp) (ones_cons (ptr_one hq) (ones_cons rfl ones_nil)), fun _ => ⟨hp, hq, rfl⟩⟩
  · have := h0 hc
    subst this
    exact ⟨_, _, _, rfl, e, ones_cons rfl (ones_cons rfl (ones_cons rfl ones_nil)), fun h => absurd h hc⟩
theorem ptr_neq (a : Addr) : binV .p .neq (.pointer (some a)) (.pointer none) = some (.bool true) := rfl
theorem c_RecipeCleans {h : Heap} (G : GlobH h) {Z : Nat → Prop} {cs : List Value} {o : OpD} (H : rOp.R Z h cs o) (W : o.Wf) (hx : o.x.length ≤ 17592186044416) (hy : o.y.length ≤ 17592186044416) {w hh : Int} (hw : 0 ≤ w ∧ w ≤ 255) (hhh : 0 ≤ hh ∧ hh ≤ 255) :
    FCall Tryz.prog F_law13_RecipeCleans #[.agg cs.toArray, .int .u8 w, .int .u8 hh] h fun r h' => r = .bool true ∧ Ext h h' := by
  apply ok_law13_RecipeCleans
  unfold sh_law13_RecipeCleans
  have hlen := rOp.len H
  have hlen : cs.length = 9 := hlen
  simp only [cells_agg]
  refine newK_use fun b1 h1 r1 e1 n1 => ?_
  refine (c_Lives (G.ext e1)).mono fun v h2 ⟨e, e2⟩ => ?_
  subst e
  have e12 := e1.trans e2
  simp only [go_sem]
  rw [lds_row (e2.row r1) 9 hlen]
  simp only [go_sem]
  refine rowK_use (Rp.fill_whole rfl hlen) fun b3 h3 r3 e3 n3 => ?_
  have e13 := e12.trans e3
  have S3 : Rp.Sl rOp (fun _ => True) h3 (.slice (some ⟨b3, 0, none⟩) 1 1) [o] := by
    have hs := Rp.SlC.single r3
    rw [hlen] at hs
    refine ⟨cs, hs, fun _ _ _ => trivial, fun i hi => ?_⟩
    have : i = 0 := by simpa using hi
    subst this
    have he : Rp.el rOp.w cs 0 = cs := Rp.el_self (by exact hlen)
    rw [he]
    exact rOp.mono (rOp.ext H e13) fun _ _ _ => trivial
  refine (c_Little (side := 20) S3 (by simp)).mono fun v h4 ⟨e, e4⟩ => ?_
  subst e
  have e14 := e13.trans e4
  simp only [go_sem]
  refine iteK_dec (fun h0 => ?_) (fun h0 => ?_)
  · refine (c_Lives (G.ext e14)).mono fun v h5 ⟨e, e5⟩ => ?_
    subst e
    exact ⟨rfl, e14.trans e5⟩
  have hlo : littleOps 20 [o] := Decidable.of_not_not h0
  have hlo := hlo o (by simp)
  unfold tooMuch at hlo
  have r14 := (e2.trans (e3.trans e4)).row r1
  rw [lds_row r14 9 hlen, vK_some]
  refine (c_Clean (rOp.ext H e14) (by omega) (by omega)).mono fun v h5 ⟨ds, e, HD, e5⟩ => ?_
  subst e
  have hdl : ds.length = 9 := rOp.len HD
  refine var_new (cs := ds) hdl (rOp.one HD) hdl fun b6 h6 r6 e6 n6 => ?_
  have e16 := (e14.trans e5).trans e6
  rw [lds_row ((e5.trans e6).row r14) 9 hlen, vK_some]
  have num : ∀ (w : Int), 0 ≤ w ∧ w ≤ 255 → ∀ K : Value → Prop, K (.int .i64 (1 + w % 20)) → vK (binV .i .rem (.int .u8 w) (.int .u8 20)) fun v23 => vK (cviV .i64 v23) fun v24 => vK (binV .i .add (.int .i64 1) v24) K := by
    intro w hw K HK
    rw [binV_rem _ _ _ _ (by omega), vK_some, Int.tmod_eq_emod_of_nonneg hw.1, cviV_int, vK_some, w64 (by omega) (by omega), binV_add, vK_some, w64 (by omega) (by omega)]
    exact HK
  refine num w hw _ ?_
  refine num hh hhh _ ?_
  refine (c_Make (G.toGlobB.ext e16) (rOp.ext H e16) W (by omega) (by omega) (w := 1 + w % 20) (hh := 1 + hh % 20) (by unfold I64; omega) (by unfold I64; omega)).mono fun v h7 HO => ?_
  obtain ⟨x1, y1, z1, rfl, e7, o1, t1⟩ := HO.open
  simp only [go_sem]
  refine var_new (cs := [x1, y1, z1]) rfl o1 rfl fun b8 h8 r8 e8 n8 => ?_
  have e78 := e7.trans e8
  have e18 := e16.trans e78
  rw [lds_row (e78.row r6) 9 hdl, vK_some]
  refine num w hw _ ?_
  refine num hh hhh _ ?_
  have HD8 := rOp.ext (rOp.ext HD e6) e78
  have lxc : (cleanD o).x.length < 4611686018427387904 := by
    show (if o.kind = 2 then o.x else []).length < _
    split
    · omega
    · simp
  have lyc : (cleanD o).y.length < 4611686018427387904 := by
    show (if o.kind = 2 then o.y else []).length < _
    split
    · omega
    · simp
  have lxc2 : (cleanD o).x.length ≤ 1000000 := by
    show (if o.kind = 2 then o.x else []).length ≤ _
    split
    · omega
    · simp
  have lyc2 : (cleanD o).y.length ≤ 1000000 := by
    show (if o.kind = 2 then o.y else []).length ≤ _
    split
    · omega
    · simp
  refine (c_Make (G.toGlobB.ext e18) HD8 (clean_wf W) lxc lyc (w := 1 + w % 20) (hh := 1 + hh % 20) (by unfold I64; omega) (by unfold I64; omega)).mono fun v h9 HO2 => ?_
  obtain ⟨x2, y2, z2, rfl, e9, o2, t2⟩ := HO2.open
  simp only [go_sem]
  refine var_new (cs := [x2, y2, z2]) rfl o2 rfl fun b10 h10 r10 e10 n10 => ?_
  have e9' := e9.trans e10
  have r6' := (e78.trans e9').row r6
  obtain ⟨m1, m2⟩ := clean_make o (1 + w % 20) (1 + hh % 20)
  rw [m1] at t2 ⊢
  generalize hcode : makeC o (1 + w % 20) (1 + hh % 20) = code at *
  refine drawK_of (Ext h10) (Ext.refl _) ?_
  refine qK_val (.agg ds.toArray) (fun h' e => lds_row (e.row r6') 9 hdl) ?_
  refine qK_val (.agg ds.toArray) (fun h' e => lds_row (e.row r6') 9 hdl) ?_
  have HD10 := rOp.ext HD8 e9'
  refine (c_Clean HD10 lxc2 lyc2).mono fun v h11 ⟨ds2, e, HD2, e11⟩ => ?_
  subst e
  rw [clean_clean] at HD2
  refine ⟨e11, ?_⟩
  refine (c_Ref (rOp.ext HD10 e11)).mono fun v h12 ⟨e, HD3, e12'⟩ => ?_
  subst e
  refine (c_Same (rOp.ext HD2 e12') HD3 lxc2 lyc2).mono fun v h13 ⟨e, e13'⟩ => ?_
  subst e
  have e1013 := (e11.trans e12').trans e13'
  have eAll := (e18.trans e9').trans e1013
  have q0 : (code = code) = True := eq_true rfl
  simp only [go_sem, q0]
  by_cases hc : code = 0
  · have q1 : (code = 0) = True := eq_true hc
    obtain ⟨X1, Y1, rfl⟩ := t1 hc
    obtain ⟨X2, Y2, rfl⟩ := t2 hc
    rw [m2 hc] at X2 Y2
    have rr8 := (e9'.trans e1013).row r8
    have rr10 := e1013.row r10
    have X1' := (X1.ext e8).ext (e9'.trans e1013)
    have X2' := (X2.ext e10).ext e1013
    have px1 := X1
    obtain ⟨bx1, _, _, rfl, _⟩ := px1
    have px2 := X2
    obtain ⟨bx2, _, _, rfl, _⟩ := px2
    simp only [go_sem, q1]
    refine drawK_of (Ext h13) (Ext.refl _) ?_
    have c8 : ∀ h', Ext h13 h' → cellOf h' ⟨b8, 0, none⟩ = some (.pointer (some ⟨bx1, 0, none⟩)) := fun h' e => cell_row (e.row rr8)
    have c10 : ∀ h', Ext h13 h' → cellOf h' ⟨b10, 0, none⟩ = some (.pointer (some ⟨bx2, 0, none⟩)) := fun h' e => cell_row (e.row rr10)
    refine qK_val _ c8 ?_
    simp only [go_sem, ptr_neq]
    refine qK_val _ c10 ?_
    simp only [go_sem, ptr_neq]
    refine qK_val _ c8 ?_
    refine qK_val _ c10 ?_
    refine (c_To X1').mono fun v h14 ⟨e, w⟩ => ?_
    subst e w
    refine ⟨Ext.refl _, ?_⟩
    refine (c_To X2').mono fun v h15 ⟨e, w⟩ => ?_
    subst e w
    refine drawK_of (Ext h15) (Ext.refl _) ?_
    simp only [go_sem, decide_true]
    refine qK_val _ c8 ?_
    refine qK_val _ c10 ?_
    refine (c_Most X1').mono fun v h16 ⟨e, w⟩ => ?_
    subst e w
    refine ⟨Ext.refl _, ?_⟩
    refine (c_Most X2').mono fun v h17 ⟨e, w⟩ => ?_
    subst e w
    refine drawK_of (Ext h17) (Ext.refl _) ?_
    simp only [go_sem, decide_true]
    refine qK_val _ c8 ?_
    refine qK_val _ c10 ?_
    refine (c_tblSize X1').mono fun v h18 ⟨e, w⟩ => ?_
    subst e w
    refine ⟨Ext.refl _, ?_⟩
    refine (c_tblSize X2').mono fun v h19 ⟨e, w⟩ => ?_
    subst e w
    simp only [go_sem, decide_true]
    exact ⟨by simp, eAll⟩
  · have q1 : (code = 0) = False := eq_false hc
    simp only [go_sem, q1]
    refine drawK_of (Ext h13) (Ext.refl _) ?_
    refine qK_val undef (fun _ _ => rfl) ?_
    refine qK_val undef (fun _ _ => rfl) ?_
    refine qK_val undef (fun _ _ => rfl) ?_
    refine qK_val undef (fun _ _ => rfl) ?_
    refine ⟨Ext.refl _, ?_⟩
    refine drawK_of (Ext h13) (Ext.refl _) ?_
    refine qK_val undef (fun _ _ => rfl) ?_
    refine qK_val undef (fun _ _ => rfl) ?_
    refine ⟨Ext.refl _, ?_⟩
    refine drawK_of (Ext h13) (Ext.refl _) ?_
    refine qK_val undef (fun _ _ => rfl) ?_
    refine qK_val undef (fun _ _ => rfl) ?_
    exact ⟨Ext.refl _, by simp, eAll⟩
/-- .. as arguments read. -/
theorem r_RecipeCleans {L : List (String × DataW Unit)} (l : Lists L) (h : Heap) (args : Array Value) (H : Listed Tryz.prog L h) (R : ArgsRd [.st tOp, .int .u8, .int .u8] h args.toList) :
    FCall Tryz.prog F_law13_RecipeCleans args h fun r h' => r = .bool true ∧ Ext h h' := by
  obtain ⟨v, r, hr, ⟨x, c, rfl, hx⟩, u, r', hr', ⟨y, hy1, hy2⟩, u2, r2, hr2, ⟨z, hz1, hz2⟩, h0⟩ := R
  have h0 : r2 = [] := h0
  subst h0 hr2 hr'
  obtain rfl : u = .int .u8 y := by simpa using hy1
  obtain rfl : u2 = .int .u8 z := by simpa using hz1
  obtain rfl : args = #[.agg c, .int .u8 y, .int .u8 z] := by cases args; simp_all
  have hx : Rd tOp h c.toList x := hx
  obtain ⟨h1, h2⟩ := op_rd hx
  have hw1 := u8_wf hy2
  have hw2 := u8_wf hz2
  obtain ⟨l1, l2⟩ := op_len hx
  have := c_RecipeCleans (l.glob H) (Z := fun _ => True) (cs := c.toList) h1 h2 l1 l2 hw1 hw2
  rw [Array.toArray_toList] at this
  exact this
end Go.Proofs.YtefdokfnnokagaaGreatDoor
