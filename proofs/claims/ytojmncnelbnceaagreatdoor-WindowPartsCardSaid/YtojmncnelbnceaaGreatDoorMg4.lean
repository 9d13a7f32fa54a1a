/- Several texts of this session, one behind the other, without what this claim does not need (put together by its program pack.py). Conditions: none. -/
import Derived.Test.YtojmncnelbnceaaGreatDoorMg3
import Derived.MapKept
import Derived.Test.YtojmncnelbnceaaGreatDoorProg
import Derived.Shelf.SlIterI.Sorted
set_option linter.unusedVariables false
set_option linter.unusedSimpArgs false
set_option maxRecDepth 100000
namespace Go.Proofs.YtojmncnelbnceaaGreatDoor
open Go Go.Crisp
attribute [local irreducible] FCall rowK newK stK iteK vK qK drawK gK joinK loopK mkK appK cpyK zqt znp bsK clK
open _root_.Go.Proofs.Tryz
theorem bNameNil (b : Int) : bName b = [] ↔ ¬ (0 ≤ b ∧ b < 3) := by
 unfold bName
 split
 ·constructor
  ·intro h; cases h
  ·intro h; omega
 split
 ·constructor
  ·intro h; cases h
  ·intro h; omega
 split
 ·constructor
  ·intro h; cases h
  ·intro h; omega
 ·constructor
  ·intro _; omega
  ·intro _; rfl
def opMay (o : OpD) : Prop := (0 ≤ o.kind ∧ o.kind < 4) ∧ (0 ≤ o.border ∧ o.border < 3) ∧ (o.kind = 3 → zao o.w ∧ zao o.hh ∧ 0 ≤ o.filter ∧ o.filter < 3)
instance (o : OpD) : Decidable (opMay o) := by unfold opMay; infer_instance
theorem zmV {h : Heap} {n : Int} : FCall prog zgB #[.int .i64 n] h fun r h' => r = .bool (decide (zao n)) ∧ h' = h := by
 apply ok_op_side
 unfold zoX
 simp only [go_sem]
 exact ⟨rfl, by first | rfl | trivial⟩
theorem c_opMay {Z : Nat → Prop} {h : Heap} (G : GlobB h) {cs : List Value} {o : OpD} (H : rOp.R Z h cs o) : FCall prog zq5 #[.agg cs.toArray] h fun r h' => r = .bool (decide (opMay o)) ∧ Ext h h' := by
 apply ok_op_may
 unfold sh_op_may
 obtain ⟨s, t, rfl, Hx, Hy⟩ := H
 simp only [zax]
 refine zag fun b h1 r1 e1 n1 => ?_
 have G1 := G.ext e1
 simp only [go_sem, zac r1]
 have hbn := bNameNil o.border
 by_cases hk : o.kind < 0 ∨ 4 ≤ o.kind
 ·have q : opMay o = False := eq_false (by unfold opMay; omega)
  simp only [go_sem, hk, q]
  exact ⟨by simp, e1⟩
 simp only [go_sem, hk]
 refine (zmq G1).mono fun v h2 ⟨e, w⟩ => ?_
 subst e w
 try rw [S_nil]
 rw [zq3, zaa]
 by_cases hb : bName o.border = []
 ·have q : opMay o = False := eq_false (by unfold opMay; exact fun h => hbn.1 hb h.2.1)
  simp only [go_sem, hb, q]
  exact ⟨by simp, e1⟩
 have hb3 : 0 ≤ o.border ∧ o.border < 3 := Decidable.of_not_not fun h => hb (hbn.2 h)
 simp only [go_sem, hb, zac r1]
 by_cases hk3 : ¬ o.kind = 3
 ·have q : opMay o = True := eq_true ⟨by omega, hb3, fun h => absurd h hk3⟩
  simp only [go_sem, hk3, q]
  exact ⟨by simp, e1⟩
 have hk3 : o.kind = 3 := Decidable.of_not_not hk3
 simp only [go_sem, hk3, zac r1]
 refine zmV.mono fun v h3 ⟨e, w⟩ => ?_
 subst e w
 by_cases hw : ¬ zao o.w
 ·have q : opMay o = False := eq_false (fun h => hw (h.2.2 hk3).1)
  simp only [go_sem, hw, q]
  exact ⟨by simp, e1⟩
 have hw : zao o.w := Decidable.of_not_not hw
 simp only [go_sem, hw, zac r1]
 refine zmV.mono fun v h4 ⟨e, w⟩ => ?_
 subst e w
 by_cases hh : ¬ zao o.hh
 ·have q : opMay o = False := eq_false (fun h => hh (h.2.2 hk3).2.1)
  simp only [go_sem, hh, q]
  exact ⟨by simp, e1⟩
 have hh : zao o.hh := Decidable.of_not_not hh
 simp only [go_sem, hh, zac r1]
 refine (c_rawName G1).mono fun v h5 ⟨e, w⟩ => ?_
 subst e w
 try rw [S_nil]
 rw [zq2, zaa]
 have hfn := fNameNil o.filter
 simp only [go_sem]
 refine ⟨?_, e1⟩
 congr 1
 rw [decide_eq_decide]
 unfold opMay
 constructor
 ·intro hf
  exact ⟨by omega, hb3, fun _ => ⟨hw, hh, Decidable.of_not_not fun h => hf (hfn.2 h)⟩⟩
 ·intro hf he
  exact hfn.1 he (hf.2.2 hk3).2.2
def zcb (o : OpD) : Int := if o.kind = 0 then zn0 o.sigma else if o.kind = 1 then blurC o.radius else if userC o.x ≠ 0 then userC o.x else userC o.y
def zbe (o : OpD) : List Int := if o.kind = 0 then zgz o.sigma else if o.kind = 1 then blurW o.radius else userW o.x
def zaP (o : OpD) : List Int := if o.kind = 0 then zgz o.sigma else if o.kind = 1 then blurW o.radius else userW o.y
theorem zhy (o : OpD) : ∀ x ∈ zbe o, I64 x := by
 unfold zbe
 split
 ·exact zpk _
 split
 ·exact blurW_I64 _
 ·exact zm3 _
theorem zhx (o : OpD) : ∀ x ∈ zaP o, I64 x := by
 unfold zaP
 split
 ·exact zpk _
 split
 ·exact blurW_I64 _
 ·exact zm3 _
theorem zhz (l : List Int) : (userW l).length ≤ 1024 := by
 unfold userW
 split
 ·simp
 ·rename_i h
  unfold zcY at h
  rw [List.length_map]; omega
theorem zlD (s : Int) : (zgz s).length ≤ 1024 := by
 unfold zgz
 split
 ·simp
 ·rename_i h
  unfold zeK at h
  rw [List.length_map, List.length_range]
  unfold zcc; omega
theorem zoa (r : Int) : (blurW r).length ≤ 1024 := by
 unfold blurW
 split
 ·simp
 ·exact zhz _
theorem zlT (o : OpD) : (zbe o).length < 4611686018427387904 := by
 unfold zbe
 split
 ·have := zlD o.sigma; omega
 split
 ·have := zoa o.radius; omega
 ·have := zhz o.x; omega
theorem zlS (o : OpD) : (zaP o).length < 4611686018427387904 := by
 unfold zaP
 split
 ·have := zlD o.sigma; omega
 split
 ·have := zoa o.radius; omega
 ·have := zhz o.y; omega
abbrev Since (h h' : Heap) (c : Nat) : Prop := h.size ≤ c ∧ c < h'.size
theorem _root_.Go.Crisp.New.since {α : Type} {e : Rp α} {h0 h h' : Heap} {v : Value} {l : List α} (H : New e h h' v l) (k : Ext h0 h) : Rp.Sl e (Since h0 h') h' v l := H.sl.mono fun b hb hz => ⟨Nat.le_trans k.1 (H.2.2 b hz), hb⟩
theorem c_weights {Z : Nat → Prop} {h : Heap} {cs : List Value} {o : OpD} (H : rOp.R Z h cs o) (W : o.Wf) (lx : o.x.length < 4611686018427387904) (ly : o.y.length < 4611686018427387904) :
  FCall prog zij #[.agg cs.toArray] h fun r h' => ∃ u v, r = .tuple #[u, v, .int .i64 (zcb o)] ∧ Ext h h' ∧ (zcb o = 0 → SlI (Since h h') h' u (zbe o) ∧ SlI (Since h h') h' v (zaP o)) := by
 apply zql
 unfold zkm
 obtain ⟨s, t, rfl, Hx, Hy⟩ := H
 simp only [zax]
 refine zag fun b h1 r1 e1 n1 => ?_
 simp only [go_sem, zac r1]
 unfold zcb zbe zaP
 refine zab (fun hk => ?_) (fun hk => ?_)
 ·rw [if_pos hk, if_pos hk, if_pos hk]
  refine (zpA W.sigma).mono fun w h2 ⟨u, e, N⟩ => ?_
  subst e
  simp only [go_sem]
  exact ⟨u, u, rfl, e1.trans N.2.1, fun _ => ⟨N.since e1, N.since e1⟩⟩
 rw [if_neg hk, if_neg hk, if_neg hk]
 refine zab (fun hk1 => ?_) (fun hk1 => ?_)
 ·rw [if_pos hk1, if_pos hk1, if_pos hk1]
  refine (c_Blur W.radius).mono fun w h2 ⟨u, e, N⟩ => ?_
  subst e
  simp only [go_sem]
  exact ⟨u, u, rfl, e1.trans N.2.1, fun _ => ⟨N.since e1, N.since e1⟩⟩
 rw [if_neg hk1, if_neg hk1, if_neg hk1]
 refine (zlH (Hx.ext e1) W.x lx).mono fun w h2 ⟨u, e, N⟩ => ?_
 subst e
 simp only [go_sem]
 refine zab (fun hu => ?_) (fun hu => ?_)
 ·rw [if_pos hu]
  exact ⟨_, _, rfl, e1.trans N.2.1, fun h => absurd h hu⟩
 rw [if_neg hu]
 simp only [go_sem, zac (N.2.1.row r1)]
 refine (zlH ((Hy.ext e1).ext N.2.1) W.y ly).mono fun w h3 ⟨v, e, M⟩ => ?_
 subst e
 simp only [go_sem]
 refine ⟨u, v, rfl, (e1.trans N.2.1).trans M.2.1, fun _ => ⟨?_, M.since (e1.trans N.2.1)⟩⟩
 exact ((N.since e1).ext M.2.1).mono fun c hc hz => ⟨hz.1, hc⟩
def zcp (o : OpD) (w h : Int) : Int :=
 if o.kind = 3 then (if za2 o.filter w o.w ≠ 0 then za2 o.filter w o.w else za2 o.filter h o.hh)
 else if zcb o ≠ 0 then zcb o else if zcx (zbe o) w ≠ 0 then zcx (zbe o) w else zcx (zaP o) h
def zdE (o : OpD) (w : Int) : Tbl := if o.kind = 3 then zbA o.filter w o.w else zc1 (zbe o) w
def zbI (o : OpD) (h : Int) : Tbl := if o.kind = 3 then zbA o.filter h o.hh else zc1 (zaP o) h
theorem c_tables {Z : Nat → Prop} {h : Heap} (G : GlobB h) {cs : List Value} {o : OpD} (H : rOp.R Z h cs o) (W : o.Wf) (lx : o.x.length < 4611686018427387904) (ly : o.y.length < 4611686018427387904) {w hh : Int} (hw : I64 w) (hhh : I64 hh) :
  FCall prog zjP #[.agg cs.toArray, .int .i64 w, .int .i64 hh] h fun r h' => ∃ p q, r = .tuple #[p, q, .int .i64 (zcp o w hh)] ∧ Ext h h' ∧ (zcp o w hh = 0 → IsTbl (Since h h') h' p (zdE o w) ∧ IsTbl (Since h h') h' q (zbI o hh)) := by
 apply ok_op_tables
 unfold zmb
 have H0 := H
 obtain ⟨s, t, rfl, Hx, Hy⟩ := H
 simp only [zax]
 refine zag fun b h1 r1 e1 n1 => ?_
 have G1 := G.ext e1
 simp only [go_sem, zac r1]
 unfold zcp zdE zbI
 refine zab (fun hk => ?_) (fun hk => ?_)
 ·rw [if_pos hk, if_pos hk, if_pos hk]
  refine (zqX G1 W.filter hw W.w).mono fun r h2 ⟨p, e, e2, p0, p1⟩ => ?_
  subst e
  simp only [go_sem]
  refine zab (fun hc => ?_) (fun hc => ?_)
  ·rw [if_neg (by simpa using hc)]
   simp only [go_sem, zac (e2.row r1)]
   refine (zqX (G1.ext e2) W.filter hhh W.hh).mono fun r h3 ⟨q, e, e3, q0, q1⟩ => ?_
   subst e
   simp only [go_sem]
   refine ⟨p, q, rfl, (e1.trans e2).trans e3, fun h0 => ⟨?_, ?_⟩⟩
   ·exact ((p1 hc).ext e3).mono fun c hc hz => ⟨Nat.le_trans e1.1 hz.1, hc⟩
   ·exact (q1 h0).mono fun c hc hz => ⟨Nat.le_trans (e1.trans e2).1 hz.1, hz.2⟩
  ·rw [if_pos (by simpa using hc)]
   exact ⟨p, _, rfl, e1.trans e2, fun h0 => absurd h0 hc⟩
 rw [if_neg hk, if_neg hk, if_neg hk]
 rw [zal r1 9 rfl, zaa]
 refine (c_weights (rOp.ext H0 e1) W lx ly).mono fun r h2 ⟨u, v, e, e2, hu⟩ => ?_
 subst e
 simp only [go_sem]
 refine zab (fun hc => ?_) (fun hc => ?_)
 ·rw [if_pos hc]
  exact ⟨_, _, rfl, e1.trans e2, fun h0 => absurd h0 hc⟩
 have hc0 : zcb o = 0 := Decidable.of_not_not hc
 rw [if_neg hc]
 obtain ⟨Hu, Hv⟩ := hu hc0
 refine (c_Filter Hu (zhy o) (zlT o) hw).mono fun r h3 ⟨p, e, e3, p0, p1⟩ => ?_
 subst e
 simp only [go_sem]
 refine zab (fun hc => ?_) (fun hc => ?_)
 ·rw [if_neg (by simpa using hc)]
  refine (c_Filter (Hv.ext e3) (zhx o) (zlS o) hhh).mono fun r h4 ⟨q, e, e4, q0, q1⟩ => ?_
  subst e
  simp only [go_sem]
  refine ⟨p, q, rfl, ((e1.trans e2).trans e3).trans e4, fun h0 => ⟨?_, ?_⟩⟩
  ·exact ((p1 hc).ext e4).mono fun c hc hz => ⟨Nat.le_trans (e1.trans e2).1 hz.1, hc⟩
  ·exact (q1 h0).mono fun c hc hz => ⟨Nat.le_trans ((e1.trans e2).trans e3).1 hz.1, hz.2⟩
 ·rw [if_pos (by simpa using hc)]
  exact ⟨p, _, rfl, (e1.trans e2).trans e3, fun h0 => absurd h0 hc⟩
structure Stg where
 x : Tbl
 y : Tbl
 border : Int
def IsStg (Z : Nat → Prop) (h : Heap) (v : Value) (s : Stg) : Prop := ∃ p q, v = .agg #[p, q, .int .i64 s.border] ∧ IsTbl Z h p s.x ∧ IsTbl Z h q s.y
theorem IsStg.ext {Z : Nat → Prop} {h h' : Heap} {v : Value} {s : Stg} (H : IsStg Z h v s) (e : Ext h h') : IsStg Z h' v s := by
 obtain ⟨p, r, rfl, h1, h2⟩ := H
 exact ⟨p, r, rfl, h1.ext e, h2.ext e⟩
theorem zen {α : Type} {e : Rp α} {Z : Nat → Prop} {h : Heap} {v : Value} {x : α} (H : Rp.Pt e Z h v x) : zam v = true := by
 obtain ⟨b, ds, t, rfl, _⟩ := H
 rfl
theorem fill_3 {a b c x y z : Value} (ha : zam a = true) (hb : zam b = true) (hc : zam c = true) : fillL #[x, y, z] [(0, 1, a), (1, 1, b), (2, 1, c)] = some #[a, b, c] := by
 simp only [fillL, zaT ha, zaT hb, zaT hc]
 rfl
abbrev noStg : Value := .agg #[.pointer none, .pointer none, .int .i64 0]
def makeC (o : OpD) (w h : Int) : Int := if ¬ opMay o ∨ ¬ zao w ∨ ¬ zao h then 6 else zcp o w h
def makeS (o : OpD) (w h : Int) : Stg := ⟨zdE o w, zbI o h, o.border⟩
def StgOut (h : Heap) (code : Int) (s : Stg) (r : Value) (h' : Heap) : Prop := ∃ v, r = .tuple #[v, .int .i64 code] ∧ Ext h h' ∧ (code ≠ 0 → v = noStg) ∧ (code = 0 → IsStg (Since h h') h' v s)
theorem c_Make {Z : Nat → Prop} {h : Heap} (G : GlobB h) {cs : List Value} {o : OpD} (H : rOp.R Z h cs o) (W : o.Wf) (lx : o.x.length < 4611686018427387904) (ly : o.y.length < 4611686018427387904) {w hh : Int} (hw : I64 w) (hhh : I64 hh) :
  FCall prog zfx #[.agg cs.toArray, .int .i64 w, .int .i64 hh] h (StgOut h (makeC o w hh) (makeS o w hh)) := by
 apply ok_op_Make
 unfold zoZ
 have H0 := H
 obtain ⟨s, t, rfl, Hx, Hy⟩ := H
 simp only [zax]
 refine zag fun b h1 r1 e1 n1 => ?_
 have l1 := zaB r1
 refine zag fun b2 h2 r2 e2 n2 => ?_
 have r1 := e2.row r1
 have e12 := e1.trans e2
 have l2 := zaB r2
 have hb : b ≠ b2 := by omega
 rw [zal r1 9 rfl, zaa]
 refine (c_opMay (G.ext e12) (rOp.ext H0 e12)).mono fun v h3 ⟨e, e3⟩ => ?_
 subst e
 have bad : ∀ (code : Int) (h4 : Heap), makeC o w hh = code → code ≠ 0 → Ext h2 h4 → stK 3 (.pointer (some ⟨b2, 0, none⟩)) (.agg #[.pointer none, .pointer none, .int .i64 0]) h4 fun _ h21 => vK (ldsV 3 h21 (.pointer (some ⟨b2, 0, none⟩))) fun v22 => StgOut h (makeC o w hh) (makeS o w hh) (.tuple #[v22, .int .i64 code]) h21 := by
  intro code h4 hmc hc e4
  rw [hmc]
  refine zbt (l := [.pointer none, .pointer none, .int .i64 0]) (e4.row r2) rfl (zad rfl (zad rfl (zad rfl zaq))) rfl fun h5 r5 u5 => ?_
  rw [zal r5 3 rfl, zaa]
  exact ⟨_, rfl, (e12.trans e4).upd (Nat.le_trans e1.1 n2) u5, fun _ => rfl, fun h => absurd h hc⟩
 by_cases hm : ¬ opMay o
 ·have hmc : makeC o w hh = 6 := if_pos (.inl hm)
  simp only [go_sem, hm, zb7, Option.map_some]
  exact bad 6 h3 hmc (by omega) e3
 have hm : opMay o := Decidable.of_not_not hm
 simp only [go_sem, hm]
 refine zmV.mono fun v h4 ⟨e, w⟩ => ?_
 subst e w
 by_cases hsw : ¬ zao w
 ·have hmc : makeC o w hh = 6 := if_pos (.inr (.inl hsw))
  simp only [go_sem, hsw, zb7, Option.map_some]
  exact bad 6 _ hmc (by omega) e3
 have hsw : zao w := Decidable.of_not_not hsw
 simp only [go_sem, hsw]
 refine zmV.mono fun v h5 ⟨e, w⟩ => ?_
 subst e w
 by_cases hsh : ¬ zao hh
 ·have hmc : makeC o w hh = 6 := if_pos (.inr (.inr hsh))
  simp only [go_sem, hsh, zb7, Option.map_some]
  exact bad 6 _ hmc (by omega) e3
 have hsh : zao hh := Decidable.of_not_not hsh
 have hmc : makeC o w hh = zcp o w hh := if_neg (by rintro (h | h | h); exact h hm; exact h hsw; exact h hsh)
 simp only [go_sem, hsh]
 rw [zal (e3.row r1) 9 rfl, zaa]
 refine (c_tables ((G.ext e12).ext e3) (rOp.ext (rOp.ext H0 e12) e3) W lx ly hw hhh).mono fun r h6 ⟨p, q, e, e6, hp⟩ => ?_
 subst e
 simp only [go_sem]
 refine zab (fun hc => ?_) (fun hc => ?_)
 ·simp only [zb7, Option.map_some, zaa]
  exact bad _ _ hmc hc (e3.trans e6)
 have hc0 : zcp o w hh = 0 := Decidable.of_not_not hc
 obtain ⟨hp1, hp2⟩ := hp hc0
 have c1 : zah h6 ⟨b, 1, none⟩ = some (.int .i64 o.border) := zac (e6.row (e3.row r1))
 simp only [go_sem, c1]
 rw [fill_3 (zen hp1) (zen hp2) rfl, Option.map_some, zaa]
 refine zbt (l := [p, q, .int .i64 o.border]) (e6.row (e3.row r2)) rfl (zad (zen hp1) (zad (zen hp2) (zad rfl zaq))) rfl fun h7 r7 u7 => ?_
 rw [zal r7 3 rfl, zaa]
 have hz : ∀ c, c < h6.size → Since h5 h6 c → ¬ c = b2 := fun c _ hz he => by
  have := hz.1
  have := (e3.1)
  subst he
  omega
 have E : Ext h h6 := (e12.trans e3).trans e6
 have fin : ∀ {t : Tbl} {p : Value}, IsTbl (Since h5 h6) h6 p t → IsTbl (Since h h7) h7 p t := fun H => by
  have := Rp.Pt.fr H u7.fr hz
  refine this.mono fun c hc hz => ⟨?_, hc⟩
  exact Nat.le_trans (e12.trans e3).1 hz.1
 rw [hmc]
 exact ⟨.agg #[p, q, .int .i64 o.border], by rw [hc0], E.upd (Nat.le_trans e1.1 n2) u7, fun h => absurd hc0 h, fun _ => ⟨p, q, rfl, fin hp1, fin hp2⟩⟩
def NewR {α : Type} (e : Rp α) (h h' : Heap) (v : Value) (l : List α) : Prop := ∃ Z, Rp.Ow e Z h' v l ∧ Ext h h' ∧ (∀ b, blk v b → h.size ≤ b) ∧ ∀ c, Z c → h.size ≤ c ∧ c < h'.size
theorem NewR.nil {α : Type} {e : Rp α} {h h' : Heap} (k : Ext h h') : NewR e h h' (.slice none 0 0) [] := ⟨fun _ => False, Rp.Ow.nil, k, fun b hb => hb.elim, fun c hc => hc.elim⟩
theorem NewR.ext {α : Type} {e : Rp α} {h h' h2 : Heap} {v : Value} {l : List α} (H : NewR e h h' v l) (k : Ext h' h2) : NewR e h h2 v l := by
 obtain ⟨Z, o, x, n, z⟩ := H
 exact ⟨Z, o.ext k, x.trans k, n, fun c hc => ⟨(z c hc).1, Nat.lt_of_lt_of_le (z c hc).2 k.1⟩⟩
theorem NewR.exts {α : Type} {e : Rp α} {h h' : Heap} {v : Value} {l : List α} (H : NewR e h h' v l) : Ext h h' := by obtain ⟨Z, o, x, n, z⟩ := H; exact x
theorem NewR.sl {α : Type} {e : Rp α} {h h' : Heap} {v : Value} {l : List α} (H : NewR e h h' v l) : Rp.Sl e (Since h h') h' v l := by
 obtain ⟨Z, o, x, n, z⟩ := H
 exact o.sl.mono fun c hc hz => by
  rcases hz with hz | hz
  ·exact z c hz
  ·exact ⟨n c hz, hc⟩
theorem NewR.isSl {α : Type} {e : Rp α} {h h' : Heap} {v : Value} {l : List α} (H : NewR e h h' v l) : ∃ a cap, v = .slice a l.length cap := by obtain ⟨Z, o, x, n, z⟩ := H; exact o.isSl
theorem NewR.push {α : Type} {e : Rp α} {z : Value} {c : Array Value} {t t' : TypeId} {bytes : Nat} {h h1 : Heap} {v : Value} {l : List α} {cs : List Value} {x : α} {Y : Nat → Prop} {K : Value → Heap → Prop} (H : NewR e h h1 v l)
  (hx : e.R Y h1 cs x) (hY : ∀ b, Y b → h.size ≤ b ∧ b < h1.size ∧ ¬ blk v b) (hc : c.size = e.w) (hz : z.cells.size = e.w) (hb : (l.length + 1) * bytes ≤ 140737488355328) (hn : l.length + 1 ≤ 9223372036854775807)
  (HK : ∀ s' h', NewR e h h' s' (l ++ [x]) → Fr (blk v) h1 h' → (∀ b, blk s' b → blk v b ∨ h1.size ≤ b) → K s' h') : rowK c t 1 [(0, e.w, .agg cs.toArray)] h1 fun v2 h3 => appK z t' e.w bytes v v2 h3 K := by
 obtain ⟨Z, o, ex, n, zf⟩ := H
 have dz : ∀ b, blk v b → ¬ Z b := by obtain ⟨ds, _, d, _⟩ := o; exact d
 have o2 : Rp.Ow e (fun b => Z b ∨ Y b) h1 v l := o.mono (fun b _ hb => .inl hb) fun b hb hz => by
  rcases hz with hz | hz
  ·exact dz b hb hz
  ·exact (hY b hz).2.2 hb
 refine Rp.push_ow o2 (e.mono hx fun b _ hb => .inr hb) hc hz hb hn (fun b hb => ?_) fun s' h' o' f' n' => HK s' h' ⟨fun b => Z b ∨ Y b, o', ex.then_fr f' n, fun b hb => ?_, fun b hb => ?_⟩ f' n'
 ·rcases hb with hb | hb
  ·exact (zf b hb).2
  ·exact (hY b hb).2.1
 ·rcases n' b hb with h2 | h2
  ·exact n b h2
  ·exact Nat.le_trans ex.1 h2
 ·have hl := f'.1
  rcases hb with hb | hb
  ·have := zf b hb; omega
  ·have := hY b hb; omega
theorem NewR.lt {α : Type} {e : Rp α} {h h' : Heap} {v : Value} {l : List α} (H : NewR e h h' v l) {b : Nat} (hb : blk v b) : b < h'.size := by obtain ⟨Z, o, x, n, z⟩ := H; exact o.lt hb
theorem _root_.Go.Crisp.New.lt {α : Type} {e : Rp α} {h h' : Heap} {v : Value} {l : List α} (H : New e h h' v l) {b : Nat} (hb : blk v b) : b < h'.size := H.1.lt hb
theorem zqO {h : Heap} {n : Int} : FCall prog zei #[.int .i64 n] h fun r h' => r = .bool (decide (zao n)) ∧ h' = h := by
 apply zp6
 unfold zj7
 simp only [go_sem]
 exact ⟨rfl, trivial⟩
def LnOut (h : Heap) (code : Int) (ls : List (Int × List Int)) (r : Value) (h' : Heap) : Prop := ∃ v, r = .tuple #[v, .int .i64 code] ∧ Ext h h' ∧ (code ≠ 0 → v = .slice none 0 0) ∧ (code = 0 → NewR rLine h h' v ls)
theorem zps {h : Heap} {f n m : Int} (hf : I64 f) (hn : I64 n) (hm : I64 m) : FCall prog zd4 #[.int .i64 f, .int .i64 n, .int .i64 m] h (LnOut h (za2 f n m) (zbA f n m).lines) := by
 apply znz
 unfold zhI
 have rc : za2 f n m = if ¬ (0 ≤ f ∧ f < 3) ∨ ¬ zao n ∨ ¬ zao m then 6 else za4 (fun i => zaS (zaW f n m i)) m.toNat := rfl
 have bad : ∀ b : Bool, (b = true ↔ (¬ (0 ≤ f ∧ f < 3) ∨ ¬ zao n ∨ ¬ zao m)) → ∀ X : Prop, ((0 ≤ f ∧ f < 3) → zao n → zao m → X) → iteK (.bool b)
   (LnOut h (za2 f n m) (zbA f n m).lines (.tuple #[.slice none 0 0, .int .i64 6]) h) X := by
  intro b hb X hX
  refine zeX (fun hc => ?_) (fun hc => ?_)
  ·rw [rc, if_pos (hb.1 hc)]
   exact ⟨_, rfl, Ext.refl _, fun _ => rfl, fun h => by cases h⟩
  ·have hnb : ¬ (¬ (0 ≤ f ∧ f < 3) ∨ ¬ zao n ∨ ¬ zao m) := fun hh => by rw [hb.2 hh] at hc; cases hc
   exact hX (Decidable.of_not_not fun hh => hnb (.inl hh)) (Decidable.of_not_not fun hh => hnb (.inr (.inl hh))) (Decidable.of_not_not fun hh => hnb (.inr (.inr hh)))
 have rest : (0 ≤ f ∧ f < 3) → zao n → zao m → loopK [.slice none 0 0, .int .i64 0] h fun x15 j16 h17 again18 =>
   vK (binV .i .lss (ix x15 1) (.int .i64 m)) fun v19 => iteK v19 (
    FCall prog zg2 #[.int .i64 f, .int .i64 n, .int .i64 m, (ix x15 1)] h17 fun v20 h21 =>
    vK (extV v20 0) fun v22 => vK (extV v20 1) fun v23 =>
    FCall prog zb3 #[v23] h21 fun v24 h25 =>
    vK (extV v24 0) fun v26 => vK (extV v24 1) fun v27 =>
    vK (binV .i .neq v27 (.int .i64 0)) fun v28 => iteK v28 (
     LnOut h (za2 f n m) (zbA f n m).lines (.tuple #[(.slice none 0 0), v27]) h25) (
     vK ((fillL #[(.int .i64 0), (.slice none 0 0)] [(0, 1, v22), (1, 1, v26)]).map .agg) fun v29 =>
     rowK #[(.int .i64 0), (.slice none 0 0)] 114 1 [(0, 2, v29)] h25 fun v30 h31 =>
     appK (.agg #[.int .i64 0, .slice none 0 0]) 114 2 32 (ix x15 0) v30 h31 fun v32 h33 =>
     vK (binV .i .add (ix x15 1) (.int .i64 1)) fun v34 => again18 [v32, v34] h33)) (
    LnOut h (za2 f n m) (zbA f n m).lines (.tuple #[(ix x15 0), (.int .i64 0)]) h17) := by
  intro hf3 hsn hsm
  rw [if_neg (by rintro (h | h | h); exact h hf3; exact h hsn; exact h hsm)] at rc
  rw [rc]
  have hsm' := hsm
  unfold zao at hsm'
  refine zaz m.toNat 0 (fun k v => [v, .int .i64 (k : Int)]) (fun k v h' => za4 (fun i => zaS (zaW f n m i)) k = 0 ∧ NewR rLine h h' v ((List.range k).map fun i : Nat => (zbj f n m i, zaC (zaW f n m i)))) (.slice none 0 0) rfl (Nat.zero_le _)
   ⟨rfl, NewR.nil (Ext.refl _)⟩ fun k v h5 again ρj _ hk ⟨hg, T⟩ Hag => ?_
  simp only [go_sem]
  refine zab (fun h6 => ?_) (fun h6 => ?_)
  ·have hk' : k < m.toNat := by omega
   refine c_r5Row.mono fun w h7 ⟨u, e, Nw⟩ => ?_
   subst e
   try simp only [go_sem]
   refine (zk6 Nw.sl (zgv _ _ _ _) (zo2 _ _ _ _)).mono fun w h8 ⟨u, e, Nu⟩ => ?_
   subst e
   try simp only [go_sem]
   refine zab (fun h9 => ?_) (fun h9 => ?_)
   ·have hc : za4 (fun i => zaS (zaW f n m i)) (k + 1) = zaS (zaW f n m k) := by
     show (if za4 (fun i => zaS (zaW f n m i)) k ≠ 0 then _ else _) = _
     rw [if_neg (by rw [hg]; simp)]
    have hs := zk1 (g := fun i => zaS (zaW f n m i)) (k := k + 1) (n := m.toNat) (by rw [hc]; exact h9) hk'
    rw [hs, hc]
    exact ⟨_, rfl, (T.exts.trans Nw.2.1).trans Nu.2.1, fun _ => rfl, fun h => absurd h h9⟩
   ·have h9 : zaS (zaW f n m k) = 0 := Decidable.of_not_not h9
    rw [zk2 (a := .int .i64 (zbj f n m k)) (b := u) rfl Nu.sl.one, Option.map_some, zaa]
    have T2 := T.ext (Nw.2.1.trans Nu.2.1)
    refine NewR.push (e := rLine) (cs := [.int .i64 (zbj f n m k), u]) (x := (zbj f n m k, zaC (zaW f n m k))) (Y := blk u) T2 ⟨u, rfl, Nu.sl⟩ (fun b hb => ⟨Nat.le_trans (T.exts.trans Nw.2.1).1 (Nu.2.2 b hb), Nu.lt hb, fun hv => ?_⟩) rfl rfl (by simp; omega) (by simp; omega) fun s' h' N' _ _ => ?_
    ·have h10 := T.lt hv
     have h11 := Nu.2.2 b hb
     have h12 := Nw.2.1.1
     omega
    ·try simp only [go_sem]
     rw [w64 (by omega) (by omega)]
     refine Hag s' h' hk' ⟨?_, ?_⟩
     ·show (if za4 (fun i => zaS (zaW f n m i)) k ≠ 0 then _ else _) = _
      rw [if_neg (by rw [hg]; simp)]
      exact h9
     ·rw [List.range_succ, List.map_append]
      exact N'
  ·have : k = m.toNat := by omega
   subst this
   exact ⟨_, by rw [hg], T.exts, fun h => absurd hg h, fun _ => T⟩
 by_cases hf3 : 0 ≤ f ∧ f < 3
 ·have q1 : (f < 0) = False := eq_false (by omega)
  have q2 : (2 < f) = False := eq_false (by omega)
  simp only [go_sem, q1, q2]
  refine zqO.mono fun v1 h2 ⟨e1, w1⟩ => ?_
  have w1 := w1.symm
  subst e1 w1
  by_cases hsn : zao n
  ·simp only [go_sem, hsn]
   refine zqO.mono fun v1 h2 ⟨e1, w1⟩ => ?_
   have w1 := w1.symm
   subst e1 w1
   simp only [go_sem]
   refine bad _ ?_ _ rest
   rw [decide_eq_true_eq]
   constructor
   ·exact fun hh => .inr (.inr hh)
   ·rintro (hh | hh | hh)
    ·exact absurd hf3 hh
    ·exact absurd hsn hh
    ·exact hh
  ·simp only [go_sem, hsn]
   exact (zfl _ _).mp (bad true ⟨fun _ => .inr (.inl hsn), fun _ => rfl⟩ True fun _ _ _ => trivial)
 ·have q1 : (f < 0 ∨ 2 < f) = True := eq_true (by omega)
  simp only [go_sem, q1]
  exact (zfl _ _).mp (bad true ⟨fun _ => .inl hf3, fun _ => rfl⟩ True fun _ _ _ => trivial)
theorem zpt {h : Heap} {Z : Nat → Prop} {v : Value} {l : List Int} {n : Int} (H : SlI Z h v l) (h64 : ∀ x ∈ l, I64 x) (hl : l.length < 4611686018427387904) (hn : I64 n) : FCall prog zd5 #[v, .int .i64 n] h (LnOut h (zcx l n) (zc1 l n).lines) := by
 apply znA
 unfold zhJ
 refine zqO.mono fun v1 h1 ⟨e1, w1⟩ => ?_
 have w1 := w1.symm
 subst e1 w1
 unfold zcx zc1
 obtain ⟨a, cap, e⟩ := H.isSl
 have e2 : zaf v = some (.int .i64 (l.length : Int)) := by rw [e]; rfl
 by_cases hsn : ¬ zao n
 ·rw [if_pos hsn]
  simp only [go_sem, hsn]
  exact ⟨_, rfl, Ext.refl _, fun _ => rfl, fun h => by cases h⟩
 rw [if_neg hsn]
 have hsn : zao n := Decidable.of_not_not hsn
 have hsn' := hsn
 unfold zao at hsn'
 simp only [go_sem, hsn, e2]
 rw [zaJ _ _ _ _ (by omega), zaa, Int.tmod_eq_emod_of_nonneg (by omega)]
 simp only [go_sem]
 refine zab (fun h0 => ?_) (fun h0 => ?_)
 ·rw [if_pos (by omega)]
  exact ⟨_, rfl, Ext.refl _, fun _ => rfl, fun h => by cases h⟩
 rw [if_neg (by omega)]
 refine (zk6 H h64 hl).mono fun w h2 ⟨u, e, Nu⟩ => ?_
 subst e
 simp only [go_sem]
 refine zab (fun h9 => ?_) (fun h9 => ?_)
 ·exact ⟨_, rfl, Nu.2.1, fun _ => rfl, fun h => absurd h h9⟩
 have h9 : zaS l = 0 := Decidable.of_not_not h9
 have hal : (zaC l).length = l.length := by unfold zaC; rw [if_pos h9, zeW]
 have bd := zeZ h64
 refine zaz n.toNat 0 (fun k v => [v, .int .i64 (k : Int)]) (fun k v h' => NewR rLine h h' v ((List.range k).map fun i : Nat => ((i : Int) - (l.length / 2 : Nat), zaC l)) ∧ SlI (blk u) h' u (zaC l) ∧ Ext h2 h' ∧ (∀ b, blk v b → h2.size ≤ b) ∧ ∀ b, blk u b → ¬ blk v b) (.slice none 0 0) rfl (Nat.zero_le _)
  ⟨NewR.nil Nu.2.1, Nu.sl, Ext.refl _, fun b hb => hb.elim, fun b _ hb => hb⟩ fun k v h5 again ρj _ hk ⟨T, Hu, E, NV, D⟩ Hag => ?_
 try simp only [go_sem]
 refine zab (fun h6 => ?_) (fun h6 => ?_)
 ·have hk' : k < n.toNat := by omega
  try simp only [go_sem, e2]
  rw [zdY _ _ _ _ (by omega), zaa, Int.tdiv_eq_ediv_of_nonneg (by omega), w64 (n := (l.length : Int) / 2) (by omega) (by omega)]
  try simp only [go_sem]
  rw [w64 (n := (k : Int) - (l.length : Int) / 2) (by omega) (by omega), show (k : Int) - (l.length : Int) / 2 = (k : Int) - (l.length / 2 : Nat) by omega]
  rw [zk2 (a := .int .i64 ((k : Int) - (l.length / 2 : Nat))) (b := u) rfl Hu.one, Option.map_some, zaa]
  refine NewR.push (e := rLine) (cs := [.int .i64 ((k : Int) - (l.length / 2 : Nat)), u]) (x := ((k : Int) - (l.length / 2 : Nat), zaC l)) (Y := blk u) T ⟨u, rfl, Hu⟩ (fun b hb => ⟨Nu.2.2 b hb, Nat.lt_of_lt_of_le (Nu.lt hb) E.1, D b hb⟩) rfl rfl (by simp; omega) (by simp; omega) fun s' h' N' F' n' => ?_
  try simp only [go_sem]
  rw [w64 (by omega) (by omega)]
  refine Hag s' h' hk' ⟨?_, Hu.fr F' fun b _ hb => D b hb, ?_, ?_, fun b hb hs => ?_⟩
  ·rw [List.range_succ, List.map_append]
   exact N'
  ·exact E.then_fr F' NV
  ·intro b hb
   rcases n' b hb with h10 | h10
   ·exact NV b h10
   ·exact Nat.le_trans E.1 h10
  ·rcases n' b hs with h10 | h10
   ·exact D b hb h10
   ·have := Nu.lt hb
    have := E.1
    omega
 ·have : k = n.toNat := by omega
  subst this
  exact ⟨_, by rw [h9], T.exts, fun h => absurd h9 h, fun _ => T⟩
def zgE (side : Int) (o : OpD) : Prop := 40 < o.x.length ∨ 40 < o.y.length ∨ (262144 < o.sigma ∧ o.sigma ≤ 4194304) ∨ (20 < o.radius ∧ o.radius < 512) ∨ (side < o.w ∧ o.w ≤ 65536) ∨ (side < o.hh ∧ o.hh ≤ 65536)
instance (side : Int) (o : OpD) : Decidable (zgE side o) := by unfold zgE; infer_instance
def zgy (side : Int) (l : List OpD) : Prop := ∀ o ∈ l, ¬ zgE side o
instance (side : Int) (l : List OpD) : Decidable (zgy side l) := by unfold zgy; infer_instance
theorem c_Little {Z : Nat → Prop} {h : Heap} {v : Value} {l : List OpD} {side : Int} (H : Rp.Sl rOp Z h v l) (hl : l.length < 4611686018427387904) :
  FCall prog zgg #[v, .int .i64 side] h fun r h' => r = .bool (decide (zgy side l)) ∧ Ext h h' := by
 apply znF
 unfold zhO
 obtain ⟨a, cap, e⟩ := H.isSl
 have e2 : zaf v = some (.int .i64 (l.length : Int)) := by rw [e]; rfl
 rw [e2, zaa]
 refine zaz l.length 0 (fun k (_ : Unit) => [.int .i64 (k : Int)]) (fun k _ h' => Ext h h' ∧ ∀ o ∈ l.take k, ¬ zgE side o) () rfl (Nat.zero_le _) ⟨Ext.refl _, by simp⟩ fun k _ h1 again ρj _ hk ⟨E1, hI⟩ Hag => ?_
 simp only [go_sem]
 refine zab (fun h0 => ?_) (fun h0 => ?_)
 ·have hk' : k < l.length := by omega
  obtain ⟨p, cs, q1, q2, Ho⟩ := Rp.Sl.atw (e := rOp) (H.ext E1) (show 0 < 9 by omega) (k := .i64) hk'
  have q1 : idxV 9 v (.int .i64 (k : Int)) = some p := q1
  have q2 : ldsV 9 h1 p = some (.agg cs.toArray) := q2
  rw [q1, zaa, q2, zaa]
  have Ho0 := Ho
  have ho1 := rOp.one Ho
  obtain ⟨s, t, rfl, Hx, Hy⟩ := Ho
  refine zaR (cs := [.int .i64 l[k].kind, .int .i64 l[k].border, .int .i64 l[k].sigma, .int .i64 l[k].radius, s, t, .int .i64 l[k].filter, .int .i64 l[k].w, .int .i64 l[k].hh]) rfl ho1 rfl fun b h2 r2 e3 n3 => ?_
  obtain ⟨ax, cx, ex⟩ := Hx.isSl
  have ex2 : zaf s = some (.int .i64 (l[k].x.length : Int)) := by rw [ex]; rfl
  obtain ⟨ay, cy, ey⟩ := Hy.isSl
  have ey2 : zaf t = some (.int .i64 (l[k].y.length : Int)) := by rw [ey]; rfl
  simp only [go_sem, zac r2, ex2, ey2]
  refine zab (fun h3 => ?_) (fun h3 => ?_)
  ·refine ⟨?_, E1.trans e3⟩
   congr 1
   rw [Eq.comm, decide_eq_false_iff_not]
   intro hh
   refine hh _ (List.getElem_mem hk') ?_
   unfold zgE
   omega
  ·rw [w64 (by omega) (by omega)]
   refine Hag () h2 hk' ⟨E1.trans e3, fun o ho => ?_⟩
   rw [List.take_succ_eq_append_getElem hk'] at ho
   rcases List.mem_append.1 ho with ho | ho
   ·exact hI o ho
   ·rw [List.mem_singleton.1 ho]
    unfold zgE
    omega
 ·rw [List.take_of_length_le (by omega)] at hI
  refine ⟨?_, E1⟩
  congr 1
  rw [Eq.comm, decide_eq_true_eq]
  exact hI
theorem c_opSize {Z : Nat → Prop} {h : Heap} {cs : List Value} {o : OpD} (H : rOp.R Z h cs o) {w hh : Int} : FCall prog zog #[.agg cs.toArray, .int .i64 w, .int .i64 hh] h fun r h' =>
  r = .tuple #[.int .i64 (if o.kind = 3 then o.w else w), .int .i64 (if o.kind = 3 then o.hh else hh)] ∧ Ext h h' := by
 apply ok_op_Size
 unfold zoY
 obtain ⟨s, t, rfl, Hx, Hy⟩ := H
 simp only [zax]
 refine zag fun b h1 r1 e1 n1 => ?_
 simp only [go_sem, zac r1]
 refine zab (fun hk => ?_) (fun hk => ?_)
 ·rw [if_pos hk, if_pos hk]
  simp only [go_sem, zac r1]
  exact ⟨by simp, e1⟩
 ·rw [if_neg hk, if_neg hk]
  exact ⟨rfl, e1⟩
def rStg : Rp Stg where
 w := 5
 R := fun Z h cs s => ∃ x y, cs = [x, y, .int .i64 s.x.n, .int .i64 s.y.n, .int .i64 s.border] ∧ Rp.Sl rLine Z h x s.x.lines ∧ Rp.Sl rLine Z h y s.y.lines
 len := by rintro _ _ _ _ ⟨x, y, rfl, _⟩; rfl
 one := by
  rintro _ _ _ _ ⟨x, y, rfl, H, K⟩
  exact zad H.one (zad K.one (zad rfl (zad rfl (zad rfl zaq))))
 fr := by rintro _ _ _ _ _ _ ⟨x, y, rfl, H, K⟩ f q; exact ⟨x, y, rfl, H.fr f q, K.fr f q⟩
 mono := by rintro _ _ _ _ _ ⟨x, y, rfl, H, K⟩ q; exact ⟨x, y, rfl, H.mono q, K.mono q⟩
abbrev noR12 : List Value := [.slice none 0 0, .slice none 0 0, .int .i64 0, .int .i64 0, .int .i64 0]
def RStgOut (h : Heap) (code : Int) (s : Stg) (r : Value) (h' : Heap) : Prop := ∃ cs, r = .tuple #[.agg cs.toArray, .int .i64 code] ∧ Ext h h' ∧ (code ≠ 0 → cs = noR12) ∧ (code = 0 → rStg.R (Since h h') h' cs s)
theorem zla {h : Heap} {n : Int} : FCall prog zdf #[.int .i64 n] h fun r h' => r = .bool (decide (zao n)) ∧ h' = h := by
 apply zp1
 unfold zj2
 simp only [go_sem]
 exact ⟨rfl, trivial⟩
theorem fill_235 {a b c v w x y z : Value} (ha : zam a = true) (hb : zam b = true) (hc : zam c = true) : fillL #[v, w, x, y, z] [(2, 1, a), (3, 1, b), (4, 1, c)] = some #[v, w, a, b, c] := by
 simp only [fillL, zaT ha, zaT hb, zaT hc]
 rfl
theorem c_r12Make {Z : Nat → Prop} {h : Heap} {cs : List Value} {o : OpD} (H : rOp.R Z h cs o) (W : o.Wf) (lx : o.x.length < 4611686018427387904) (ly : o.y.length < 4611686018427387904) {w hh : Int} (hw : I64 w) (hhh : I64 hh) :
  FCall prog zie #[.agg cs.toArray, .int .i64 w, .int .i64 hh] h (RStgOut h (makeC o w hh) (makeS o w hh)) := by
 apply zp3
 unfold zj4
 have H0 := H
 obtain ⟨s, t, rfl, Hx, Hy⟩ := H
 simp only [zax]
 refine zag fun b h1 r1 e1 n1 => ?_
 have l1 := zaB r1
 refine zag fun b2 h2 r2 e2 n2 => ?_
 have r1 := e2.row r1
 have e12 := e1.trans e2
 have l2 := zaB r2
 have hb : b ≠ b2 := by omega
 have k2 : h.size ≤ b2 := Nat.le_trans e1.1 n2
 have bad : ∀ (code : Int) (h4 : Heap), makeC o w hh = code → code ≠ 0 → Ext h2 h4 → stK 5 (.pointer (some ⟨b2, 0, none⟩)) (.agg #[.slice none 0 0, .slice none 0 0, .int .i64 0, .int .i64 0, .int .i64 0]) h4 fun _ h21 => vK (ldsV 5 h21 (.pointer (some ⟨b2, 0, none⟩))) fun v22 => RStgOut h (makeC o w hh) (makeS o w hh) (.tuple #[v22, .int .i64 code]) h21 := by
  intro code h4 hmc hc e4
  rw [hmc]
  refine zbt (l := noR12) (e4.row r2) rfl (zad rfl (zad rfl (zad rfl (zad rfl (zad rfl zaq))))) rfl fun h5 r5 u5 => ?_
  rw [zal r5 5 rfl, zaa]
  exact ⟨noR12, rfl, (e12.trans e4).upd k2 u5, fun _ => rfl, fun h => absurd h hc⟩
 have m6 : (¬ opMay o ∨ ¬ zao w ∨ ¬ zao hh) → makeC o w hh = 6 := fun hc => if_pos hc
 by_cases hm : ((o.kind < 0 ∨ 3 < o.kind) ∨ o.border < 0) ∨ 2 < o.border
 ·have hmc := m6 (.inl (by unfold opMay; omega))
  simp only [go_sem, zac r1, hm]
  simp only [zb7, Option.map_some, zaa]
  exact bad 6 h2 hmc (by omega) (Ext.refl _)
 have hk0 : 0 ≤ o.kind ∧ o.kind < 4 := by omega
 have hb0 : 0 ≤ o.border ∧ o.border < 3 := by omega
 simp only [go_sem, zac r1, hm]
 refine zla.mono fun v h4 ⟨e, wq⟩ => ?_
 have wq := wq.symm
 subst e wq
 by_cases hsw : ¬ zao w
 ·have hmc := m6 (.inr (.inl hsw))
  simp only [go_sem, hsw, zb7, Option.map_some]
  exact bad 6 _ hmc (by omega) (Ext.refl _)
 have hsw : zao w := Decidable.of_not_not hsw
 simp only [go_sem, hsw]
 refine zla.mono fun v h5 ⟨e, wq⟩ => ?_
 have wq := wq.symm
 subst e wq
 by_cases hsh : ¬ zao hh
 ·have hmc := m6 (.inr (.inr hsh))
  simp only [go_sem, hsh, zb7, Option.map_some]
  exact bad 6 _ hmc (by omega) (Ext.refl _)
 have hsh : zao hh := Decidable.of_not_not hsh
 have mt : opMay o → makeC o w hh = zcp o w hh := fun hm => if_neg (by rintro (h | h | h); exact h hm; exact h hsw; exact h hsh)
 simp only [go_sem, hsh, zac r1]
 rw [fill_235 rfl rfl rfl, Option.map_some, zaa]
 refine zaR (cs := [.slice none 0 0, .slice none 0 0, .int .i64 w, .int .i64 hh, .int .i64 o.border]) rfl (zad rfl (zad rfl (zad rfl (zad rfl (zad rfl zaq))))) rfl fun b3 h3 r3 e3 n3 => ?_
 have r1 := e3.row r1
 have r2 := e3.row r2
 have e03 := e12.trans e3
 have l3 := zaB r3
 have k3 : h.size ≤ b3 := Nat.le_trans e12.1 n3
 have hb3 : b3 ≠ b := by have := e2.1; omega
 have hb32 : b3 ≠ b2 := by omega
 -- a row of lines is stored
 have put0 : ∀ {h4 : Heap} {u : Value} {a c : Value} {K : Value → Heap → Prop}, zam u = true → h4[b3]? = some (.cells #[a, c, .int .i64 w, .int .i64 hh, .int .i64 o.border] 39 (0, 0)) →
   (∀ h5, h5[b3]? = some (.cells #[u, c, .int .i64 w, .int .i64 hh, .int .i64 o.border] 39 (0, 0)) → Upd b3 h4 h5 → K undef h5) → stK 1 (.pointer (some ⟨b3, 0, none⟩)) u h4 K := by
  intro h4 u a c K hu r HK
  exact zbl r (by simp) hu fun h5 r5 u5 => HK h5 r5 u5
 have put1 : ∀ {h4 : Heap} {u : Value} {a c : Value} {K : Value → Heap → Prop}, zam u = true → h4[b3]? = some (.cells #[a, c, .int .i64 w, .int .i64 hh, .int .i64 o.border] 39 (0, 0)) →
   (∀ h5, h5[b3]? = some (.cells #[a, u, .int .i64 w, .int .i64 hh, .int .i64 o.border] 39 (0, 0)) → Upd b3 h4 h5 → K undef h5) → stK 1 (.pointer (some ⟨b3, 1, none⟩)) u h4 K := by
  intro h4 u a c K hu r HK
  exact zbl r (by simp) hu fun h5 r5 u5 => HK h5 r5 u5
 -- the end
 have fin : ∀ {h6 : Heap} {x y : Value}, Ext h h6 → h6[b2]? = some (.cells #[.slice none 0 0, .slice none 0 0, .int .i64 0, .int .i64 0, .int .i64 0] 39 (0, 0)) → h6[b3]? = some (.cells #[x, y, .int .i64 w, .int .i64 hh, .int .i64 o.border] 39 (0, 0)) →
   Rp.Sl rLine (Since h3 h6) h6 x (zdE o w).lines → Rp.Sl rLine (Since h3 h6) h6 y (zbI o hh).lines → (zdE o w).n = w → (zbI o hh).n = hh → makeC o w hh = 0 →
   vK (ldsV 5 h6 (.pointer (some ⟨b3, 0, none⟩))) fun v99 => stK 5 (.pointer (some ⟨b2, 0, none⟩)) v99 h6 fun _ h101 => vK (ldsV 5 h101 (.pointer (some ⟨b2, 0, none⟩))) fun v102 => RStgOut h (makeC o w hh) (makeS o w hh) (.tuple #[v102, .int .i64 0]) h101 := by
  intro h6 x y E q2 q3 Hx Hy nx ny hmc
  rw [zal (l := [x, y, .int .i64 w, .int .i64 hh, .int .i64 o.border]) q3 5 rfl, zaa]
  have ones : ∀ v ∈ [x, y, .int .i64 w, .int .i64 hh, .int .i64 o.border], zam v = true := zad Hx.one (zad Hy.one (zad rfl (zad rfl (zad rfl zaq))))
  refine zbt (l := [x, y, .int .i64 w, .int .i64 hh, .int .i64 o.border]) q2 rfl ones rfl fun h7 r7 u7 => ?_
  rw [zal r7 5 rfl, zaa]
  have hz : ∀ c, c < h6.size → Since h3 h6 c → ¬ c = b2 := fun c _ hz he => by
   have := hz.1
   have := zaB r2
   omega
  refine ⟨_, by rw [hmc], E.upd k2 u7, fun h => absurd hmc h, fun _ => ⟨x, y, ?_, ?_, ?_⟩⟩
  ·show _ = [x, y, .int .i64 (zdE o w).n, .int .i64 (zbI o hh).n, .int .i64 o.border]
   rw [nx, ny]
  ·exact (Hx.fr u7.fr hz).mono fun c hc hz => ⟨Nat.le_trans e03.1 hz.1, hc⟩
  ·exact (Hy.fr u7.fr hz).mono fun c hc hz => ⟨Nat.le_trans e03.1 hz.1, hc⟩
 have nX : (zdE o w).n = w := by unfold zdE; split <;> rfl
 have nY : (zbI o hh).n = hh := by unfold zbI; split <;> rfl
 simp only [go_sem, zac r1]
 refine zab (fun hk => ?_) (fun hk => ?_)
 ·refine zla.mono fun v h5 ⟨e, wq⟩ => ?_
  have wq := wq.symm
  subst e wq
  by_cases hrw : ¬ zao o.w
  ·have hmc := m6 (.inl (by unfold opMay; rintro ⟨_, _, hx⟩; exact hrw (hx hk).1))
   simp only [go_sem, hrw, zb7, Option.map_some]
   exact bad 6 _ hmc (by omega) e3
  have hrw : zao o.w := Decidable.of_not_not hrw
  simp only [go_sem, hrw, zac r1]
  refine zla.mono fun v h5 ⟨e, wq⟩ => ?_
  have wq := wq.symm
  subst e wq
  by_cases hrh : ¬ zao o.hh
  ·have hmc := m6 (.inl (by unfold opMay; rintro ⟨_, _, hx⟩; exact hrh (hx hk).2.1))
   simp only [go_sem, hrh, zb7, Option.map_some]
   exact bad 6 _ hmc (by omega) e3
  have hrh : zao o.hh := Decidable.of_not_not hrh
  simp only [go_sem, hrh, zac r1]
  refine zab (fun hfl => ?_) (fun hfl => ?_)
  ·have hmc := m6 (.inl (by unfold opMay; rintro ⟨_, _, hx⟩; have := (hx hk).2.2; omega))
   simp only [zb7, Option.map_some, zaa]
   exact bad 6 _ hmc (by omega) e3
  have hom : opMay o := ⟨hk0, hb0, fun _ => ⟨hrw, hrh, by omega, by omega⟩⟩
  have hmt := mt hom
  unfold zcp at hmt
  rw [if_pos hk] at hmt
  have tX : (zdE o w).lines = (zbA o.filter w o.w).lines := by unfold zdE; rw [if_pos hk]
  have tY : (zbI o hh).lines = (zbA o.filter hh o.hh).lines := by unfold zbI; rw [if_pos hk]
  refine (zps W.filter hw W.w).mono fun r h4 ⟨p, e, e4, p0, p1⟩ => ?_
  subst e
  simp only [go_sem]
  have po : zam p = true := by
   by_cases hc : za2 o.filter w o.w = 0
   ·obtain ⟨_, _, e⟩ := (p1 hc).isSl; rw [e]; rfl
   ·rw [p0 hc]; rfl
  refine put0 po (e4.row r3) fun h5 r5 u5 => ?_
  have E5 := (e03.trans e4).upd k3 u5
  have E25 := (e3.trans e4).upd n3 u5
  refine zab (fun hc => ?_) (fun hc => ?_)
  ·rw [if_pos hc] at hmt
   simp only [zb7, Option.map_some, zaa]
   exact bad _ _ hmt hc E25
  have hc : za2 o.filter w o.w = 0 := Decidable.of_not_not hc
  rw [if_neg (by simpa using hc)] at hmt
  have r1' := u5.row (Ne.symm hb3) (e4.row r1)
  simp only [go_sem, zac r1']
  refine (zps W.filter hhh W.hh).mono fun r h6 ⟨q, e, e6, q0, q1⟩ => ?_
  subst e
  simp only [go_sem]
  have qo : zam q = true := by
   by_cases hc : za2 o.filter hh o.hh = 0
   ·obtain ⟨_, _, e⟩ := (q1 hc).isSl; rw [e]; rfl
   ·rw [q0 hc]; rfl
  refine put1 qo (e6.row r5) fun h7 r7 u7 => ?_
  have E7 := (E5.trans e6).upd k3 u7
  have E27 := (E25.trans e6).upd n3 u7
  refine zab (fun hc2 => ?_) (fun hc2 => ?_)
  ·simp only [zb7, Option.map_some, zaa]
   exact bad _ _ hmt hc2 E27
  have hc2 : za2 o.filter hh o.hh = 0 := Decidable.of_not_not hc2
  have zz : ∀ {a d : Heap}, h3.size ≤ a.size → ∀ c, c < d.size → Since a d c → ¬ c = b3 := fun ha c _ hz he => by
   have := hz.1
   omega
  refine fin E7 (u7.row (Ne.symm hb32) (e6.row (u5.row (Ne.symm hb32) (e4.row r2)))) r7 ?_ ?_ nX nY (by rw [hmt, hc2])
  ·rw [tX]
   have a1 := (p1 hc).sl.fr u5.fr (zz (Nat.le_refl _))
   have a2 := (a1.ext e6).mono (Z' := Since h3 h6) fun c _ hz => ⟨hz.1, by have := hz.2; have := u5.1; have := e6.1; omega⟩
   exact (a2.fr u7.fr (zz (Nat.le_refl _))).mono fun c hc hz => ⟨hz.1, hc⟩
  ·rw [tY]
   have b1 : h3.size ≤ h5.size := by have := e4.1; have := u5.1; omega
   exact ((q1 hc2).sl.fr u7.fr (zz b1)).mono fun c hc hz => ⟨Nat.le_trans b1 hz.1, hc⟩
 have hom : opMay o := ⟨hk0, hb0, fun h => absurd h hk⟩
 have hmt := mt hom
 unfold zcp at hmt
 rw [if_neg hk] at hmt
 have tX : (zdE o w).lines = (zc1 (zbe o) w).lines := by unfold zdE; rw [if_neg hk]
 have tY : (zbI o hh).lines = (zc1 (zaP o) hh).lines := by unfold zbI; rw [if_neg hk]
 refine zat (fun xs h4 => ∃ u v, xs = [.int .i64 (zcb o), u, v] ∧ Ext h3 h4 ∧ (zcb o = 0 → SlI (Since h3 h4) h4 u (zbe o) ∧ SlI (Since h3 h4) h4 v (zaP o))) ?_ ?_
 ·refine zab (fun k0 => ?_) (fun k0 => ?_)
  ·refine (c_r6Gaussian W.sigma).mono fun r h4 ⟨u, e, N⟩ => ?_
   subst e
   simp only [go_sem]
   have c1 : zcb o = zn0 o.sigma := by unfold zcb; rw [if_pos k0]
   have c2 : zbe o = zgz o.sigma := by unfold zbe; rw [if_pos k0]
   have c3 : zaP o = zgz o.sigma := by unfold zaP; rw [if_pos k0]
   rw [c1, c2, c3]
   exact ⟨u, u, rfl, N.2.1, fun _ => ⟨N.since (Ext.refl _), N.since (Ext.refl _)⟩⟩
  refine zab (fun k1 => ?_) (fun k1 => ?_)
  ·simp only [go_sem, zac r1]
   refine (c_r6Blur W.radius).mono fun r h4 ⟨u, e, N⟩ => ?_
   subst e
   simp only [go_sem]
   have c1 : zcb o = blurC o.radius := by unfold zcb; rw [if_neg k0, if_pos k1]
   have c2 : zbe o = blurW o.radius := by unfold zbe; rw [if_neg k0, if_pos k1]
   have c3 : zaP o = blurW o.radius := by unfold zaP; rw [if_neg k0, if_pos k1]
   rw [c1, c2, c3]
   exact ⟨u, u, rfl, N.2.1, fun _ => ⟨N.since (Ext.refl _), N.since (Ext.refl _)⟩⟩
  have k2 : (o.kind = 2) = True := eq_true (by omega)
  simp only [go_sem, zac r1, k2]
  have c1 : zcb o = if userC o.x ≠ 0 then userC o.x else userC o.y := by unfold zcb; rw [if_neg k0, if_neg k1]
  have c2 : zbe o = userW o.x := by unfold zbe; rw [if_neg k0, if_neg k1]
  have c3 : zaP o = userW o.y := by unfold zaP; rw [if_neg k0, if_neg k1]
  refine (zqP (Hx.ext e03) W.x lx).mono fun r h4 ⟨u, e, N⟩ => ?_
  subst e
  simp only [go_sem, zac (N.2.1.row r1)]
  refine (zqP (Hy.ext (e03.trans N.2.1)) W.y ly).mono fun r h5 ⟨v, e, M⟩ => ?_
  subst e
  simp only [go_sem]
  have s1 : SlI (Since h3 h5) h5 u (userW o.x) := ((N.since (Ext.refl _)).ext M.2.1).mono fun c hc hz => ⟨hz.1, Nat.lt_of_lt_of_le hz.2 M.2.1.1⟩
  have s2 : SlI (Since h3 h5) h5 v (userW o.y) := M.since N.2.1
  rw [c1, c2, c3]
  refine zab (fun hc => ?_) (fun hc => ?_)
  ·rw [if_neg (by simpa using hc)]
   exact ⟨u, v, rfl, N.2.1.trans M.2.1, fun _ => ⟨s1, s2⟩⟩
  ·rw [if_pos hc]
   exact ⟨u, v, rfl, N.2.1.trans M.2.1, fun _ => ⟨s1, s2⟩⟩
 rintro xs ρj h4 ⟨u, v, rfl, e4, hu⟩
 have e34 := e4
 simp only [go_sem]
 refine zab (fun hc => ?_) (fun hc => ?_)
 ·rw [if_pos hc] at hmt
  simp only [zb7, Option.map_some, zaa]
  exact bad _ _ hmt hc (e3.trans e4)
 have hc0 : zcb o = 0 := Decidable.of_not_not hc
 rw [if_neg hc] at hmt
 obtain ⟨Hu, Hv⟩ := hu hc0
 refine (zpt Hu (zhy o) (zlT o) hw).mono fun r h5 ⟨p, e, e5, p0, p1⟩ => ?_
 subst e
 simp only [go_sem]
 have po : zam p = true := by
  by_cases hc : zcx (zbe o) w = 0
  ·obtain ⟨_, _, e⟩ := (p1 hc).isSl; rw [e]; rfl
  ·rw [p0 hc]; rfl
 refine put0 po ((e4.trans e5).row r3) fun h6 r6 u6 => ?_
 have E6 := (e03.trans (e4.trans e5)).upd k3 u6
 have E26 := (e3.trans (e4.trans e5)).upd n3 u6
 refine zab (fun hc => ?_) (fun hc => ?_)
 ·rw [if_pos hc] at hmt
  simp only [zb7, Option.map_some, zaa]
  exact bad _ _ hmt hc E26
 have hc : zcx (zbe o) w = 0 := Decidable.of_not_not hc
 rw [if_neg (by simpa using hc)] at hmt
 have zz : ∀ {a d : Heap}, h3.size ≤ a.size → ∀ c, c < d.size → Since a d c → ¬ c = b3 := fun ha c _ hz he => by
  have := hz.1
  omega
 refine (zpt ((Hv.ext e5).fr u6.fr fun c _ hz he => by have := hz.1; omega) (zhx o) (zlS o) hhh).mono fun r h7 ⟨q, e, e7, q0, q1⟩ => ?_
 subst e
 simp only [go_sem]
 have qo : zam q = true := by
  by_cases hc : zcx (zaP o) hh = 0
  ·obtain ⟨_, _, e⟩ := (q1 hc).isSl; rw [e]; rfl
  ·rw [q0 hc]; rfl
 refine put1 qo (e7.row r6) fun h8 r8 u8 => ?_
 have E8 := (E6.trans e7).upd k3 u8
 have E28 := (E26.trans e7).upd n3 u8
 refine zab (fun hc2 => ?_) (fun hc2 => ?_)
 ·simp only [zb7, Option.map_some, zaa]
  exact bad _ _ hmt hc2 E28
 have hc2 : zcx (zaP o) hh = 0 := Decidable.of_not_not hc2
 refine fin E8 (u8.row (Ne.symm hb32) (e7.row (u6.row (Ne.symm hb32) ((e4.trans e5).row r2)))) r8 ?_ ?_ nX nY (by rw [hmt, hc2])
 ·rw [tX]
  have a1 := (p1 hc).sl.fr u6.fr (zz e4.1)
  have a2 := (a1.ext e7).mono (Z' := Since h3 h7) fun c _ hz => ⟨Nat.le_trans e4.1 hz.1, by have := hz.2; have := u6.1; have := e7.1; omega⟩
  exact (a2.fr u8.fr (zz (Nat.le_refl _))).mono fun c hc hz => ⟨hz.1, hc⟩
 ·rw [tY]
  have b1 : h3.size ≤ h6.size := by have := e4.1; have := e5.1; have := u6.1; omega
  exact ((q1 hc2).sl.fr u8.fr (zz b1)).mono fun c hc hz => ⟨Nat.le_trans b1 hz.1, hc⟩
theorem c_r12Size {Z : Nat → Prop} {h : Heap} {cs : List Value} {o : OpD} (H : rOp.R Z h cs o) {w hh : Int} : FCall prog zid #[.agg cs.toArray, .int .i64 w, .int .i64 hh] h fun r h' =>
  r = .tuple #[.int .i64 (if o.kind = 3 then o.w else w), .int .i64 (if o.kind = 3 then o.hh else hh)] ∧ Ext h h' := by
 apply zp2
 unfold zj3
 obtain ⟨s, t, rfl, Hx, Hy⟩ := H
 simp only [zax]
 refine zag fun b h1 r1 e1 n1 => ?_
 simp only [go_sem, zac r1]
 refine zab (fun hk => ?_) (fun hk => ?_)
 ·rw [if_pos hk, if_pos hk]; exact ⟨rfl, e1⟩
 ·rw [if_neg hk, if_neg hk]; exact ⟨rfl, e1⟩
end Go.Proofs.YtojmncnelbnceaaGreatDoor
namespace Go.Proofs.YtojmncnelbnceaaGreatDoor
open Go Go.Crisp
attribute [local irreducible] FCall rowK newK stK iteK vK qK drawK gK joinK loopK mkK appK cpyK zqt znp bsK
open _root_.Go.Proofs.Tryz
theorem rI_cell {Z : Nat → Prop} {h : Heap} {v : Value} {l : List Int} (H : Rp.Sl rI Z h v l) {i : Nat} (hi : i < l.length) :
  ∃ p, idxV 1 v (.int .i64 (i : Int)) = some p ∧ ldV h p = some (.int .i64 l[i]) := by
 obtain ⟨p, c, hp, hc, hR⟩ := H.at1 rfl (k := .i64) hi
 have hR : [c] = [.int .i64 l[i]] := hR
 obtain rfl : c = .int .i64 l[i] := by simpa using hR
 exact ⟨p, hp, hc⟩
theorem c_Same06 {h : Heap} {Z Z' : Nat → Prop} {v u : Value} {l : List Int} (H : Rp.Sl rI Z h v l) (K : Rp.Sl rI Z' h u l) (hl : l.length ≤ 4398046511104) :
  FCall prog zf6 #[v, u] h fun r h' => r = .bool true ∧ h' = h := by
 apply zqa
 unfold zkb
 have H0 := H
 have K0 := K
 obtain ⟨a, c, rfl⟩ := H.isSl
 obtain ⟨a', c', rfl⟩ := K.isSl
 simp only [go_sem]
 refine loop_count l.length (fun i h2 => i ≤ l.length ∧ h2 = h) ⟨by omega, rfl⟩ ?_
 rintro i _ again ρj ⟨hi, rfl⟩ hag
 simp only [go_sem]
 refine zab (fun h1 => ?_) (fun h1 => ?_)
 ·have hi' : i < l.length := by omega
  obtain ⟨p, hp, hc⟩ := rI_cell H0 hi'
  obtain ⟨q, hq, hd⟩ := rI_cell K0 hi'
  simp only [go_sem, hp, hc, hq, hd]
  rw [w64 (by omega) (by omega)]
  exact hag _ hi' ⟨by omega, rfl⟩
 ·exact ⟨trivial, trivial⟩
theorem c_Ref {h : Heap} {Z : Nat → Prop} {cs : List Value} {o : OpD} (H : rOp.R Z h cs o) :
  FCall prog zjQ #[.agg cs.toArray] h fun r h' => r = .agg cs.toArray ∧ rOp.R Z h' cs o ∧ Ext h h' := by
 apply ok_law12_Ref
 unfold zmc
 have H0 := H
 obtain ⟨s, t, rfl, Hx, Hy⟩ := H
 have os := Hx.one
 have ot := Hy.one
 simp only [zax]
 refine zag fun b1 h1 r1 e1 n1 => zag fun b2 h2 r2 e2 n2 => ?_
 have r1 := e2.row r1
 have e := e1.trans e2
 have s1 := e1.1
 simp only [go_sem, zac r1]
 have hf : fillL #[(.int .i64 0), (.int .i64 0), (.int .i64 0), (.int .i64 0), (.slice none 0 0), (.slice none 0 0), (.int .i64 0), (.int .i64 0), (.int .i64 0)]
   [(0, 1, (.int .i64 o.kind)), (1, 1, (.int .i64 o.border)), (2, 1, (.int .i64 o.sigma)), (3, 1, (.int .i64 o.radius)), (4, 1, s), (5, 1, t), (6, 1, (.int .i64 o.filter)), (7, 1, (.int .i64 o.w)), (8, 1, (.int .i64 o.hh))] =
   some #[.int .i64 o.kind, .int .i64 o.border, .int .i64 o.sigma, .int .i64 o.radius, s, t, .int .i64 o.filter, .int .i64 o.w, .int .i64 o.hh] := by
  simp [fillL, zaT os, zaT ot, zaT (show zam (.int _ _) = true from rfl)]
 rw [hf, Option.map_some, zaa]
 refine zbt (l := [.int .i64 o.kind, .int .i64 o.border, .int .i64 o.sigma, .int .i64 o.radius, s, t, .int .i64 o.filter, .int .i64 o.w, .int .i64 o.hh]) r2 rfl (rOp.one H0) rfl fun h3 r3 u3 => ?_
 rw [zal r3 9 rfl, zaa]
 exact ⟨rfl, rOp.ext H0 (e.upd (by omega) u3), e.upd (by omega) u3⟩
end Go.Proofs.YtojmncnelbnceaaGreatDoor
namespace Go.Proofs.YtojmncnelbnceaaGreatDoor
open Go Go.Crisp
attribute [local irreducible] FCall rowK newK stK iteK vK qK drawK gK joinK loopK mkK appK cpyK zqt znp bsK clK
open _root_.Go.Proofs.Tryz
def fitsZ (w h c : Int) : Prop := 1 ≤ w ∧ w ≤ 65536 ∧ 1 ≤ h ∧ h ≤ 65536 ∧ (c = 1 ∨ c = 3) ∧ w * h * c ≤ 268435456
instance (w h c : Int) : Decidable (fitsZ w h c) := by unfold fitsZ; infer_instance
theorem c_Fits {h : Heap} {x y c : Int} : FCall prog zdy #[.int .i64 x, .int .i64 y, .int .i64 c] h fun r h' => r = .bool (decide (fitsZ x y c)) ∧ h' = h := by
 apply zox
 unfold zi7
 simp only [go_sem]
 refine ⟨?_, trivial⟩
 congr 1
 rw [decide_eq_decide]
 unfold fitsZ
 by_cases h1 : 1 ≤ x ∧ x ≤ 65536 ∧ 1 ≤ y ∧ y ≤ 65536 ∧ (c = 1 ∨ c = 3)
 ·have hm := zh1 (a := x) (A := 65536) (b := y) (B := 65536) (by omega) (by omega) (by omega) (by omega)
  rw [w64 (n := x * y) (by omega) (by omega), w64 (n := x * y * c) (by rcases h1.2.2.2.2 with h | h <;> subst h <;> omega) (by rcases h1.2.2.2.2 with h | h <;> subst h <;> omega)]
  omega
 ·omega
theorem c_r9Fits {h : Heap} {x y c : Int} : FCall prog zf3 #[.int .i64 x, .int .i64 y, .int .i64 c] h fun r h' => r = .bool (decide (fitsZ x y c)) ∧ h' = h := by
 apply zp5
 unfold zj6
 simp only [go_sem]
 refine zab (fun h0 => ?_) (fun h0 => ?_)
 ·refine ⟨?_, trivial⟩
  rw [decide_eq_false]
  unfold fitsZ; omega
 refine zab (fun h1 => ?_) (fun h1 => ?_)
 ·refine ⟨?_, trivial⟩
  rw [decide_eq_false]
  unfold fitsZ; omega
 have hm := zh1 (a := x) (A := 65536) (b := y) (B := 65536) (by omega) (by omega) (by omega) (by omega)
 rw [w64 (n := x * y) (by omega) (by omega), zdY _ _ _ _ (by omega), zaa]
 simp only [go_sem]
 refine ⟨?_, trivial⟩
 congr 1
 rw [decide_eq_decide]
 unfold fitsZ
 have hc : c = 1 ∨ c = 3 := by omega
 rcases hc with hc | hc <;> subst hc
 ·rw [show Int.tdiv 268435456 1 = 268435456 from by decide, w64 (by omega) (by omega)]; omega
 ·rw [show Int.tdiv 268435456 3 = 89478485 from by decide, w64 (by omega) (by omega)]; omega
def sizeW (o : OpD) (w : Int) : Int := if o.kind = 3 then o.w else w
def sizeH (o : OpD) (h : Int) : Int := if o.kind = 3 then o.hh else h
def allC (c : Int) : List OpD → Int → Int → Int
 | [], _, _ => 0
 | o :: l, w, h => if makeC o w h ≠ 0 then makeC o w h else if ¬ fitsZ (sizeW o w) (sizeH o h) c then 5 else allC c l (sizeW o w) (sizeH o h)
def allS : List OpD → Int → Int → List Stg
 | [], _, _ => []
 | o :: l, w, h => makeS o w h :: allS l (sizeW o w) (sizeH o h)
def opsC (l : List OpD) (w h c : Int) : Int := if 16 < l.length then 6 else if ¬ fitsZ w h c then 5 else allC c l w h
def rStgP : Rp Stg where
 w := 3
 R := fun Z h cs s => ∃ p q, cs = [p, q, .int .i64 s.border] ∧ IsTbl Z h p s.x ∧ IsTbl Z h q s.y
 len := by rintro _ _ _ _ ⟨x, y, rfl, _⟩; rfl
 one := by
  rintro _ _ _ _ ⟨x, y, rfl, H, K⟩
  exact zad (zen H) (zad (zen K) (zad rfl zaq))
 fr := by rintro _ _ _ _ _ _ ⟨x, y, rfl, H, K⟩ f q; exact ⟨x, y, rfl, Rp.Pt.fr H f q, Rp.Pt.fr K f q⟩
 mono := by rintro _ _ _ _ _ ⟨x, y, rfl, H, K⟩ q; exact ⟨x, y, rfl, Rp.Pt.mono H q, Rp.Pt.mono K q⟩
theorem isStg_iff {Z : Nat → Prop} {h : Heap} {cs : List Value} {s : Stg} : rStgP.R Z h cs s ↔ IsStg Z h (.agg cs.toArray) s := by
 constructor
 ·rintro ⟨p, q, rfl, h1, h2⟩; exact ⟨p, q, rfl, h1, h2⟩
 ·rintro ⟨p, q, e, h1, h2⟩
  refine ⟨p, q, ?_, h1, h2⟩
  have : cs.toArray = #[p, q, .int .i64 s.border] := by injection e
  simpa using congrArg Array.toList this
def AllOut (e : Rp Stg) (h : Heap) (code : Int) (l : List Stg) (r : Value) (h' : Heap) : Prop := ∃ v, r = .tuple #[v, .int .i64 code] ∧ Ext h h' ∧ (code ≠ 0 → v = .slice none 0 0) ∧ (code = 0 → NewR e h h' v l)
structure OpsWf (l : List OpD) : Prop where
 wf : ∀ o ∈ l, o.Wf
 len : ∀ o ∈ l, o.x.length ≤ 17592186044416 ∧ o.y.length ≤ 17592186044416
 few : l.length ≤ 4398046511104
theorem size_I64 {o : OpD} (W : o.Wf) {w h : Int} (hw : I64 w) (hh : I64 h) : I64 (sizeW o w) ∧ I64 (sizeH o h) := by
 unfold sizeW sizeH
 constructor
 ·split; exact W.w; exact hw
 ·split; exact W.hh; exact hh
theorem drop_cons {α : Type} {l : List α} {k : Nat} (h : k < l.length) : l.drop k = l[k] :: l.drop (k + 1) := List.drop_eq_getElem_cons h
theorem c_opAll {Z : Nat → Prop} {h : Heap} (G : GlobB h) {v : Value} {l : List OpD} (H : Rp.Sl rOp Z h v l) (W : OpsWf l) {w hh c : Int} (hw : I64 w) (hhh : I64 hh) :
  FCall prog zq6 #[v, .int .i64 w, .int .i64 hh, .int .i64 c] h (AllOut rStgP h (opsC l w hh c) (allS l w hh)) := by
 apply ok_op_All
 unfold sh_op_All
 obtain ⟨a, cap, e⟩ := H.isSl
 have e2 : zaf v = some (.int .i64 (l.length : Int)) := by rw [e]; rfl
 rw [e2, zaa]
 have few := W.few
 have ro : opsC l w hh c = if 16 < l.length then 6 else if ¬ fitsZ w hh c then 5 else allC c l w hh := rfl
 simp only [go_sem]
 refine zab (fun h0 => ?_) (fun h0 => ?_)
 ·rw [if_pos (by omega)] at ro
  rw [ro]
  exact ⟨_, rfl, Ext.refl _, fun _ => rfl, fun h => by cases h⟩
 rw [if_neg (by omega)] at ro
 refine c_Fits.mono fun r h1 ⟨e, wq⟩ => ?_
 have wq := wq.symm
 subst e wq
 simp only [go_sem]
 refine zab (fun h1 => ?_) (fun h1 => ?_)
 ·rw [if_pos h1] at ro
  rw [ro]
  exact ⟨_, rfl, Ext.refl _, fun _ => rfl, fun h => by cases h⟩
 rw [if_neg h1] at ro
 try rw [e2, zaa]
 refine zaz (α := Int × Int × Value) l.length 0 (fun k a => [.int .i64 a.1, .int .i64 a.2.1, a.2.2, .int .i64 (k : Int)])
  (fun k a h' => I64 a.1 ∧ I64 a.2.1 ∧ opsC l w hh c = allC c (l.drop k) a.1 a.2.1 ∧ ∃ done, done.length = k ∧ allS l w hh = done ++ allS (l.drop k) a.1 a.2.1 ∧ NewR rStgP h h' a.2.2 done) (w, hh, .slice none 0 0) rfl (Nat.zero_le _)
  ⟨hw, hhh, ro, [], rfl, rfl, NewR.nil (Ext.refl _)⟩ fun k a h2 again ρj _ hk ⟨iw, ih, hc, done, dl, hd, N⟩ Hag => ?_
 obtain ⟨w1, hh1, out⟩ := a
 simp only [go_sem]
 have N : NewR rStgP h h2 out done := N
 have iw : I64 w1 := iw
 have ih : I64 hh1 := ih
 refine zab (fun h3 => ?_) (fun h3 => ?_)
 ·have hk' : k < l.length := by omega
  have hc : opsC l w hh c = allC c (l.drop k) w1 hh1 := hc
  have hd : allS l w hh = done ++ allS (l.drop k) w1 hh1 := hd
  rw [drop_cons hk'] at hc hd
  have hm := List.getElem_mem hk'
  have Wo := W.wf _ hm
  have Lo := W.len _ hm
  obtain ⟨p, cs, q1, q2, Ho⟩ := Rp.Sl.atw (e := rOp) (H.ext N.exts) (show 0 < 9 by omega) (k := .i64) hk'
  have q1 : idxV 9 v (.int .i64 (k : Int)) = some p := q1
  have q2 : ldsV 9 h2 p = some (.agg cs.toArray) := q2
  rw [q1, zaa, q2, zaa]
  have hlen : cs.length = 9 := rOp.len Ho
  refine zaR (cs := cs) hlen (rOp.one Ho) hlen fun b h4 r4 e4 n4 => ?_
  rw [zal r4 9 hlen, zaa]
  have G4 := G.ext (N.exts.trans e4)
  have Ho4 := rOp.ext Ho e4
  generalize l[k] = o at *
  refine (c_Make G4 Ho4 Wo (by omega) (by omega) iw ih).mono fun r h5 ⟨sv, e, e5, s0, s1⟩ => ?_
  subst e
  simp only [go_sem]
  have so : ∃ ds : List Value, sv = .agg ds.toArray ∧ ds.length = 3 ∧ (∀ x ∈ ds, zam x = true) ∧ (makeC o w1 hh1 = 0 → rStgP.R (Since h4 h5) h5 ds (makeS o w1 hh1)) := by
   by_cases hm : makeC o w1 hh1 = 0
   ·obtain ⟨p, q, e, t1, t2⟩ := s1 hm
    exact ⟨[p, q, .int .i64 (makeS o w1 hh1).border], e, rfl, zad (zen t1) (zad (zen t2) (zad rfl zaq)), fun _ => ⟨p, q, rfl, t1, t2⟩⟩
   ·exact ⟨[.pointer none, .pointer none, .int .i64 0], s0 hm, rfl, zad rfl (zad rfl (zad rfl zaq)), fun h => absurd h hm⟩
  obtain ⟨ds, rfl, dl3, d1, dR⟩ := so
  refine zaR (cs := ds) dl3 d1 dl3 fun b2 h6 r6 e6 n6 => ?_
  have E26 : Ext h2 h6 := e4.trans (e5.trans e6)
  refine zab (fun hc1 => ?_) (fun hc1 => ?_)
  ·unfold allC at hc
   rw [if_pos hc1] at hc
   rw [hc]
   exact ⟨_, rfl, N.exts.trans E26, fun _ => rfl, fun h => absurd h hc1⟩
  have hc1 : makeC o w1 hh1 = 0 := Decidable.of_not_not hc1
  unfold allC at hc
  rw [if_neg (by simpa using hc1)] at hc
  have r4' := (e5.trans e6).row r4
  rw [zal r4' 9 hlen, zaa]
  refine (c_opSize (rOp.ext Ho4 (e5.trans e6))).mono fun r h7 ⟨e, e7⟩ => ?_
  subst e
  simp only [go_sem]
  refine c_Fits.mono fun r h8 ⟨e, wq⟩ => ?_
  have wq := wq.symm
  subst e wq
  simp only [go_sem]
  refine zab (fun h8 => ?_) (fun h8 => ?_)
  ·have h8 : ¬ fitsZ (sizeW o w1) (sizeH o hh1) c := h8
   rw [if_pos h8] at hc
   rw [hc]
   exact ⟨_, rfl, N.exts.trans (E26.trans e7), fun _ => rfl, fun h => by cases h⟩
  have h8 : ¬ ¬ fitsZ (sizeW o w1) (sizeH o hh1) c := h8
  rw [if_neg h8] at hc
  rw [zal (e7.row r6) 3 dl3, zaa]
  have E27 := E26.trans e7
  have N7 := N.ext E27
  have R7 := rStgP.ext (dR hc1) (e6.trans e7)
  refine NewR.push (e := rStgP) (Y := Since h4 h5) N7 R7 (fun b hb => ⟨Nat.le_trans (N.exts.trans e4).1 hb.1, ?_, fun hv => ?_⟩) rfl rfl (by rw [dl]; omega) (by rw [dl]; omega) fun s' h' N' _ _ => ?_
  ·have := hb.2
   have := e6.1
   have := e7.1
   omega
  ·have h9 := N.lt hv
   have h10 := hb.1
   have h11 := e4.1
   omega
  ·try simp only [go_sem]
   rw [w64 (by omega) (by omega)]
   have hs := size_I64 Wo iw ih
   refine Hag (sizeW o w1, sizeH o hh1, s') h' hk' ⟨hs.1, hs.2, hc, done ++ [makeS o w1 hh1], by simp [dl], ?_, N'⟩
   rw [List.append_assoc]
   exact hd
 ·have hkn : k = l.length := by omega
  subst hkn
  have hc : opsC l w hh c = allC c (l.drop l.length) w1 hh1 := hc
  have hd : allS l w hh = done ++ allS (l.drop l.length) w1 hh1 := hd
  rw [List.drop_length] at hc hd
  have hc : opsC l w hh c = 0 := hc
  rw [hc, hd]
  refine ⟨_, rfl, N.exts, fun h => absurd rfl h, fun _ => ?_⟩
  rw [show allS [] w1 hh1 = [] from rfl, List.append_nil]
  exact N
theorem c_r12All {Z : Nat → Prop} {h : Heap} {v : Value} {l : List OpD} (H : Rp.Sl rOp Z h v l) (W : OpsWf l) {w hh c : Int} (hw : I64 w) (hhh : I64 hh) :
  FCall prog zjJ #[v, .int .i64 w, .int .i64 hh, .int .i64 c] h (AllOut rStg h (opsC l w hh c) (allS l w hh)) := by
 apply ok_ref12_All
 unfold zl1
 obtain ⟨a, cap, e⟩ := H.isSl
 have e2 : zaf v = some (.int .i64 (l.length : Int)) := by rw [e]; rfl
 rw [e2, zaa]
 have few := W.few
 have ro : opsC l w hh c = if 16 < l.length then 6 else if ¬ fitsZ w hh c then 5 else allC c l w hh := rfl
 simp only [go_sem]
 refine zab (fun h0 => ?_) (fun h0 => ?_)
 ·rw [if_pos (by omega)] at ro
  rw [ro]
  exact ⟨_, rfl, Ext.refl _, fun _ => rfl, fun h => by cases h⟩
 rw [if_neg (by omega)] at ro
 refine c_r9Fits.mono fun r h1 ⟨e, wq⟩ => ?_
 have wq := wq.symm
 subst e wq
 simp only [go_sem]
 refine zab (fun h1 => ?_) (fun h1 => ?_)
 ·rw [if_pos h1] at ro
  rw [ro]
  exact ⟨_, rfl, Ext.refl _, fun _ => rfl, fun h => by cases h⟩
 rw [if_neg h1] at ro
 try rw [e2, zaa]
 refine zaz (α := Int × Int × Value) l.length 0 (fun k a => [.int .i64 a.1, .int .i64 a.2.1, a.2.2, .int .i64 (k : Int)])
  (fun k a h' => I64 a.1 ∧ I64 a.2.1 ∧ opsC l w hh c = allC c (l.drop k) a.1 a.2.1 ∧ ∃ done, done.length = k ∧ allS l w hh = done ++ allS (l.drop k) a.1 a.2.1 ∧ NewR rStg h h' a.2.2 done) (w, hh, .slice none 0 0) rfl (Nat.zero_le _)
  ⟨hw, hhh, ro, [], rfl, rfl, NewR.nil (Ext.refl _)⟩ fun k a h2 again ρj _ hk ⟨iw, ih, hc, done, dl, hd, N⟩ Hag => ?_
 obtain ⟨w1, hh1, out⟩ := a
 simp only [go_sem]
 have N : NewR rStg h h2 out done := N
 have iw : I64 w1 := iw
 have ih : I64 hh1 := ih
 refine zab (fun h3 => ?_) (fun h3 => ?_)
 ·have hk' : k < l.length := by omega
  have hc : opsC l w hh c = allC c (l.drop k) w1 hh1 := hc
  have hd : allS l w hh = done ++ allS (l.drop k) w1 hh1 := hd
  rw [drop_cons hk'] at hc hd
  have hm := List.getElem_mem hk'
  have Wo := W.wf _ hm
  have Lo := W.len _ hm
  obtain ⟨p, cs, q1, q2, Ho⟩ := Rp.Sl.atw (e := rOp) (H.ext N.exts) (show 0 < 9 by omega) (k := .i64) hk'
  have q1 : idxV 9 v (.int .i64 (k : Int)) = some p := q1
  have q2 : ldsV 9 h2 p = some (.agg cs.toArray) := q2
  rw [q1, zaa, q2, zaa]
  have hlen : cs.length = 9 := rOp.len Ho
  refine zaR (cs := cs) hlen (rOp.one Ho) hlen fun b h4 r4 e4 n4 => ?_
  rw [zal r4 9 hlen, zaa]
  have Ho4 := rOp.ext Ho e4
  generalize l[k] = o at *
  refine (c_r12Make Ho4 Wo (by omega) (by omega) iw ih).mono fun r h5 ⟨ds, e, e5, s0, dR⟩ => ?_
  subst e
  simp only [go_sem]
  have so : ds.length = 5 ∧ (∀ x ∈ ds, zam x = true) := by
   by_cases hm : makeC o w1 hh1 = 0
   ·exact ⟨rStg.len (dR hm), rStg.one (dR hm)⟩
   ·rw [s0 hm]; exact ⟨rfl, zad rfl (zad rfl (zad rfl (zad rfl (zad rfl zaq))))⟩
  obtain ⟨dl3, d1⟩ := so
  refine zaR (cs := ds) dl3 d1 dl3 fun b2 h6 r6 e6 n6 => ?_
  have E26 : Ext h2 h6 := e4.trans (e5.trans e6)
  refine zab (fun hc1 => ?_) (fun hc1 => ?_)
  ·unfold allC at hc
   rw [if_pos hc1] at hc
   rw [hc]
   exact ⟨_, rfl, N.exts.trans E26, fun _ => rfl, fun h => absurd h hc1⟩
  have hc1 : makeC o w1 hh1 = 0 := Decidable.of_not_not hc1
  unfold allC at hc
  rw [if_neg (by simpa using hc1)] at hc
  have r4' := (e5.trans e6).row r4
  rw [zal r4' 9 hlen, zaa]
  refine (c_r12Size (rOp.ext Ho4 (e5.trans e6))).mono fun r h7 ⟨e, e7⟩ => ?_
  subst e
  simp only [go_sem]
  refine c_r9Fits.mono fun r h8 ⟨e, wq⟩ => ?_
  have wq := wq.symm
  subst e wq
  simp only [go_sem]
  refine zab (fun h8 => ?_) (fun h8 => ?_)
  ·have h8 : ¬ fitsZ (sizeW o w1) (sizeH o hh1) c := h8
   rw [if_pos h8] at hc
   rw [hc]
   exact ⟨_, rfl, N.exts.trans (E26.trans e7), fun _ => rfl, fun h => by cases h⟩
  have h8 : ¬ ¬ fitsZ (sizeW o w1) (sizeH o hh1) c := h8
  rw [if_neg h8] at hc
  rw [zal (e7.row r6) 5 dl3, zaa]
  have E27 := E26.trans e7
  have N7 := N.ext E27
  have R7 := rStg.ext (dR hc1) (e6.trans e7)
  refine NewR.push (e := rStg) (Y := Since h4 h5) N7 R7 (fun b hb => ⟨Nat.le_trans (N.exts.trans e4).1 hb.1, ?_, fun hv => ?_⟩) rfl rfl (by rw [dl]; omega) (by rw [dl]; omega) fun s' h' N' _ _ => ?_
  ·have := hb.2
   have := e6.1
   have := e7.1
   omega
  ·have h9 := N.lt hv
   have h10 := hb.1
   have h11 := e4.1
   omega
  ·try simp only [go_sem]
   rw [w64 (by omega) (by omega)]
   have hs := size_I64 Wo iw ih
   refine Hag (sizeW o w1, sizeH o hh1, s') h' hk' ⟨hs.1, hs.2, hc, done ++ [makeS o w1 hh1], by simp [dl], ?_, N'⟩
   rw [List.append_assoc]
   exact hd
 ·have hkn : k = l.length := by omega
  subst hkn
  have hc : opsC l w hh c = allC c (l.drop l.length) w1 hh1 := hc
  have hd : allS l w hh = done ++ allS (l.drop l.length) w1 hh1 := hd
  rw [List.drop_length] at hc hd
  have hc : opsC l w hh c = 0 := hc
  rw [hc, hd]
  refine ⟨_, rfl, N.exts, fun h => absurd rfl h, fun _ => ?_⟩
  rw [show allS [] w1 hh1 = [] from rfl, List.append_nil]
  exact N
theorem c_Refs {Z : Nat → Prop} {h : Heap} {v : Value} {l : List OpD} (H : Rp.Sl rOp Z h v l) (few : l.length ≤ 4398046) :
  FCall prog zik #[v] h fun r h' => Rp.Sl rOp (fun _ => True) h' r l ∧ Ext h h' := by
 apply zqm
 unfold zkn
 obtain ⟨a, cap, e⟩ := H.isSl
 have e2 : zaf v = some (.int .i64 (l.length : Int)) := by rw [e]; rfl
 rw [e2, zaa]
 have H := H.mono (Z' := fun c => c < h.size) fun c hc _ => hc
 refine zaz (α := Value) l.length 0 (fun k a => [a, .int .i64 (k : Int)])
  (fun k a h' => Rp.Ow rOp (fun c => c < h.size) h' a (l.take k) ∧ Ext h h' ∧ ∀ b, blk a b → h.size ≤ b) (.slice none 0 0) rfl (Nat.zero_le _)
  ⟨Rp.Ow.nil, Ext.refl _, fun b hb => hb.elim⟩ fun k out h2 again ρj _ hk ⟨N, E, nb⟩ Hag => ?_
 simp only [go_sem]
 refine zab (fun h3 => ?_) (fun h3 => ?_)
 ·have hk' : k < l.length := by omega
  obtain ⟨p, cs, q1, q2, Ho⟩ := Rp.Sl.atw (e := rOp) (H.ext E) (show 0 < 9 by omega) (k := .i64) hk'
  have q1 : idxV 9 v (.int .i64 (k : Int)) = some p := q1
  have q2 : ldsV 9 h2 p = some (.agg cs.toArray) := q2
  rw [q1, zaa, q2, zaa]
  have hlen : cs.length = 9 := rOp.len Ho
  refine zaR (cs := cs) hlen (rOp.one Ho) hlen fun b h4 r4 e4 n4 => ?_
  rw [zal r4 9 hlen, zaa]
  refine (c_Ref (rOp.ext Ho e4)).mono fun r h5 ⟨e, Ho5, e5⟩ => ?_
  subst e
  have E5 := (E.trans e4).trans e5
  have hlt : (l.take k).length = k := by rw [List.length_take]; omega
  refine Rp.push_ow (e := rOp) (N.ext (e4.trans e5)) Ho5 rfl rfl (by rw [hlt]; omega) (by rw [hlt]; omega) (fun c hc => Nat.lt_of_lt_of_le hc E5.1) fun s' h' o' f' n' => ?_
  try simp only [go_sem]
  rw [w64 (by omega) (by omega)]
  rw [← List.take_succ_eq_append_getElem hk'] at o'
  refine Hag s' h' hk' ⟨o', E5.then_fr f' nb, fun c hc => ?_⟩
  rcases n' c hc with h6 | h6
  ·exact nb c h6
  ·exact Nat.le_trans E5.1 h6
 ·rw [List.take_of_length_le (by omega)] at N
  exact ⟨N.sl.mono fun _ _ _ => trivial, E⟩
abbrev rU : Rp Int := Rp.int .u16
abbrev u16s (l : List Int) : List Value := l.map fun n => Value.int .u16 n
structure Pic where
 w : Int
 h : Int
 c : Int
 most : Int
 l : List Int
structure Pic.Wf (m : Pic) : Prop where
 fits : fitsZ m.w m.h m.c
 m1 : 1 ≤ m.most
 m2 : m.most ≤ 65535
 len : (m.l.length : Int) = m.w * m.h * m.c
 smp : ∀ x ∈ m.l, 0 ≤ x ∧ x ≤ m.most
def inP (m : Pic) (x y c : Int) : Prop := 0 ≤ x ∧ x < m.w ∧ 0 ≤ y ∧ y < m.h ∧ 0 ≤ c ∧ c < m.c
instance (m : Pic) (x y c : Int) : Decidable (inP m x y c) := by unfold inP; infer_instance
def posP (m : Pic) (x y c : Int) : Int := (y * m.w + x) * m.c + c
def atP (m : Pic) (x y c : Int) : Int := if inP m x y c then m.l.getD (posP m x y c).toNat 0 else 0
def setP (m : Pic) (x y c v : Int) : Pic := { m with l := m.l.set (posP m x y c).toNat v }
theorem zbn {w h c : Int} (f : fitsZ w h c) : 1 ≤ w ∧ w ≤ 65536 ∧ 1 ≤ h ∧ h ≤ 65536 ∧ 1 ≤ c ∧ c ≤ 3 ∧ 0 ≤ w * h ∧ w * h ≤ 4294967296 ∧ 0 ≤ w * h * c ∧ w * h * c ≤ 268435456 := by
 obtain ⟨h1, h2, h3, h4, h5, h6⟩ := f
 have hm := zh1 (a := w) (A := 65536) (b := h) (B := 65536) (by omega) (by omega) (by omega) (by omega)
 refine ⟨h1, h2, h3, h4, by omega, by omega, hm.1, hm.2, Int.mul_nonneg hm.1 (by omega), h6⟩
theorem zo7 {m : Pic} (W : m.Wf) {x y c : Int} (h : inP m x y c) : 0 ≤ y * m.w ∧ y * m.w + x ≤ 4294967296 ∧ 0 ≤ posP m x y c ∧ posP m x y c < m.l.length := by
 obtain ⟨h1, h2, h3, h4, h5, h6, h7, h8, h9, h10⟩ := zbn W.fits
 obtain ⟨x0, x1, y0, y1, c0, c1⟩ := h
 have a0 : 0 ≤ y * m.w := Int.mul_nonneg y0 (by omega)
 have a1 : y * m.w ≤ (m.h - 1) * m.w := Int.mul_le_mul_of_nonneg_right (by omega) (by omega)
 rw [Int.sub_mul, Int.one_mul, Int.mul_comm m.h] at a1
 have b0 : 0 ≤ (y * m.w + x) * m.c := Int.mul_nonneg (by omega) (by omega)
 have b1 : (y * m.w + x) * m.c ≤ (m.w * m.h - 1) * m.c := Int.mul_le_mul_of_nonneg_right (by omega) (by omega)
 rw [Int.sub_mul, Int.one_mul] at b1
 have := W.len
 unfold posP
 refine ⟨a0, by omega, by omega, by omega⟩
structure IsImg (h : Heap) (b : Nat) (v : Value) (m : Pic) : Prop where
 row : h[b]? = some (.cells #[.int .i64 m.w, .int .i64 m.h, .int .i64 m.c, .int .i64 m.most, v] 106 (0, 0))
 own : Own 1 h v m.l.length (u16s m.l)
 ap : ¬ blk v b
abbrev ptr (b : Nat) : Value := .pointer (some ⟨b, 0, none⟩)
theorem IsImg.fr {M : Nat → Prop} {h h' : Heap} {b : Nat} {v : Value} {m : Pic} (H : IsImg h b v m) (f : Fr M h h') (hb : ¬ M b) (q : ∀ c, blk v c → ¬ M c) : IsImg h' b v m := ⟨f.row H.row hb, H.own.fr f q, H.ap⟩
theorem IsImg.ext {h h' : Heap} {b : Nat} {v : Value} {m : Pic} (H : IsImg h b v m) (e : Ext h h') : IsImg h' b v m := H.fr (M := fun _ => False) e.fr id fun _ _ => id
theorem IsImg.lt {h : Heap} {b : Nat} {v : Value} {m : Pic} (H : IsImg h b v m) : b < h.size := zaB H.row
theorem IsImg.ltv {h : Heap} {b : Nat} {v : Value} {m : Pic} (H : IsImg h b v m) {c : Nat} (hc : blk v c) : c < h.size := H.own.lt hc
theorem zh7 {h : Heap} {b : Nat} {v : Value} {m : Pic} (H : IsImg h b v m) : FCall prog zaw #[ptr b] h fun r h' => r = .int .i64 m.w ∧ h' = h := by
 apply zhX
 unfold zd9
 simp only [go_sem, zac H.row]
 exact ⟨by simp, by simp⟩
theorem zf1 {h : Heap} {b : Nat} {v : Value} {m : Pic} (H : IsImg h b v m) : FCall prog zas #[ptr b] h fun r h' => r = .int .i64 m.h ∧ h' = h := by
 apply zhw
 unfold zdF
 simp only [go_sem, zac H.row]
 exact ⟨by simp, by simp⟩
theorem zbb {h : Heap} {b : Nat} {v : Value} {m : Pic} (H : IsImg h b v m) : FCall prog zaj #[ptr b] h fun r h' => r = .int .i64 m.c ∧ h' = h := by
 apply zgw
 unfold zdb
 simp only [go_sem, zac H.row]
 exact ⟨by simp, by simp⟩
theorem zcU {h : Heap} {b : Nat} {v : Value} {m : Pic} (H : IsImg h b v m) : FCall prog zay #[ptr b] h fun r h' => r = .int .i64 m.most ∧ h' = h := by
 apply ziM
 unfold zeB
 simp only [go_sem, zac H.row]
 exact ⟨by simp, by simp⟩
theorem c_place {h : Heap} {b : Nat} {v : Value} {m : Pic} (H : IsImg h b v m) (W : m.Wf) {x y c : Int} : FCall prog zb0 #[ptr b, .int .i64 x, .int .i64 y, .int .i64 c] h fun r h' =>
  r = .int .i64 (if inP m x y c then posP m x y c else -1) ∧ h' = h := by
 apply zhW
 unfold zd8
 have q0 : zah h ⟨b, 0, none⟩ = some (.int .i64 m.w) := zac H.row
 have q1 : zah h ⟨b, 1, none⟩ = some (.int .i64 m.h) := zac H.row
 have q2 : zah h ⟨b, 2, none⟩ = some (.int .i64 m.c) := zac H.row
 simp only [go_sem, Nat.zero_add, q0, q1, q2]
 refine zab (fun h0 => ?_) (fun h0 => ?_)
 ·rw [if_neg (by unfold inP; omega)]; exact ⟨rfl, trivial⟩
 ·have hi : inP m x y c := by unfold inP; omega
  have hp := zo7 W hi
  have hf := zbn W.fits
  have hl := W.len
  rw [if_pos hi]
  have e : (y * m.w + x) * m.c + c = posP m x y c := rfl
  have hi2 := hi
  unfold inP at hi2
  rw [w64 (n := y * m.w) (by omega) (by omega), w64 (n := y * m.w + x) (by omega) (by omega), w64 (n := (y * m.w + x) * m.c) (by omega) (by omega), w64 (by omega) (by omega)]
  exact ⟨rfl, trivial⟩
theorem c_At {h : Heap} {b : Nat} {v : Value} {m : Pic} (H : IsImg h b v m) (W : m.Wf) {x y c : Int} : FCall prog zbd #[ptr b, .int .i64 x, .int .i64 y, .int .i64 c] h fun r h' =>
  r = .int .u16 (atP m x y c) ∧ h' = h := by
 apply zkN
 unfold zfM
 refine (c_place H W).mono fun r h1 ⟨e, wq⟩ => ?_
 have wq := wq.symm
 subst e wq
 unfold atP
 have q4 : zah h ⟨b, 4, none⟩ = some v := zac H.row
 by_cases hi : inP m x y c
 ·have hp := zo7 W hi
  rw [if_pos hi, if_pos hi]
  simp only [go_sem, Nat.zero_add, q4]
  rw [decide_eq_true hp.2.2.1, zfl]
  obtain ⟨i, hi2⟩ : ∃ i : Nat, posP m x y c = (i : Int) := ⟨(posP m x y c).toNat, by omega⟩
  rw [hi2, Int.toNat_natCast]
  have hil : i < m.l.length := by omega
  obtain ⟨p, p1, p2, _⟩ := H.own.at1 (k := .i64) hil
  rw [p1, zaa, p2, zaa]
  refine ⟨?_, trivial⟩
  rw [List.getElem_map]
  simp [List.getD_eq_getElem?_getD, hil]
 ·rw [if_neg hi, if_neg hi]
  simp only [go_sem]
  rw [show decide ((0 : Int) ≤ -1) = false from rfl, zcj]
  exact ⟨by simp, by simp⟩
theorem c_Set {h : Heap} {b : Nat} {v : Value} {m : Pic} (H : IsImg h b v m) (W : m.Wf) {x y c n : Int} (n0 : 0 ≤ n) (n1 : n ≤ 65535) : FCall prog za7 #[ptr b, .int .i64 x, .int .i64 y, .int .i64 c, .int .u16 n] h fun r h' =>
  r = .bool (decide (inP m x y c ∧ n ≤ m.most)) ∧ IsImg h' b v (if inP m x y c ∧ n ≤ m.most then setP m x y c n else m) ∧ Fr (blk v) h h' ∧ h'.size = h.size := by
 apply zjy
 unfold zfa
 refine (c_place H W).mono fun r h1 ⟨e, wq⟩ => ?_
 have wq := wq.symm
 subst e wq
 have q3 : zah h ⟨b, 3, none⟩ = some (.int .i64 m.most) := zac H.row
 have q4 : zah h ⟨b, 4, none⟩ = some v := zac H.row
 simp only [go_sem, Nat.zero_add, q3, q4]
 rw [w64 (by omega) (by omega)]
 by_cases hi : inP m x y c
 ·have hp := zo7 W hi
  rw [if_pos hi]
  refine zab (fun h0 => ?_) (fun h0 => ?_)
  ·have hn : ¬ (inP m x y c ∧ n ≤ m.most) := by rintro ⟨_, _⟩; omega
   rw [if_neg hn, decide_eq_false hn]
   exact ⟨rfl, H, Fr.refl _ _, trivial⟩
  ·have hy : inP m x y c ∧ n ≤ m.most := ⟨hi, by omega⟩
   rw [if_pos hy, decide_eq_true hy]
   obtain ⟨i, hi2⟩ : ∃ i : Nat, posP m x y c = (i : Int) := ⟨(posP m x y c).toNat, by omega⟩
   have hs : setP m x y c n = { m with l := m.l.set i n } := by unfold setP; rw [hi2, Int.toNat_natCast]
   rw [hi2, hs]
   have hil : i < m.l.length := by omega
   obtain ⟨p, p1, p2, p3⟩ := H.own.at1 (k := .i64) hil
   rw [p1, zaa]
   refine p3 _ _ rfl fun h2 o2 f2 s2 => ⟨rfl, ⟨f2.row H.row H.ap, ?_, H.ap⟩, f2, s2⟩
   show Own 1 h2 v (m.l.set i n).length (u16s (m.l.set i n))
   rw [List.length_set, u16s, List.map_set]
   exact o2
 ·have hn : ¬ (inP m x y c ∧ n ≤ m.most) := fun hh => hi hh.1
  rw [if_neg hi, if_neg hn, decide_eq_false hn]
  rw [show decide ((-1 : Int) < 0 ∨ m.most < n) = true from decide_eq_true (by omega), zfl]
  exact ⟨rfl, H, Fr.refl _ _, trivial⟩
theorem setP_Wf {m : Pic} (W : m.Wf) {x y c n : Int} (n0 : 0 ≤ n) (n1 : n ≤ m.most) : (setP m x y c n).Wf := by
 refine ⟨W.fits, W.m1, W.m2, ?_, fun z hz => ?_⟩
 ·show ((m.l.set _ n).length : Int) = _
  rw [List.length_set]
  exact W.len
 ·rcases List.mem_or_eq_of_mem_set hz with h | h
  ·exact W.smp z h
  ·rw [h]; exact ⟨n0, n1⟩
theorem zo9 {k : IntKind} {h : Heap} {v : Value} {l : List Int} (H : Own 1 h v l.length (l.map fun n => Value.int k n)) : Rp.Sl (Rp.int k) (blk v) h v l :=
 (ow_ints H).sl.mono fun b _ hb => hb.elim False.elim id
theorem c_CloneU {h : Heap} {Z : Nat → Prop} {v : Value} {l : List Int} (H : Rp.Sl rU Z h v l) (hl : l.length ≤ 1000000000) :
  FCall prog zaN #[v] h fun r h' => New rU h h' r l := by
 apply zdD
 unfold zbX
 obtain ⟨ds, ⟨hl1, a, cap, rfl, hs⟩, hz, he⟩ := H
 rw [binSl_nil, zaa]
 cases a with
 | none =>
  have : l = [] := by
   rcases hs with hs | ⟨b, o, h0, _⟩
   ·subst hs
    have h2 : ([] : List Value).length = l.length * 1 := hl1
    exact List.eq_nil_of_length_eq_zero (by simpa using h2.symm)
   ·cases h0
  subst this
  simp only [Option.isNone_none, go_sem]
  exact New.nil (Ext.refl _)
 | some a =>
  simp only [Option.isNone_some, go_sem]
  refine zbZ (c' := #[]) rfl fun b h1 r1 e1 n1 => ?_
  have O : Rp.Ow rU (fun _ => False) h1 (.slice (some ⟨b, 0, none⟩) 0 0) [] := ⟨[], .inr ⟨b, 0, [], _, rfl, Nat.le_refl _, rfl, rfl, r1⟩, fun b hb hb' => hb', fun i hi => absurd hi (by simp)⟩
  have S1 : SlC 1 h1 (.slice (some a) l.length cap) l.length ds := SlC.ext ⟨hl1, some a, cap, rfl, hs⟩ e1
  refine Rp.app_ow (e := rU) (l := []) (l2 := l) O S1 (fun i hi => he i hi) rfl (by simp; omega) (by simp; omega) (fun b hb => hb.elim) fun v2 h2 O2 f2 n2 => ?_
  rw [List.nil_append] at O2
  have nb : ∀ k, blk (.slice (some ⟨b, 0, none⟩) 0 0) k → h.size ≤ k := fun k hk => by have : k = b := hk; omega
  refine ⟨O2, e1.then_fr f2 nb, fun k hk => ?_⟩
  rcases n2 k hk with h3 | h3
  ·exact nb k h3
  ·exact Nat.le_trans e1.1 h3
theorem c_Samples {h : Heap} {b : Nat} {v : Value} {m : Pic} (H : IsImg h b v m) (W : m.Wf) : FCall prog zbG #[ptr b] h fun r h' => New rU h h' r m.l := by
 apply zgM
 unfold zdm
 have q4 : zah h ⟨b, 4, none⟩ = some v := zac H.row
 simp only [go_sem, Nat.zero_add, q4]
 have hf := zbn W.fits
 have := W.len
 exact c_CloneU (zo9 H.own) (by omega)
theorem fill_5 {a b c d e v w x y z : Value} (ha : zam a = true) (hb : zam b = true) (hc : zam c = true) (hd : zam d = true) (he : zam e = true) : fillL #[v, w, x, y, z] [(0, 1, a), (1, 1, b), (2, 1, c), (3, 1, d), (4, 1, e)] = some #[a, b, c, d, e] := by
 simp only [fillL, zaT ha, zaT hb, zaT hc, zaT hd, zaT he]
 rfl
def imgC (w h c most : Int) : Int := if most < 1 ∨ 65535 < most ∨ (c ≠ 1 ∧ c ≠ 3) then 2 else if ¬ fitsZ w h c then 5 else 0
def imgN (w h c most : Int) : Pic := ⟨w, h, c, most, List.replicate (w * h * c).toNat 0⟩
def zia (h h' : Heap) (p : Value) (m : Pic) : Prop := ∃ b v, p = ptr b ∧ IsImg h' b v m ∧ h.size ≤ b ∧ (∀ c, blk v c → h.size ≤ c) ∧ Ext h h'
theorem zfm {w h c most : Int} : imgC w h c most = 0 ↔ fitsZ w h c ∧ 1 ≤ most ∧ most ≤ 65535 := by
 unfold imgC
 split
 ·constructor
  ·intro h; cases h
  ·rintro ⟨⟨_, _, _, _, _, _⟩, _, _⟩; omega
 ·split
  ·constructor
   ·intro h; cases h
   ·rintro ⟨h, _⟩; contradiction
  ·rename_i h1 h2
   exact ⟨fun _ => ⟨Decidable.of_not_not h2, by omega, by omega⟩, fun _ => rfl⟩
theorem zlA {w h c most : Int} (H : imgC w h c most = 0) : (imgN w h c most).Wf := by
 obtain ⟨h1, h2, h3⟩ := zfm.1 H
 have hf := zbn h1
 refine ⟨h1, h2, h3, ?_, fun x hx => ?_⟩
 ·show ((List.replicate (w * h * c).toNat (0 : Int)).length : Int) = w * h * c
  rw [List.length_replicate]; omega
 ·have : x = 0 := (List.mem_replicate.1 hx).2
  subst this
  show 0 ≤ (0 : Int) ∧ (0 : Int) ≤ most
  omega
theorem zf0 {h : Heap} {w hh c most : Int} : FCall prog zbv #[.int .i64 w, .int .i64 hh, .int .i64 c, .int .i64 most] h fun r h' =>
  ∃ p, r = .tuple #[p, .int .i64 (imgC w hh c most)] ∧ Ext h h' ∧ (imgC w hh c most ≠ 0 → p = .pointer none) ∧ (imgC w hh c most = 0 → zia h h' p (imgN w hh c most)) := by
 apply zqj
 unfold zkk
 simp only [go_sem]
 have rc : imgC w hh c most = if most < 1 ∨ 65535 < most ∨ (c ≠ 1 ∧ c ≠ 3) then 2 else if ¬ fitsZ w hh c then 5 else 0 := rfl
 refine zab (fun h0 => ?_) (fun h0 => ?_)
 ·rw [if_pos (by omega)] at rc
  rw [rc]
  exact ⟨_, rfl, Ext.refl _, fun _ => rfl, fun h => by cases h⟩
 rw [if_neg (by omega)] at rc
 refine c_Fits.mono fun r h1 ⟨e, wq⟩ => ?_
 have wq := wq.symm
 subst e wq
 simp only [go_sem]
 refine zab (fun h1 => ?_) (fun h1 => ?_)
 ·rw [if_pos h1] at rc
  rw [rc]
  exact ⟨_, rfl, Ext.refl _, fun _ => rfl, fun h => by cases h⟩
 rw [if_neg h1] at rc
 have hf := zbn (Decidable.of_not_not h1)
 rw [w64 (n := w * hh) (by omega) (by omega), w64 (n := w * hh * c) (by omega) (by omega)]
 obtain ⟨n, hn⟩ : ∃ n : Nat, w * hh * c = (n : Int) := ⟨(w * hh * c).toNat, by omega⟩
 rw [hn]
 refine zly rfl (by omega) (by omega) fun v h2 o2 e2 n2 => ?_
 obtain ⟨av, cv, ev⟩ := o2.isSl
 rw [fill_5 rfl rfl rfl rfl (by rw [ev]; rfl), Option.map_some, zaa]
 refine zag (c := #[.int .i64 w, .int .i64 hh, .int .i64 c, .int .i64 most, v]) fun b h3 r3 e3 n3 => ?_
 rw [rc]
 refine ⟨_, rfl, e2.trans e3, fun h => absurd rfl h, fun _ => ⟨b, v, rfl, ⟨r3, ?_, fun hb => ?_⟩, Nat.le_trans e2.1 n3, n2, e2.trans e3⟩⟩
 ·show Own 1 h3 v (List.replicate (w * hh * c).toNat (0 : Int)).length (u16s (List.replicate (w * hh * c).toNat 0))
  rw [hn, Int.toNat_natCast, List.length_replicate, u16s, List.map_replicate]
  exact o2.fr (M := fun _ => False) e3.fr fun _ _ => id
 ·have := o2.lt hb; omega
theorem zh2 {l m : List Int} (h : l.length = m.length) (H : ∀ i (h1 : i < l.length) (h2 : i < m.length), l[i] = m[i]) : l = m := List.ext_getElem h fun i h1 h2 => H i h1 h2
theorem c_EqualU {h : Heap} {Z Z' : Nat → Prop} {v u : Value} {l m : List Int} (H : Rp.Sl rU Z h v l) (K : Rp.Sl rU Z' h u m) (hl : l.length ≤ 1000000000) :
  FCall prog zbc #[v, u] h fun r h' => r = .bool (decide (l = m)) ∧ h' = h := by
 apply zdC
 unfold zbW
 obtain ⟨a, c, e⟩ := H.isSl
 obtain ⟨a', c', e'⟩ := K.isSl
 have e2 : zaf v = some (.int .i64 (l.length : Int)) := by rw [e]; rfl
 have e3 : zaf u = some (.int .i64 (m.length : Int)) := by rw [e']; rfl
 simp only [go_sem, e2, e3]
 refine zab (fun h0 => ?_) (fun h0 => ?_)
 ·refine ⟨?_, trivial⟩
  rw [decide_eq_false]
  intro hh; subst hh; exact h0 rfl
 try rw [e2, zaa]
 refine zaz (α := Unit) l.length 0 (fun i _ => [.int .i64 (i : Int)]) (fun i _ h' => h' = h ∧ ∀ j (h1 : j < l.length) (h2 : j < m.length), j < i → l[j] = m[j]) () rfl (Nat.zero_le _) ⟨rfl, fun j _ _ hj => absurd hj (by omega)⟩ fun i _ h1 again ρj _ hi ⟨eh, hs⟩ Hag => ?_
 have eh := eh.symm
 subst eh
 simp only [go_sem]
 refine zab (fun h1 => ?_) (fun h1 => ?_)
 ·have hi' : i < l.length := by omega
  have hi2 : i < m.length := by omega
  obtain ⟨p, p1, p2⟩ := H.int_at (k' := .i64) hi'
  obtain ⟨q, q1, q2⟩ := K.int_at (k' := .i64) hi2
  simp only [go_sem, p1, p2, q1, q2]
  refine zab (fun h2 => ?_) (fun h2 => ?_)
  ·refine ⟨?_, trivial⟩
   rw [decide_eq_false]
   intro hh; subst hh; exact h2 rfl
  ·rw [w64 (by omega) (by omega)]
   refine Hag () h hi' ⟨rfl, fun j h3 h4 hj => ?_⟩
   by_cases hji : j = i
   ·subst hji; exact Decidable.of_not_not h2
   ·exact hs j h3 h4 (by omega)
 ·refine ⟨?_, trivial⟩
  rw [decide_eq_true]
  exact zh2 (by omega) fun j h3 h4 => hs j h3 h4 (by omega)
theorem c_r9Same {h : Heap} {Z Z' : Nat → Prop} {v u : Value} {l m : List Int} (H : Rp.Sl rU Z h v l) (K : Rp.Sl rU Z' h u m) (hl : l.length ≤ 1000000000) :
  FCall prog zif #[v, u] h fun r h' => r = .bool (decide (l = m)) ∧ h' = h := by
 apply zp4
 unfold zj5
 obtain ⟨a, c, e⟩ := H.isSl
 obtain ⟨a', c', e'⟩ := K.isSl
 have e2 : zaf v = some (.int .i64 (l.length : Int)) := by rw [e]; rfl
 have e3 : zaf u = some (.int .i64 (m.length : Int)) := by rw [e']; rfl
 simp only [go_sem, e2, e3]
 refine zab (fun h0 => ?_) (fun h0 => ?_)
 ·refine ⟨?_, trivial⟩
  rw [decide_eq_false]
  intro hh; subst hh; exact h0 rfl
 try rw [e2, zaa]
 refine zaz (α := Unit) l.length 0 (fun i _ => [.int .i64 (i : Int)]) (fun i _ h' => h' = h ∧ ∀ j (h1 : j < l.length) (h2 : j < m.length), j < i → l[j] = m[j]) () rfl (Nat.zero_le _) ⟨rfl, fun j _ _ hj => absurd hj (by omega)⟩ fun i _ h1 again ρj _ hi ⟨eh, hs⟩ Hag => ?_
 have eh := eh.symm
 subst eh
 simp only [go_sem]
 refine zab (fun h1 => ?_) (fun h1 => ?_)
 ·have hi' : i < l.length := by omega
  have hi2 : i < m.length := by omega
  obtain ⟨p, p1, p2⟩ := H.int_at (k' := .i64) hi'
  obtain ⟨q, q1, q2⟩ := K.int_at (k' := .i64) hi2
  simp only [go_sem, p1, p2, q1, q2]
  refine zab (fun h2 => ?_) (fun h2 => ?_)
  ·refine ⟨?_, trivial⟩
   rw [decide_eq_false]
   intro hh; subst hh; exact h2 rfl
  ·rw [w64 (by omega) (by omega)]
   refine Hag () h hi' ⟨rfl, fun j h3 h4 hj => ?_⟩
   by_cases hji : j = i
   ·subst hji; exact Decidable.of_not_not h2
   ·exact hs j h3 h4 (by omega)
 ·refine ⟨?_, trivial⟩
  rw [decide_eq_true]
  exact zh2 (by omega) fun j h3 h4 => hs j h3 h4 (by omega)
theorem New.img {h h0 : Heap} {u : Value} {m : Pic} {b : Nat} {h' : Heap} (N : New rU h h0 u m.l) (r : h'[b]? = some (.cells #[.int .i64 m.w, .int .i64 m.h, .int .i64 m.c, .int .i64 m.most, u] 106 (0, 0))) (e : Ext h0 h') (n : h0.size ≤ b) : zia h h' (ptr b) m :=
 ⟨b, u, rfl, ⟨r, (ow_own N.1).fr (M := fun _ => False) e.fr fun _ _ => id, fun hb => by have := N.1.lt hb; omega⟩, Nat.le_trans N.2.1.1 n, N.2.2, N.2.1.trans e⟩
theorem c_Copy {h : Heap} {b : Nat} {v : Value} {m : Pic} (H : IsImg h b v m) (W : m.Wf) : FCall prog zc6 #[ptr b] h fun r h' => zia h h' r m := by
 apply ziN
 unfold zeC
 simp only [go_sem, Nat.zero_add]
 have q : ∀ h', Ext h h' → _ := fun h' e => e.row H.row
 refine zak (Ext h) (Ext.refl _) ?_
 refine zae (.int .i64 m.w) (fun h' e => zac (q h' e)) ?_
 refine zae (.int .i64 m.h) (fun h' e => zac (q h' e)) ?_
 refine zae (.int .i64 m.c) (fun h' e => zac (q h' e)) ?_
 refine zae (.int .i64 m.most) (fun h' e => zac (q h' e)) ?_
 refine zae v (fun h' e => zac (q h' e)) ?_
 have hf := zbn W.fits
 have := W.len
 refine (c_CloneU (zo9 H.own) (by omega)).mono fun u h1 N => ⟨N.2.1, ?_⟩
 obtain ⟨av, cv, ev⟩ := N.isSl
 rw [fill_5 rfl rfl rfl rfl (by rw [ev]; rfl), Option.map_some, zaa]
 refine zag (c := #[.int .i64 m.w, .int .i64 m.h, .int .i64 m.c, .int .i64 m.most, u]) fun b3 h3 r3 e3 n3 => ?_
 exact New.img N r3 e3 n3
theorem c_imgSame {h : Heap} {b b' : Nat} {v v' : Value} {m n : Pic} (H : IsImg h b v m) (W : m.Wf) (K : IsImg h b' v' n) (hw : m.w = n.w) (hh : m.h = n.h) (hc : m.c = n.c) (hm : m.most = n.most) :
  FCall prog zc5 #[ptr b, ptr b'] h fun r h' => r = .bool (decide (m.l = n.l)) ∧ h' = h := by
 apply ziL
 unfold zeA
 have e1 : binV .p .eql (ptr b) (.pointer none) = some (.bool false) := rfl
 have e2 : binV .p .eql (ptr b') (.pointer none) = some (.bool false) := rfl
 simp only [go_sem, e1, e2]
 refine zak (fun h' => h' = h) rfl ?_
 refine zae (.int .i64 m.w) (fun h' e => by rw [e]; exact zac H.row) ?_
 refine zae (.int .i64 n.w) (fun h' e => by rw [e]; exact zac K.row) ?_
 simp only [go_sem, hw]
 refine zae (.int .i64 m.h) (fun h' e => by rw [e]; exact zac H.row) ?_
 refine zae (.int .i64 n.h) (fun h' e => by rw [e]; exact zac K.row) ?_
 simp only [go_sem, hh]
 refine zae (.int .i64 m.c) (fun h' e => by rw [e]; exact zac H.row) ?_
 refine zae (.int .i64 n.c) (fun h' e => by rw [e]; exact zac K.row) ?_
 simp only [go_sem, hc]
 refine zae (.int .i64 m.most) (fun h' e => by rw [e]; exact zac H.row) ?_
 refine zae (.int .i64 n.most) (fun h' e => by rw [e]; exact zac K.row) ?_
 simp only [go_sem, hm]
 refine zae v (fun h' e => by rw [e]; exact zac H.row) ?_
 refine zae v' (fun h' e => by rw [e]; exact zac K.row) ?_
 have hf := zbn W.fits
 have := W.len
 refine (c_EqualU (zo9 H.own) (zo9 K.own) (by omega)).mono fun r h1 ⟨e, wq⟩ => ?_
 subst e
 simp only [go_sem]
 exact ⟨by simp, wq⟩
def rPic : Rp Pic where
 w := 5
 R := fun Z h cs m => ∃ u, cs = [.int .i64 m.w, .int .i64 m.h, .int .i64 m.c, .int .i64 m.most, u] ∧ Rp.Sl rU Z h u m.l
 len := by rintro _ _ _ _ ⟨x, rfl, _⟩; rfl
 one := by
  rintro _ _ _ _ ⟨x, rfl, H⟩
  exact zad rfl (zad rfl (zad rfl (zad rfl (zad H.one zaq))))
 fr := by rintro _ _ _ _ _ _ ⟨x, rfl, H⟩ f q; exact ⟨x, rfl, H.fr f q⟩
 mono := by rintro _ _ _ _ _ ⟨x, rfl, H⟩ q; exact ⟨x, rfl, H.mono q⟩
theorem c_l9Ref {h : Heap} {b : Nat} {v : Value} {m : Pic} (H : IsImg h b v m) (W : m.Wf) : FCall prog zg9 #[ptr b] h fun r h' => ∃ cs, r = .agg cs.toArray ∧ rPic.R (Since h h') h' cs m ∧ Ext h h' := by
 apply ok_law09_Ref
 unfold zmd
 refine zag fun b2 h2 r2 e2 n2 => ?_
 have l2 := zaB r2
 have H := H.ext e2
 refine (zh7 H).mono fun r h3 ⟨e, wq⟩ => ?_
 have wq := wq.symm
 subst e wq
 refine (zf1 H).mono fun r h3 ⟨e, wq⟩ => ?_
 have wq := wq.symm
 subst e wq
 refine (zbb H).mono fun r h3 ⟨e, wq⟩ => ?_
 have wq := wq.symm
 subst e wq
 refine (zcU H).mono fun r h3 ⟨e, wq⟩ => ?_
 have wq := wq.symm
 subst e wq
 refine (c_Samples H W).mono fun u h3 N => ?_
 obtain ⟨av, cv, ev⟩ := N.isSl
 have uo : zam u = true := by rw [ev]; rfl
 rw [fill_5 rfl rfl rfl rfl uo, Option.map_some, zaa]
 refine zbt (l := [.int .i64 m.w, .int .i64 m.h, .int .i64 m.c, .int .i64 m.most, u]) (N.2.1.row r2) rfl (zad rfl (zad rfl (zad rfl (zad rfl (zad uo zaq))))) rfl fun h5 r5 u5 => ?_
 rw [zal r5 5 rfl, zaa]
 refine ⟨_, rfl, ⟨u, rfl, ?_⟩, (e2.trans N.2.1).upd n2 u5⟩
 have S := N.since (Ext.refl _)
 refine (S.fr u5.fr fun c _ hz he => ?_).mono fun c hc hz => ⟨Nat.le_trans e2.1 hz.1, hc⟩
 have := hz.1
 omega
theorem c_l9Equal {h : Heap} {Z Z' : Nat → Prop} {cs ds : List Value} {m n : Pic} (H : rPic.R Z h cs m) (K : rPic.R Z' h ds n) (hl : m.l.length ≤ 1000000000) (hw : m.w = n.w) (hh : m.h = n.h) (hc : m.c = n.c) (hm : m.most = n.most) :
  FCall prog zhb #[.agg cs.toArray, .agg ds.toArray] h fun r h' => r = .bool (decide (m.l = n.l)) ∧ Ext h h' := by
 apply zoE
 unfold zje
 obtain ⟨u, rfl, Hu⟩ := H
 obtain ⟨w, rfl, Hw⟩ := K
 simp only [zax]
 refine zag fun b1 h1 r1 e1 n1 => zag fun b2 h2 r2 e2 n2 => ?_
 have r1 := e2.row r1
 have e := e1.trans e2
 simp only [go_sem, zac r1, zac r2, hw, hh, hc, hm]
 refine (c_r9Same (Hu.ext e) (Hw.ext e) hl).mono fun r h3 ⟨e3, wq⟩ => ?_
 subst e3
 have wq := wq.symm
 subst wq
 simp only [go_sem]
 exact ⟨by simp, e⟩
theorem c_r9In {h : Heap} {Z : Nat → Prop} {cs : List Value} {m : Pic} (H : rPic.R Z h cs m) {x y c : Int} : FCall prog zlO #[.agg cs.toArray, .int .i64 x, .int .i64 y, .int .i64 c] h fun r h' => r = .bool (decide (inP m x y c)) ∧ Ext h h' := by
 apply ok_ref09_In
 unfold zm8
 obtain ⟨u, rfl, Hu⟩ := H
 simp only [zax]
 refine zag fun b1 h1 r1 e1 n1 => ?_
 simp only [go_sem, zac r1]
 refine ⟨?_, e1⟩
 congr 1
 rw [decide_eq_decide]
 unfold inP
 omega
theorem c_r9At {h : Heap} {Z : Nat → Prop} {cs : List Value} {m : Pic} (H : rPic.R Z h cs m) (W : m.Wf) {x y c : Int} : FCall prog ziD #[.agg cs.toArray, .int .i64 x, .int .i64 y, .int .i64 c] h fun r h' => r = .int .u16 (atP m x y c) ∧ Ext h h' := by
 apply ok_ref09_At
 unfold zm9
 have H0 := H
 obtain ⟨u, rfl, Hu⟩ := H
 simp only [zax]
 refine zag fun b1 h1 r1 e1 n1 => ?_
 rw [zal (l := [.int .i64 m.w, .int .i64 m.h, .int .i64 m.c, .int .i64 m.most, u]) r1 5 rfl, zaa]
 refine (c_r9In (rPic.ext H0 e1)).mono fun r h2 ⟨e, e2⟩ => ?_
 subst e
 unfold atP
 have r1 := e2.row r1
 have E := e1.trans e2
 by_cases hi : inP m x y c
 ·rw [if_pos hi]
  have hp := zo7 W hi
  have hf := zbn W.fits
  have hl := W.len
  have hi2 := hi
  unfold inP at hi2
  simp only [go_sem, hi, zac r1]
  have a1 : 0 ≤ x * m.c := Int.mul_nonneg (by omega) (by omega)
  have a2 : 0 ≤ y * m.w * m.c := Int.mul_nonneg hp.1 (by omega)
  have e3 : y * m.w * m.c + x * m.c + c = posP m x y c := by unfold posP; rw [Int.add_mul]
  rw [w64 (n := y * m.w) (by omega) (by omega), w64 (n := y * m.w * m.c) (by omega) (by omega), w64 (n := x * m.c) (by omega) (by omega), w64 (n := y * m.w * m.c + x * m.c) (by omega) (by omega), w64 (by omega) (by omega), e3]
  obtain ⟨i, hi3⟩ : ∃ i : Nat, posP m x y c = (i : Int) := ⟨(posP m x y c).toNat, by omega⟩
  rw [hi3, Int.toNat_natCast]
  have hil : i < m.l.length := by omega
  obtain ⟨p, p1, p2⟩ := (Hu.ext E).int_at (k' := .i64) hil
  rw [p1, zaa, p2, zaa]
  refine ⟨?_, E⟩
  simp [List.getD_eq_getElem?_getD, hil]
 ·rw [if_neg hi]
  simp only [go_sem, hi]
  exact ⟨by simp, E⟩
theorem c_MaxU {h : Heap} {Z : Nat → Prop} {v : Value} {l : List Int} (H : Rp.Sl rU Z h v l) (h0 : 0 < l.length) (hl : l.length ≤ 1000000000) :
  FCall prog zbq #[v] h fun r h' => (∃ x ∈ l, r = .int .u16 x) ∧ h' = h := by
 apply zed
 unfold zb5
 obtain ⟨a, c, e⟩ := H.isSl
 have e2 : zaf v = some (.int .i64 (l.length : Int)) := by rw [e]; rfl
 refine zat (fun xs h' => h' = h) ?_ ?_
 ·simp only [go_sem, e2]
  rw [decide_eq_false (by omega), zcj]
  trivial
 rintro xs ρj h1 hh
 have hh := hh.symm
 subst hh
 obtain ⟨p, p1, p2⟩ := H.int_at (k' := .i64) h0
 have p1 : idxV 1 v (.int .i64 0) = some p := p1
 rw [p1, zaa, p2, zaa]
 refine zaz (α := Int) l.length 1 (fun i x => [.int .u16 x, .int .i64 (i : Int)]) (fun i x h' => x ∈ l ∧ h' = h) l[0] rfl (by omega) ⟨List.getElem_mem _, rfl⟩ fun i x h1 again ρj h1i hi ⟨hx, eh⟩ Hag => ?_
 have eh := eh.symm
 subst eh
 simp only [go_sem, e2]
 refine zab (fun h2 => ?_) (fun h2 => ?_)
 ·have hi' : i < l.length := by omega
  obtain ⟨q, q1, q2⟩ := H.int_at (k' := .i64) hi'
  simp only [go_sem, q1, q2]
  rw [w64 (by omega) (by omega)]
  refine Hag _ h hi' ⟨?_, rfl⟩
  rcases Int.le_total x l[i] with h3 | h3
  ·rw [Int.max_eq_right h3]; exact List.getElem_mem _
  ·rw [Int.max_eq_left h3]; exact hx
 ·exact ⟨⟨x, hx, rfl⟩, trivial⟩
theorem c_imgOf {h : Heap} {Z : Nat → Prop} {v : Value} {l : List Int} {w hh c most : Int} (H : Rp.Sl rU Z h v l) (hc : imgC w hh c most = 0) (hl : (l.length : Int) = w * hh * c) (hs : ∀ x ∈ l, 0 ≤ x ∧ x ≤ most) :
  FCall prog zg5 #[.int .i64 w, .int .i64 hh, .int .i64 c, .int .i64 most, v] h fun r h' => ∃ p, r = .tuple #[p, .int .i64 0] ∧ zia h h' p ⟨w, hh, c, most, l⟩ := by
 apply ok_raster_Of
 unfold zl9
 refine zf0.mono fun r h1 ⟨p, e, e1, _, s1⟩ => ?_
 subst e
 obtain ⟨b, u, rfl, I, nb, nu, _⟩ := s1 hc
 obtain ⟨f1, f2, f3⟩ := zfm.1 hc
 have hf := zbn f1
 have W := zlA hc
 obtain ⟨a, ca, e⟩ := H.isSl
 have e2 : zaf v = some (.int .i64 (l.length : Int)) := by rw [e]; rfl
 obtain ⟨au, cu, eu⟩ := I.own.isSl
 have il : ((imgN w hh c most).l.length : Int) = w * hh * c := W.len
 have eu2 : zaf u = some (.int .i64 (l.length : Int)) := by rw [eu, hl, ← il]; rfl
 have q4 : zah h1 ⟨b, 4, none⟩ = some u := zac I.row
 simp only [go_sem, hc, e2, Nat.zero_add, q4, eu2]
 have h0 : 0 < l.length := by
  have a1 : 1 ≤ w * hh := by
   have := Int.mul_le_mul (show (1 : Int) ≤ w by omega) (show (1 : Int) ≤ hh by omega) (by omega) (by omega)
   omega
  have := Int.mul_le_mul a1 (show (1 : Int) ≤ c by omega) (by omega) (by omega)
  omega
 refine (c_MaxU (H.ext e1) h0 (by omega)).mono fun r h2 ⟨⟨x, hx, e⟩, wq⟩ => ?_
 have wq := wq.symm
 subst e wq
 have hxs := hs x hx
 simp only [go_sem]
 rw [w64 (by omega) (by omega), decide_eq_false (by omega), zcj]
 simp only [go_sem, Nat.zero_add, q4]
 have hn : (imgN w hh c most).l.length = l.length := by omega
 have Iown := I.own
 rw [hn] at Iown
 obtain ⟨ds, S, _, he⟩ := H.ext e1
 have hds : ds = u16s l := by
  have hdl : ds.length = l.length * 1 := S.1
  apply List.ext_getElem
  ·simp; omega
  ·intro i h3 h4
   have h5 := he i (by simpa using h4)
   have h6 : Rp.el 1 ds i = [Value.int .u16 (l[i]'(by simpa using h4))] := h5
   rw [Rp.el_one h3] at h6
   simpa using h6
 subst hds
 refine zqN Iown S (fun y hy => by obtain ⟨z, _, rfl⟩ := List.mem_map.1 hy; rfl) fun h3 o3 f3 s3 => ?_
 refine ⟨_, rfl, b, u, rfl, ⟨f3.row I.row I.ap, ?_, I.ap⟩, nb, nu, e1.then_fr f3 nu⟩
 show Own 1 h3 u l.length (u16s l)
 have e5 : (u16s l).take l.length ++ (u16s (imgN w hh c most).l).drop l.length = u16s l := by
  rw [List.take_of_length_le (by simp), List.drop_eq_nil_of_le (by simp; omega), List.append_nil]
 rw [← e5]
 exact o3
def drawP (w h c most : Int) (l : List Int) : Pic :=
 ⟨1 + w % 20, 1 + h % 20, 1 + 2 * (c % 2), 1 + most % 65535, (List.range ((1 + w % 20) * (1 + h % 20) * (1 + 2 * (c % 2))).toNat).map fun i => if 0 < l.length then (l.getD (i % l.length) 0 + ((i / l.length : Nat) : Int)) % (1 + most % 65535 + 1) else 0⟩
theorem drawP_bd (w h c : Int) : 1 ≤ (1 + w % 20) * (1 + h % 20) * (1 + 2 * (c % 2)) ∧ (1 + w % 20) * (1 + h % 20) * (1 + 2 * (c % 2)) ≤ 1200 := by
 have h1 := zh1 (a := 1 + w % 20) (A := 20) (b := 1 + h % 20) (B := 20) (by omega) (by omega) (by omega) (by omega)
 have h3 := Int.mul_le_mul (show (1 : Int) ≤ 1 + w % 20 by omega) (show (1 : Int) ≤ 1 + h % 20 by omega) (by omega) (by omega)
 generalize (1 + w % 20) * (1 + h % 20) = a at *
 have : c % 2 = 0 ∨ c % 2 = 1 := by omega
 rcases this with h | h <;> rw [h] <;> omega
theorem drawP_Wf (w h c most : Int) (l : List Int) : (drawP w h c most l).Wf := by
 have hb := drawP_bd w h c
 refine ⟨⟨?_, ?_, ?_, ?_, ?_, ?_⟩, ?_, ?_, ?_, fun x hx => ?_⟩
 ·show 1 ≤ 1 + w % 20; omega
 ·show 1 + w % 20 ≤ 65536; omega
 ·show 1 ≤ 1 + h % 20; omega
 ·show 1 + h % 20 ≤ 65536; omega
 ·show 1 + 2 * (c % 2) = 1 ∨ 1 + 2 * (c % 2) = 3; omega
 ·show (1 + w % 20) * (1 + h % 20) * (1 + 2 * (c % 2)) ≤ 268435456; omega
 ·show 1 ≤ 1 + most % 65535; omega
 ·show 1 + most % 65535 ≤ 65535; omega
 ·show ((List.map _ (List.range _)).length : Int) = (1 + w % 20) * (1 + h % 20) * (1 + 2 * (c % 2))
  rw [List.length_map, List.length_range]; omega
 ·obtain ⟨i, _, rfl⟩ := List.mem_map.1 hx
  show 0 ≤ _ ∧ _ ≤ 1 + most % 65535
  split
  ·have := Int.emod_nonneg (l.getD (i % l.length) 0 + ((i / l.length : Nat) : Int)) (show 1 + most % 65535 + 1 ≠ 0 by omega)
   have := Int.emod_lt_of_pos (l.getD (i % l.length) 0 + ((i / l.length : Nat) : Int)) (show 0 < 1 + most % 65535 + 1 by omega)
   omega
  ·omega
theorem Own.at_mapU {h : Heap} {v : Value} {n : Nat} {g : Nat → Int} (H : Own 1 h v n ((List.range n).map fun i => Value.int .u16 (g i))) {k : IntKind} {i : Nat} (hi : i < n) :
  ∃ p, idxV 1 v (.int k (i : Int)) = some p ∧ ∀ (x : Int) (K : Value → Heap → Prop),
   (∀ h', Own 1 h' v n ((List.range n).map fun j => Value.int .u16 (if j = i then x else g j)) → Fr (blk v) h h' → K undef h') → stK 1 p (.int .u16 x) h K := by
 obtain ⟨p, h1, h2, h3⟩ := Own.at1 H (k := k) hi
 refine ⟨p, h1, fun x K HK => h3 _ _ rfl fun h' o f _ => HK h' ?_ f⟩
 rw [zku _ _ _ _ hi] at o
 have e : (fun j => if j = i then Value.int .u16 x else Value.int .u16 (g j)) = fun j => Value.int .u16 (if j = i then x else g j) := by
  funext j; split <;> rfl
 rw [e] at o
 exact o
abbrev U16 (n : Int) : Prop := 0 ≤ n ∧ n ≤ 65535
theorem c_l9Draw {h : Heap} {Z : Nat → Prop} {v : Value} {l : List Int} {w hh c most : Int} (H : Rp.Sl rU Z h v l) (hw : U16 w) (hhh : U16 hh) (hc : U16 c) (hm : U16 most) (h16 : ∀ x ∈ l, U16 x) (hl : l.length ≤ 4611686018427387904) :
  FCall prog zil #[.int .u16 w, .int .u16 hh, .int .u16 c, .int .u16 most, v] h fun r h' => zia h h' r (drawP w hh c most l) := by
 apply zqn
 unfold zko
 rw [zaJ _ _ _ _ (by omega), zaa, zaJ _ _ _ _ (by omega)]
 simp only [go_sem]
 rw [zaJ _ _ _ _ (by omega)]
 simp only [go_sem]
 rw [Int.tmod_eq_emod_of_nonneg hw.1, Int.tmod_eq_emod_of_nonneg hhh.1, Int.tmod_eq_emod_of_nonneg hc.1]
 rw [w64 (n := w % 20) (by omega) (by omega), w64 (n := hh % 20) (by omega) (by omega), w64 (n := c % 2) (by omega) (by omega), w64 (n := 2 * (c % 2)) (by omega) (by omega), w64 (n := 1 + 2 * (c % 2)) (by omega) (by omega), w64 (n := most) (by omega) (by omega),
  w64 (n := 1 + w % 20) (by omega) (by omega), w64 (n := 1 + hh % 20) (by omega) (by omega)]
 rw [zaJ _ _ _ _ (by omega), zaa, Int.tmod_eq_emod_of_nonneg hm.1]
 simp only [go_sem]
 have hb := drawP_bd w hh c
 have h1 := zh1 (a := 1 + w % 20) (A := 20) (b := 1 + hh % 20) (B := 20) (by omega) (by omega) (by omega) (by omega)
 rw [w64 (n := 1 + most % 65535) (by omega) (by omega), w64 (n := (1 + w % 20) * (1 + hh % 20)) (by omega) (by omega), w64 (n := (1 + w % 20) * (1 + hh % 20) * (1 + 2 * (c % 2))) (by omega) (by omega)]
 have PW := drawP_Wf w hh c most l
 obtain ⟨n, hn⟩ : ∃ n : Nat, (1 + w % 20) * (1 + hh % 20) * (1 + 2 * (c % 2)) = (n : Int) := ⟨((1 + w % 20) * (1 + hh % 20) * (1 + 2 * (c % 2))).toNat, by omega⟩
 have hpl : (drawP w hh c most l).l = (List.range n).map fun i => if 0 < l.length then (l.getD (i % l.length) 0 + ((i / l.length : Nat) : Int)) % (1 + most % 65535 + 1) else 0 := by unfold drawP; rw [hn]; rfl
 rw [hn]
 obtain ⟨top, htop⟩ : ∃ top, 1 + most % 65535 = top := ⟨_, rfl⟩
 rw [htop] at hpl ⊢
 have htb : 1 ≤ top ∧ top ≤ 65535 := by omega
 refine zly rfl (by omega) (by omega) fun u h2 o2 e2 n2 => ?_
 obtain ⟨au, cu, eu⟩ := o2.isSl
 have eu2 : zaf u = some (.int .i64 (n : Int)) := by rw [eu]; rfl
 obtain ⟨al, cl, el⟩ := H.isSl
 have el2 : zaf v = some (.int .i64 (l.length : Int)) := by rw [el]; rfl
 rw [eu2, zaa]
 have H := H.mono (Z' := fun c => c < h.size) fun c hc _ => hc
 generalize hg : (fun i : Nat => if 0 < l.length then (l.getD (i % l.length) 0 + ((i / l.length : Nat) : Int)) % (top + 1) else 0) = g at *
 have hgx : ∀ i, g i = if 0 < l.length then (l.getD (i % l.length) 0 + ((i / l.length : Nat) : Int)) % (top + 1) else 0 := fun i => by rw [← hg]
 refine zaz (α := Unit) n 0 (fun i _ => [.int .i64 (i : Int)]) (fun i _ h' => Ext h h' ∧ Own 1 h' u n ((List.range n).map fun j => Value.int .u16 (if j < i then g j else 0))) () rfl (Nat.zero_le _)
  ⟨e2, by
   have e : List.replicate n (Value.int .u16 0) = (List.range n).map fun j => Value.int .u16 (if j < 0 then g j else 0) := by apply List.ext_getElem <;> simp
   rw [← e]; exact o2⟩ fun i _ h3 again ρj _ hi ⟨E3, o3⟩ Hag => ?_
 simp only [go_sem]
 have stp : ∀ j, (if j = i then g i else if j < i then g j else 0) = if j < i + 1 then g j else 0 := fun j => by
  by_cases h1 : j = i
  ·subst h1; simp
  ·rw [if_neg h1]
   by_cases h2 : j < i
   ·rw [if_pos h2, if_pos (by omega)]
   ·rw [if_neg h2, if_neg (by omega)]
 refine zab (fun h4 => ?_) (fun h4 => ?_)
 ·have hi' : i < n := by omega
  rw [el2, zaa]
  simp only [go_sem]
  refine zab (fun h5 => ?_) (fun h5 => ?_)
  ·have hl0 : 0 < l.length := by omega
   refine zak (fun h' => h' = h3) rfl ?_
   refine zae (.int .i64 (l.length : Int)) (fun h' e => by first | exact el2 | rfl) ?_
   rw [zaJ _ _ _ _ (by omega), zaa, Int.tmod_eq_emod_of_nonneg (by omega), show (i : Int) % (l.length : Int) = ((i % l.length : Nat) : Int) by omega]
   have hil : i % l.length < l.length := Nat.mod_lt _ hl0
   obtain ⟨p, p1, p2⟩ := (H.ext E3).int_at (k' := .i64) hil
   rw [p1, zaa]
   refine zae _ (fun h' e => by rw [e]; exact p2) ?_
   have hx := h16 _ (List.getElem_mem hil)
   simp only [go_sem]
   refine zae (.int .i64 (l.length : Int)) (fun h' e => by first | exact el2 | rfl) ?_
   have hdl : i / l.length ≤ i := Nat.div_le_self _ _
   have hgi0 := hgx i
   rw [zdY _ _ _ _ (by omega), zaa, Int.tdiv_eq_ediv_of_nonneg (by omega), show (i : Int) / (l.length : Int) = ((i / l.length : Nat) : Int) by omega]
   generalize i / l.length = dq at hdl hgi0 ⊢
   rw [w64 (n := (dq : Int)) (by omega) (by omega)]
   simp only [go_sem]
   rw [w64 (n := l[i % l.length]) (by omega) (by omega), w64 (n := l[i % l.length] + (dq : Int)) (by omega) (by omega), w64 (n := top + 1) (by omega) (by omega)]
   rw [zaJ _ _ _ _ (by omega), zaa, Int.tmod_eq_emod_of_nonneg (by omega)]
   simp only [go_sem]
   have m1 := Int.emod_nonneg (l[i % l.length] + (dq : Int)) (show top + 1 ≠ 0 by omega)
   have m2 := Int.emod_lt_of_pos (l[i % l.length] + (dq : Int)) (show 0 < top + 1 by omega)
   rw [wu16 m1 (by omega)]
   have hgi : (l[i % l.length] + (dq : Int)) % (top + 1) = g i := by
    rw [hgi0, if_pos hl0]
    simp [List.getD_eq_getElem?_getD, hil]
   rw [hgi]
   obtain ⟨q, q1, q2⟩ := Own.at_mapU o3 (k := .i64) hi'
   rw [q1, zaa]
   refine q2 _ _ fun h6 o6 f6 => ?_
   rw [w64 (by omega) (by omega)]
   refine Hag () h6 hi' ⟨E3.then_fr f6 n2, ?_⟩
   simp only [stp] at o6
   exact o6
  ·rw [w64 (by omega) (by omega)]
   refine Hag () h3 hi' ⟨E3, ?_⟩
   have hg0 : g i = 0 := by rw [hgx, if_neg (by omega)]
   rw [← zau (g := fun j => Value.int .u16 (if j < i then g j else 0)) fun j _ => by
    congr 1
    rw [← stp j, hg0]
    by_cases h1 : j = i
    ·rw [if_pos h1, if_neg (by omega)]
    ·rw [if_neg h1]]
   exact o3
 ·have hin : i = n := by omega
  subst hin
  have o4 : Own 1 h3 u (drawP w hh c most l).l.length (u16s (drawP w hh c most l).l) := by
   rw [hpl, List.length_map, List.length_range, u16s, List.map_map]
   rw [← zau (g := fun j => Value.int .u16 (if j < i then g j else 0)) fun j hj => by rw [if_pos hj]; rfl]
   exact o3
  have hcode : imgC (1 + w % 20) (1 + hh % 20) (1 + 2 * (c % 2)) top = 0 := zfm.2 ⟨PW.fits, htb.1, htb.2⟩
  have hlen := PW.len
  refine (c_imgOf (zo9 o4) hcode hlen fun x hx => by have := PW.smp x hx; rw [show (drawP w hh c most l).most = top from htop] at this; exact this).mono fun r h5 ⟨p, e, N⟩ => ?_
  subst e
  simp only [go_sem]
  have N2 : zia h3 h5 p (drawP w hh c most l) := by
   have : drawP w hh c most l = ⟨1 + w % 20, 1 + hh % 20, 1 + 2 * (c % 2), top, (drawP w hh c most l).l⟩ := by rw [← htop]; rfl
   rw [this]; exact N
  obtain ⟨b, x, e1, e2', e3', e4', e5'⟩ := N2
  exact ⟨b, x, e1, e2', Nat.le_trans E3.1 e3', fun c hc => Nat.le_trans E3.1 (e4' c hc), E3.trans e5'⟩
theorem zkx {k : IntKind} {h : Heap} {b : Nat} {t : TypeId} {l : List Int} {n : Nat} (hn : l.length = n) (hb : h[b]? = some (.cells (l.map fun n => Value.int k n).toArray t (0, 0))) : Rp.Sl (Rp.int k) (fun k => k = b) h (.slice (some ⟨b, 0, none⟩) n n) l := by
 subst hn
 refine ⟨l.map (Value.int k), ⟨by simp [Rp.int], _, _, rfl, .inr ⟨b, 0, rfl, fun j hj => ?_⟩⟩, fun _ k hk => hk, fun i hi => ?_⟩
 ·rw [Nat.zero_add, zac hb]
  simp at hj
  simp [hj]
 ·show Rp.el 1 _ i = [.int k l[i]]
  rw [Rp.el_one (by simpa using hi), List.getElem_map]
theorem c_l5Lives {h : Heap} (G : GlobB h) : FCall prog zhe #[] h fun r h' => r = .bool true ∧ Ext h h' := by
 apply zoH
 unfold zjh
 refine (c_rawRow G).mono fun w h1 ⟨u, e, N⟩ => ?_
 subst e
 have e1 : zbj 0 4 2 1 = 2 := by decide +kernel
 have e2 : zaW 0 4 2 1 = [536870912, 536870912] := by decide +kernel
 rw [e1]
 rw [e2] at N
 obtain ⟨a, c, eu⟩ := N.isSl
 have e3 : zaf u = some (.int .i64 2) := by rw [eu]; rfl
 obtain ⟨p, p1, p2⟩ := N.sl.int_at (k' := .i64) (i := 0) (by simp)
 obtain ⟨q, q1, q2⟩ := N.sl.int_at (k' := .i64) (i := 1) (by simp)
 have p1 : idxV 1 u (.int .i64 0) = some p := p1
 have q1 : idxV 1 u (.int .i64 1) = some q := q1
 have p2 : ldV h1 p = some (.int .i64 536870912) := p2
 have q2 : ldV h1 q = some (.int .i64 536870912) := q2
 simp only [go_sem, e3, p1, p2, q1, q2, eq_self, decide_true]
 refine (c_Keys (by omega) (by unfold I64; omega)).mono fun w h2 ⟨e, wq⟩ => ?_
 have wq := wq.symm
 subst e wq
 have k1 : keysZ 0 1 = 1073741824 := by decide +kernel
 have k2 : keysZ 1 2 = 603979776 := by decide +kernel
 rw [k1]
 simp only [go_sem, eq_self, decide_true]
 refine (c_Keys (by omega) (by unfold I64; omega)).mono fun w h2 ⟨e, wq⟩ => ?_
 have wq := wq.symm
 subst e wq
 rw [k2]
 simp only [go_sem, eq_self, decide_true]
 exact ⟨by simp, N.2.1⟩
theorem c_l6Lives {h : Heap} : FCall prog zhd #[] h fun r h' => r = .bool true ∧ Ext h h' := by
 apply zoG
 unfold zjg
 refine zbZ (c' := #[.int .i64 536870912, .int .i64 536870912, .int .i64 536870912]) rfl fun b1 h1 r1 e1 n1 => ?_
 have S1 := zkx (k := .i64) (l := [536870912, 536870912, 536870912]) (n := 3) rfl r1
 have w1 : ∀ x ∈ [(536870912 : Int), 536870912, 536870912], I64 x := by simp [I64]
 refine (zjF S1 w1 (by simp)).mono fun w h2 ⟨u, e, N⟩ => ?_
 subst e
 have a1 : zaS [536870912, 536870912, 536870912] = 0 := by decide +kernel
 have a2 : zaC [536870912, 536870912, 536870912] = [5462, 5461, 5461] := by decide +kernel
 rw [a1]
 rw [a2] at N
 simp only [go_sem]
 refine (zpA (by unfold I64; omega)).mono fun w h3 ⟨x, e, M⟩ => ?_
 subst e
 have b1' : zn0 65536 = 0 := by decide +kernel
 have b2' : (zgz 65536).length = 7 := by decide +kernel
 rw [b1']
 obtain ⟨ax, cx, ex⟩ := M.isSl
 have ex2 : zaf x = some (.int .i64 7) := by rw [ex, b2']; rfl
 simp only [go_sem, eq_self, decide_true]
 refine zbZ (c' := #[.int .i64 5462, .int .i64 5461, .int .i64 5461]) rfl fun b4 h4 r4 e4 n4 => ?_
 have S4 := zkx (k := .i64) (l := [5462, 5461, 5461]) (n := 3) rfl r4
 refine (c_Same06 (N.sl.ext (M.2.1.trans e4)) S4 (by simp)).mono fun w h5 ⟨e, wq⟩ => ?_
 have wq := wq.symm
 subst e wq
 simp only [go_sem, eq_self, decide_true, ex2]
 exact ⟨by simp, e1.trans (N.2.1.trans (M.2.1.trans e4))⟩
theorem livesT_eq : zbA 0 4 2 = ⟨4, [(0, [8192, 8192]), (2, [8192, 8192])]⟩ := by
 have e : (zbA 0 4 2).lines = [(0, [8192, 8192]), (2, [8192, 8192])] := by decide +kernel
 show (⟨4, (zbA 0 4 2).lines⟩ : Tbl) = _
 rw [e]
theorem znQ : (⟨4, [(0, [8192, 8192]), (2, [8192, 8192])]⟩ : Tbl).Wf := by
 constructor <;> simp
theorem c_l8Lives {h : Heap} (G : GlobB h) : FCall prog zhc #[] h fun r h' => r = .bool true ∧ Ext h h' := by
 apply zoF
 unfold zjf
 refine (c_l5Lives G).mono fun w h1 ⟨e, e1⟩ => ?_
 subst e
 simp only [go_sem]
 refine c_l6Lives.mono fun w h2 ⟨e, e2⟩ => ?_
 subst e
 simp only [go_sem]
 refine (zqX (G.ext (e1.trans e2)) (by unfold I64; omega) (by unfold I64; omega) (by unfold I64; omega)).mono fun w h3 ⟨p, e, e3, _, s1⟩ => ?_
 subst e
 have a1 : za2 0 4 2 = 0 := by decide +kernel
 have T := s1 a1
 rw [livesT_eq] at T
 rw [a1]
 obtain ⟨pb, _, _, hp, _⟩ := T
 have T := s1 a1
 rw [livesT_eq] at T
 have np : binV .p .eql p (.pointer none) = some (.bool false) := by rw [hp]; rfl
 simp only [go_sem, eq_self, decide_true, np]
 refine (zmr T znQ).mono fun w h4 ⟨u, e, U, e4⟩ => ?_
 subst e
 have l1 : lineT ⟨4, [(0, [8192, 8192]), (2, [8192, 8192])]⟩ 1 = (2, [8192, 8192]) := by rfl
 rw [l1] at U ⊢
 refine zaR (cs := [.int .i64 2, u]) rfl (zad rfl (zad U.one zaq)) rfl fun b5 h5 r5 e5 n5 => ?_
 refine (c_Reach (T.ext (e4.trans e5)) znQ (by unfold I64; omega) (by unfold I64; omega)).mono fun w h6 ⟨e, e6⟩ => ?_
 subst e
 have l2 : zjn ⟨4, [(0, [8192, 8192]), (2, [8192, 8192])]⟩ 0 2 = (0, 4) := by decide +kernel
 rw [l2]
 simp only [go_sem]
 refine (zmr (T.ext (e4.trans (e5.trans e6))) znQ).mono fun w h7 ⟨u2, e, U2, e7⟩ => ?_
 subst e
 have l0 : lineT ⟨4, [(0, [8192, 8192]), (2, [8192, 8192])]⟩ 0 = (0, [8192, 8192]) := by rfl
 rw [l0]
 have pv : partV false 1 0 (.agg #[.int .i64 0, u2]) = some (.int .i64 0) := rfl
 have r5' := (e6.trans e7).row r5
 simp only [go_sem, pv, eq_self, decide_true, zac r5']
 refine zbZ (c' := #[.int .i64 8192, .int .i64 8192]) rfl fun b8 h8 r8 e8 n8 => ?_
 have S8 := zkx (k := .i64) (l := [8192, 8192]) (n := 2) rfl r8
 refine (c_Same06 (U.ext (e5.trans (e6.trans (e7.trans e8)))) S8 (by simp)).mono fun w h9 ⟨e, wq⟩ => ?_
 have wq := wq.symm
 subst e wq
 simp only [go_sem, eq_self, decide_true]
 exact ⟨by simp, e1.trans (e2.trans (e3.trans (e4.trans (e5.trans (e6.trans (e7.trans e8))))))⟩
theorem zmL {Z : Nat → Prop} {h : Heap} {k b s r f w hh : Int} : rOp.R Z h [.int .i64 k, .int .i64 b, .int .i64 s, .int .i64 r, .slice none 0 0, .slice none 0 0, .int .i64 f, .int .i64 w, .int .i64 hh] ⟨k, b, s, r, [], [], f, w, hh⟩ := ⟨_, _, rfl, Rp.Sl.nil, Rp.Sl.nil⟩
theorem zmK {k b s r f w hh : Int} (h : ∀ x ∈ [k, b, s, r, f, w, hh], I64 x) : OpD.Wf ⟨k, b, s, r, [], [], f, w, hh⟩ := by
 constructor <;> first | exact h _ (by simp) | simp
theorem zpw {h : Heap} (G : GlobB h) : FCall prog zeS #[] h fun r h' => r = .bool true ∧ Ext h h' := by
 apply zoC
 unfold zjc
 have hf : (fillL #[(.int .i64 0), (.int .i64 0), (.int .i64 0), (.int .i64 0), (.slice none 0 0), (.slice none 0 0), (.int .i64 0), (.int .i64 0), (.int .i64 0)] [(0, 1, (.int .i64 3)), (7, 1, (.int .i64 2)), (8, 1, (.int .i64 1)), (6, 1, (.int .i64 0))]) = some #[.int .i64 3, .int .i64 0, .int .i64 0, .int .i64 0, .slice none 0 0, .slice none 0 0, .int .i64 0, .int .i64 2, .int .i64 1] := rfl
 rw [hf, zaA, zaa]
 have wf : OpD.Wf ⟨3, 0, 0, 0, [], [], 0, 2, 1⟩ := zmK (by simp [I64])
 refine (c_Make (Z := fun _ => True) G zmL wf (by simp) (by simp) (by unfold I64; omega) (by unfold I64; omega)).mono fun w h1 ⟨sv, e, e1, _, s1⟩ => ?_
 subst e
 have a1 : makeC ⟨3, 0, 0, 0, [], [], 0, 2, 1⟩ 4 3 = 0 := by decide +kernel
 obtain ⟨p, q, rfl, tp, tq⟩ := s1 a1
 rw [a1]
 simp only [go_sem]
 refine zaR (cs := [p, q, .int .i64 _]) rfl (zad (zen tp) (zad (zen tq) (zad rfl zaq))) rfl fun b2 h2 r2 e2 n2 => ?_
 refine (c_l8Lives (G.ext (e1.trans e2))).mono fun w h3 ⟨e, e3⟩ => ?_
 subst e
 have r2' := e3.row r2
 have tp3 := tp.ext (e2.trans e3)
 have tq3 := tq.ext (e2.trans e3)
 have np : binV .p .neq p (.pointer none) = some (.bool true) := by obtain ⟨_, _, _, hp, _⟩ := tp; rw [hp]; rfl
 have nq : binV .p .neq q (.pointer none) = some (.bool true) := by obtain ⟨_, _, _, hp, _⟩ := tq; rw [hp]; rfl
 simp only [go_sem, eq_self, decide_true, zac r2', np, nq]
 refine (c_From tp3).mono fun w h4 ⟨e, wq⟩ => ?_
 have wq := wq.symm
 subst e wq
 have t1 : (makeS ⟨3, 0, 0, 0, [], [], 0, 2, 1⟩ 4 3).x.n = 4 := rfl
 have t2 : ((makeS ⟨3, 0, 0, 0, [], [], 0, 2, 1⟩ 4 3).x.lines.length : Int) = 2 := by decide +kernel
 have t3 : (makeS ⟨3, 0, 0, 0, [], [], 0, 2, 1⟩ 4 3).y.n = 3 := rfl
 have t4 : ((makeS ⟨3, 0, 0, 0, [], [], 0, 2, 1⟩ 4 3).y.lines.length : Int) = 1 := by decide +kernel
 rw [t1]
 simp only [go_sem, eq_self, decide_true, zac r2', np, nq]
 refine (c_To tp3).mono fun w h4 ⟨e, wq⟩ => ?_
 have wq := wq.symm
 subst e wq
 rw [t2]
 simp only [go_sem, eq_self, decide_true, zac r2', np, nq]
 refine (c_From tq3).mono fun w h4 ⟨e, wq⟩ => ?_
 have wq := wq.symm
 subst e wq
 rw [t3]
 simp only [go_sem, eq_self, decide_true, zac r2', np, nq]
 refine (c_To tq3).mono fun w h4 ⟨e, wq⟩ => ?_
 have wq := wq.symm
 subst e wq
 rw [t4]
 simp only [go_sem, eq_self, decide_true]
 exact ⟨by simp, e1.trans (e2.trans e3)⟩
theorem c_l9Lives {h : Heap} : FCall prog zha #[] h fun r h' => r = .bool true ∧ Ext h h' := by
 apply zoD
 unfold zjd
 refine zf0.mono fun w h1 ⟨p, e, e1, _, s1⟩ => ?_
 subst e
 have a1 : imgC 2 1 3 255 = 0 := by decide +kernel
 obtain ⟨b, v, rfl, I, nb, nv, _⟩ := s1 a1
 have W := zlA a1
 rw [a1]
 have np : binV .p .neq (ptr b) (.pointer none) = some (.bool true) := rfl
 simp only [go_sem, eq_self, decide_true, np]
 refine (c_Samples I W).mono fun u h2 N => ?_
 obtain ⟨au, cu, eu⟩ := N.isSl
 have eu2 : zaf u = some (.int .i64 6) := by rw [eu]; rfl
 simp only [go_sem, eq_self, decide_true, eu2]
 refine (c_Set (I.ext N.2.1) W (by omega) (by omega)).mono fun r h3 ⟨e, I3, f3, s3⟩ => ?_
 subst e
 have a2 : ¬ (inP (imgN 2 1 3 255) 1 0 2 ∧ (256 : Int) ≤ (imgN 2 1 3 255).most) := by decide +kernel
 rw [if_neg a2] at I3
 rw [decide_eq_false a2]
 simp only [go_sem]
 refine (c_Set I3 W (by omega) (by omega)).mono fun r h4 ⟨e, I4, f4, s4⟩ => ?_
 subst e
 have a3 : inP (imgN 2 1 3 255) 1 0 2 ∧ (255 : Int) ≤ (imgN 2 1 3 255).most := by decide +kernel
 rw [decide_eq_true a3]
 simp only [go_sem]
 exact ⟨by simp, ((e1.trans N.2.1).then_fr f3 nv).then_fr f4 nv⟩
def atZ (p j n : Int) : Int := if n < 1 ∨ 65536 < n then 0 else if p = 0 then max 0 (min j (n - 1)) else if p = 1 then min (j % (2 * n)) (2 * n - 1 - j % (2 * n)) else if p = 2 then j % n else 0
theorem ziy {h : Heap} {p j n : Int} (hj : I64 j) : FCall prog zdW #[.int .i64 p, .int .i64 j, .int .i64 n] h fun r h' => r = .int .i64 (atZ p j n) ∧ h' = h := by
 apply ok_border_At
 unfold zmh atZ
 simp only [go_sem]
 refine zab (fun h0 => ?_) (fun h0 => ?_)
 ·rw [if_pos h0]; exact ⟨rfl, trivial⟩
 rw [if_neg h0]
 have a1 := Int.emod_nonneg j (show 2 * n ≠ 0 by omega)
 have a2 := Int.emod_lt_of_pos j (show 0 < 2 * n by omega)
 refine zab (fun h1 => ?_) (fun h1 => ?_)
 ·rw [if_pos h1, w64 (by omega) (by omega)]
  exact c_Clamp
 rw [if_neg h1]
 refine zab (fun h2 => ?_) (fun h2 => ?_)
 ·rw [if_pos h2, w64 (n := 2 * n) (by omega) (by omega)]
  refine (c_Mod hj (by unfold I64; omega) (by omega)).mono fun v h' ⟨e, w⟩ => ?_
  subst e
  simp only [go_sem]
  rw [w64 (n := 2 * n - 1) (by omega) (by omega), w64 (by omega) (by omega)]
  exact ⟨rfl, w⟩
 rw [if_neg h2]
 refine zab (fun h3 => ?_) (fun h3 => ?_)
 ·rw [if_pos h3]
  exact c_Mod hj (by unfold I64; omega) (by omega)
 ·rw [if_neg h3]; exact ⟨rfl, trivial⟩
theorem tmod_two (j b : Int) (hb : 0 < b) : (0 ≤ j.tmod b ∧ j.tmod b = j % b) ∨ (j.tmod b < 0 ∧ j.tmod b = j % b - b) := by
 have e := @Int.emod_eq_tmod j b
 have hl := Int.emod_nonneg j (show b ≠ 0 by omega)
 have hl2 := Int.emod_lt_of_pos j hb
 split at e
 ·left; omega
 ·by_cases h : j.tmod b < 0
  ·right; omega
  ·omega
theorem c_r7At {h : Heap} {p j n : Int} (hj : I64 j) : FCall prog ziE #[.int .i64 p, .int .i64 j, .int .i64 n] h fun r h' => r = .int .i64 (atZ p j n) ∧ h' = h := by
 apply ok_ref07_At
 unfold zna atZ
 simp only [go_sem]
 refine zab (fun h0 => ?_) (fun h0 => ?_)
 ·refine ⟨?_, trivial⟩
  congr 1
  split
  ·rfl
  ·split
   ·omega
   ·split
    ·omega
    ·split
     ·omega
     ·rfl
 rw [if_neg (by omega)]
 have a1 := Int.emod_nonneg j (show 2 * n ≠ 0 by omega)
 have a2 := Int.emod_lt_of_pos j (show 0 < 2 * n by omega)
 have a3 := Int.emod_emod_of_dvd j (show n ∣ 2 * n from ⟨2, by omega⟩)
 refine zab (fun h1 => ?_) (fun h1 => ?_)
 ·refine ⟨?_, trivial⟩
  congr 1
  have e1 := Int.emod_eq_of_lt h1.1 (show j < 2 * n by omega)
  have e2 := Int.emod_eq_of_lt h1.1 h1.2
  rw [e1, e2]
  split
  ·omega
  ·split
   ·omega
   ·split <;> omega
 refine zab (fun h2 => ?_) (fun h2 => ?_)
 ·rw [if_pos h2]
  refine zab (fun h3 => ?_) (fun h3 => ?_)
  ·exact ⟨by congr 1; omega, trivial⟩
  ·rw [w64 (by omega) (by omega)]
   exact ⟨by congr 1; omega, trivial⟩
 rw [if_neg h2, w64 (n := 2 * n) (by omega) (by omega), zaJ _ _ _ _ (by omega), zaa]
 have fin : ∀ r : Int, r = j % (2 * n) → iteK (.bool (decide (r < n))) (Value.int .i64 r = .int .i64 (if p = 1 then min (j % (2 * n)) (2 * n - 1 - j % (2 * n)) else if p = 2 then j % n else 0) ∧ True)
   (iteK (.bool (decide (p = 2))) (Value.int .i64 (IntKind.i64.wrap (r - n)) = .int .i64 (if p = 1 then min (j % (2 * n)) (2 * n - 1 - j % (2 * n)) else if p = 2 then j % n else 0) ∧ True)
    (Value.int .i64 (IntKind.i64.wrap (IntKind.i64.wrap (2 * n - 1) - r)) = .int .i64 (if p = 1 then min (j % (2 * n)) (2 * n - 1 - j % (2 * n)) else if p = 2 then j % n else 0) ∧ True)) := by
  intro r hr
  rw [← a3, ← hr]
  rw [← hr] at a1 a2
  refine zab (fun h3 => ?_) (fun h3 => ?_)
  ·have e := Int.emod_eq_of_lt a1 h3
   refine ⟨?_, trivial⟩
   congr 1
   rw [e]
   split
   ·omega
   ·split <;> omega
  ·have e : r % n = r - n := by
    rw [← Int.sub_emod_right]
    exact Int.emod_eq_of_lt (by omega) (by omega)
   refine zab (fun h4 => ?_) (fun h4 => ?_)
   ·rw [w64 (by omega) (by omega)]
    refine ⟨?_, trivial⟩
    congr 1
    rw [if_neg (by omega), if_pos h4, e]
   ·rw [w64 (n := 2 * n - 1) (by omega) (by omega), w64 (by omega) (by omega)]
    refine ⟨?_, trivial⟩
    congr 1
    rw [if_pos (by omega)]
    omega
 rcases tmod_two j (2 * n) (by omega) with ⟨t1, t2⟩ | ⟨t1, t2⟩
 ·refine zc0 (fun _ => [.int .i64 (j.tmod (2 * n))]) 0 0 rfl (Nat.le_refl _) fun k again ρj _ hk _ => ?_
  simp only [go_sem]
  refine zab (fun h3 => absurd h3 (by omega)) (fun h3 => ?_)
  exact fin _ t2
 ·refine zc0 (fun k => [.int .i64 (j.tmod (2 * n) + (k : Int) * (2 * n))]) 1 0 (by simp) (by omega) fun k again ρj _ hk H => ?_
  simp only [go_sem]
  refine zab (fun h3 => ?_) (fun h3 => ?_)
  ·have hk0 : k = 0 := by
    rcases Nat.eq_zero_or_pos k with h4 | h4
    ·exact h4
    ·have : k = 1 := by omega
     subst this
     omega
   subst hk0
   have H := H (by omega)
   rw [w64 (by omega) (by omega)]
   simpa using H
  ·have hk1 : k = 1 := by
    rcases Nat.eq_zero_or_pos k with h4 | h4
    ·subst h4; simp at h3; omega
    ·omega
   subst hk1
   have e : j.tmod (2 * n) + ((1 : Nat) : Int) * (2 * n) = j % (2 * n) := by omega
   rw [e]
   exact fin _ rfl
end Go.Proofs.YtojmncnelbnceaaGreatDoor
namespace Go.Crisp
open Go
def sumN (f : Nat → Int) : Nat → Int
 | 0 => 0
 | n + 1 => sumN f n + f n
theorem zit {f g : Nat → Int} : ∀ {n : Nat}, (∀ i, i < n → f i = g i) → sumN f n = sumN g n
 | 0, _ => rfl
 | n + 1, h => by unfold sumN; rw [zit fun i hi => h i (by omega), h n (by omega)]
theorem zpJ (a : Int) (f : Nat → Int) : ∀ n, sumN (fun i => a * f i) n = a * sumN f n
 | 0 => by simp [sumN]
 | n + 1 => by unfold sumN; rw [zpJ a f n, Int.mul_add]
theorem sumN_add (f g : Nat → Int) : ∀ n, sumN (fun i => f i + g i) n = sumN f n + sumN g n
 | 0 => by simp [sumN]
 | n + 1 => by unfold sumN; rw [sumN_add f g n]; omega
theorem sumN_zero : ∀ n, sumN (fun _ => 0) n = 0
 | 0 => rfl
 | n + 1 => by unfold sumN; rw [sumN_zero n]; rfl
theorem sumN_swap (f : Nat → Nat → Int) (m : Nat) : ∀ n, sumN (fun i => sumN (fun j => f i j) m) n = sumN (fun j => sumN (fun i => f i j) n) m
 | 0 => by simp only [sumN]; rw [sumN_zero]
 | n + 1 => by
  simp only [sumN]
  rw [sumN_swap f m n, ← sumN_add]
theorem zjT (A a v : Int) : IntKind.i64.wrap (IntKind.i64.wrap A + IntKind.i64.wrap (a * v)) = IntKind.i64.wrap (A + a * v) := by rw [zgi, zeV]
theorem wrap_step3 (A a b v : Int) : IntKind.i64.wrap (IntKind.i64.wrap A + IntKind.i64.wrap (IntKind.i64.wrap (a * b) * v)) = IntKind.i64.wrap (A + b * (a * v)) := by
 rw [zir, zgi, zeV]
 congr 1
 rw [Int.mul_comm a b, Int.mul_assoc]
def zhu (s most : Int) : Int := max 0 (min (ze4 s 28) (max 0 (min most 65535)))
theorem znk (s : Int) {most : Int} (h : 0 ≤ most) : 0 ≤ zhu s most ∧ zhu s most ≤ 65535 ∧ zhu s most ≤ most := by unfold zhu; omega
end Go.Crisp
namespace Go.Proofs.YtojmncnelbnceaaGreatDoor
open Go Go.Crisp
attribute [local irreducible] FCall rowK newK stK iteK vK qK drawK gK joinK loopK mkK appK cpyK zqt znp bsK clK
open _root_.Go.Proofs.Tryz
def zgb (m : Pic) (s : Stg) (x row c : Int) : Int := sumN (fun i => (lineT s.x x).2.getD i 0 * atP m (atZ s.border ((lineT s.x x).1 + i) m.w) row c) (lineT s.x x).2.length
def totZ (m : Pic) (s : Stg) (x y c : Int) : Int := sumN (fun k => (lineT s.y y).2.getD k 0 * zgb m s x (atZ s.border ((lineT s.y y).1 + k) m.h) c) (lineT s.y y).2.length
def pixZ (m : Pic) (s : Stg) (x y c : Int) : Int := zhu (IntKind.i64.wrap (totZ m s x y c)) m.most
structure Stg.Wf (s : Stg) : Prop where
 x : s.x.Wf
 y : s.y.Wf
def zhA (m : Pic) (s : Stg) : Prop := s.x.n = m.w ∧ s.y.n = m.h ∧ 0 ≤ s.border ∧ s.border < 3
instance (m : Pic) (s : Stg) : Decidable (zhA m s) := by unfold zhA; infer_instance
theorem c_Round {h : Heap} {n most : Int} (hn : I64 n) : FCall prog zd7 #[.int .i64 n, .int .i64 most] h fun r h' => r = .int .u16 (zhu n most) ∧ h' = h := by
 apply znG
 unfold zhP
 refine (zqW hn (by unfold I64; omega)).mono fun r h1 ⟨e, wq⟩ => ?_
 have wq := wq.symm
 subst e wq
 simp only [go_sem]
 refine c_Clamp.mono fun r h1 ⟨e, wq⟩ => ?_
 have wq := wq.symm
 subst e wq
 simp only [go_sem]
 rw [wu16 (by omega) (by omega)]
 exact ⟨rfl, trivial⟩
theorem zcS {Z : Nat → Prop} {h : Heap} {sv : Value} {s : Stg} (H : IsStg Z h sv s) : ∃ p q, sv = .agg #[p, q, .int .i64 s.border] ∧ IsTbl Z h p s.x ∧ IsTbl Z h q s.y ∧ (∀ v ∈ [p, q, Value.int .i64 s.border], zam v = true) := by
 obtain ⟨p, q, e, hp, hq⟩ := H
 exact ⟨p, q, e, hp, hq, zad (zen hp) (zad (zen hq) (zad rfl zaq))⟩
theorem zoT {Z : Nat → Prop} {h : Heap} {p : Value} {t : Tbl} (H : IsTbl Z h p t) : binV .p .neq p (.pointer none) = some (.bool true) ∧ binV .p .eql p (.pointer none) = some (.bool false) := by
 obtain ⟨_, _, _, hp, _⟩ := H
 rw [hp]
 exact ⟨rfl, rfl⟩
theorem c_Suits {h : Heap} (G : GlobB h) {Z : Nat → Prop} {b : Nat} {v sv : Value} {m : Pic} {s : Stg} (H : IsImg h b v m) (HS : IsStg Z h sv s) : FCall prog zbU #[ptr b, sv] h fun r h' => r = .bool (decide (zhA m s)) ∧ Ext h h' := by
 apply zh0
 unfold zfc
 obtain ⟨p, q, rfl, hp, hq, ones⟩ := zcS HS
 simp only [zax]
 refine zag fun b1 h1 r1 e1 n1 => ?_
 have np := (zoT hp).1
 have nq := (zoT hq).1
 have hp := hp.ext e1
 have hq := hq.ext e1
 have H := H.ext e1
 have q0 : zah h1 ⟨b1, 0, none⟩ = some p := zac r1
 have q1 : zah h1 ⟨b1, 1, none⟩ = some q := zac r1
 have q2 : zah h1 ⟨b1, 2, none⟩ = some (.int .i64 s.border) := zac r1
 simp only [go_sem, Nat.zero_add, q0, q1, q2, np, nq]
 refine (c_From hp).mono fun r h2 ⟨e, wq⟩ => ?_
 have wq := wq.symm
 subst e wq
 refine (zh7 H).mono fun r h2 ⟨e, wq⟩ => ?_
 have wq := wq.symm
 subst e wq
 simp only [go_sem]
 by_cases h1' : s.x.n = m.w
 ·simp only [go_sem, h1', q1, q2]
  refine (c_From hq).mono fun r h2 ⟨e, wq⟩ => ?_
  have wq := wq.symm
  subst e wq
  refine (zf1 H).mono fun r h2 ⟨e, wq⟩ => ?_
  have wq := wq.symm
  subst e wq
  simp only [go_sem]
  by_cases h2' : s.y.n = m.h
  ·simp only [go_sem, h2', q2]
   refine (zmq (G.ext e1)).mono fun r h2 ⟨e, wq⟩ => ?_
   have wq := wq.symm
   subst e wq
   try rw [S_nil, zq2]
   simp only [go_sem]
   refine ⟨?_, e1⟩
   congr 1
   have hb := bNameNil s.border
   by_cases hbn : bName s.border = []
   ·rw [decide_eq_false (by simpa using hbn), decide_eq_false]
    unfold zhA
    have := hb.1 hbn
    rintro ⟨_, _, a, b⟩
    exact this ⟨a, b⟩
   ·rw [decide_eq_true (by simpa using hbn), decide_eq_true]
    have := Decidable.of_not_not fun hh => hbn (hb.2 hh)
    exact ⟨h1', h2', this.1, this.2⟩
  ·simp only [go_sem, h2']
   refine ⟨?_, e1⟩
   rw [decide_eq_false]
   rintro ⟨_, a, _⟩
   exact h2' a
 ·simp only [go_sem, h1']
  refine ⟨?_, e1⟩
  rw [decide_eq_false]
  rintro ⟨a, _⟩
  exact h1' a
abbrev LV : Type := Option (Nat × Option Bool)
abbrev zeroL : Array Value := #[.int .i64 0, .slice none 0 0]
def lvAt (h : Heap) (Lx Ly : Int × List Int) (ux uy : Option Value) (b : Nat) : Option Bool → Prop
 | none => h[b]? = some (.cells zeroL 96 (0, 0))
 | some true => ∃ u, ux = some u ∧ Two h b 96 (.int .i64 Lx.1) u
 | some false => ∃ u, uy = some u ∧ Two h b 96 (.int .i64 Ly.1) u
theorem lvAt.row {h : Heap} {Lx Ly : Int × List Int} {ux uy : Option Value} {b : Nat} : ∀ {s : Option Bool}, lvAt h Lx Ly ux uy b s → b < h.size
 | none, H => zaB H
 | some true, ⟨u, _, r⟩ => zaB r
 | some false, ⟨u, _, r⟩ => zaB r
theorem lvAt.up {h h' : Heap} {Lx Ly : Int × List Int} {ux uy ux' uy' : Option Value} {b : Nat} (e : h'[b]? = h[b]?) (kx : ∀ u, ux = some u → ux' = some u) (ky : ∀ u, uy = some u → uy' = some u) : ∀ {s : Option Bool}, lvAt h Lx Ly ux uy b s → lvAt h' Lx Ly ux' uy' b s
 | none, H => by show h'[b]? = _; rw [e]; exact H
 | some true, ⟨u, hu, r⟩ => ⟨u, kx u hu, by show h'[b]? = _; rw [e]; exact r⟩
 | some false, ⟨u, hu, r⟩ => ⟨u, ky u hu, by show h'[b]? = _; rw [e]; exact r⟩
def apart (v1 v2 : LV) (c : Nat) : Prop := (∀ p, v1 = some p → p.1 ≠ c) ∧ (∀ p, v2 = some p → p.1 ≠ c)
structure LnMk (h0 : Heap) (Lx Ly : Int × List Int) (ux uy : Option Value) (v1 v2 : LV) (h : Heap) : Prop where
 ext : Ext h0 h
 lx : ∀ u, ux = some u → SlI (apart v1 v2) h u Lx.2
 ly : ∀ u, uy = some u → SlI (apart v1 v2) h u Ly.2
 at1 : ∀ p, v1 = some p → h0.size ≤ p.1 ∧ lvAt h Lx Ly ux uy p.1 p.2
 at2 : ∀ p, v2 = some p → h0.size ≤ p.1 ∧ lvAt h Lx Ly ux uy p.1 p.2
 dis : ∀ p q, v1 = some p → v2 = some q → p.1 ≠ q.1
theorem LnMk.start (h : Heap) (Lx Ly : Int × List Int) : LnMk h Lx Ly none none none none h := ⟨Ext.refl _, by simp, by simp, by simp, by simp, by simp⟩
theorem LnMk.line_x {h0 h : Heap} {uy : Option Value} {v1 v2 : LV} {Ly : Int × List Int} {Z : Nat → Prop} {p : Value} {t : Tbl} {x : Int} {K : Value → Heap → Prop} (M : LnMk h0 (lineT t x) Ly none uy v1 v2 h) (T : IsTbl Z h0 p t) (W : t.Wf)
  (H : ∀ u h', LnMk h0 (lineT t x) Ly (some u) uy v1 v2 h' → K (.agg #[.int .i64 (lineT t x).1, u]) h') : FCall prog zai #[p, .int .i64 x] h K := by
 refine (zmr (T.ext M.ext) W (i := x)).mono fun r h' ⟨u, e, S, E⟩ => ?_
 subst e
 have hv : ∀ (v : LV), (∀ p, v = some p → h0.size ≤ p.1 ∧ lvAt h (lineT t x) Ly none uy p.1 p.2) → ∀ p, v = some p → h0.size ≤ p.1 ∧ lvAt h' (lineT t x) Ly (some u) uy p.1 p.2 := fun v a p hp =>
  ⟨(a p hp).1, (a p hp).2.up (E.2 _ (a p hp).2.row) (by simp) fun _ => id⟩
 refine H u h' ⟨M.ext.trans E, fun w hw => ?_, fun w hw => (M.ly w hw).ext E, hv _ M.at1, hv _ M.at2, M.dis⟩
 cases hw
 refine S.mono fun c _ hz => ⟨fun p hp he => ?_, fun p hp he => ?_⟩
 ·have := (M.at1 p hp).2.row; omega
 ·have := (M.at2 p hp).2.row; omega
theorem LnMk.line_y {h0 h : Heap} {ux : Option Value} {v1 v2 : LV} {Lx : Int × List Int} {Z : Nat → Prop} {p : Value} {t : Tbl} {x : Int} {K : Value → Heap → Prop} (M : LnMk h0 Lx (lineT t x) ux none v1 v2 h) (T : IsTbl Z h0 p t) (W : t.Wf)
  (H : ∀ u h', LnMk h0 Lx (lineT t x) ux (some u) v1 v2 h' → K (.agg #[.int .i64 (lineT t x).1, u]) h') : FCall prog zai #[p, .int .i64 x] h K := by
 refine (zmr (T.ext M.ext) W (i := x)).mono fun r h' ⟨u, e, S, E⟩ => ?_
 subst e
 have hv : ∀ (v : LV), (∀ p, v = some p → h0.size ≤ p.1 ∧ lvAt h Lx (lineT t x) ux none p.1 p.2) → ∀ p, v = some p → h0.size ≤ p.1 ∧ lvAt h' Lx (lineT t x) ux (some u) p.1 p.2 := fun v a p hp =>
  ⟨(a p hp).1, (a p hp).2.up (E.2 _ (a p hp).2.row) (fun _ => id) (by simp)⟩
 refine H u h' ⟨M.ext.trans E, fun w hw => (M.lx w hw).ext E, fun w hw => ?_, hv _ M.at1, hv _ M.at2, M.dis⟩
 cases hw
 refine S.mono fun c _ hz => ⟨fun p hp he => ?_, fun p hp he => ?_⟩
 ·have := (M.at1 p hp).2.row; omega
 ·have := (M.at2 p hp).2.row; omega
theorem LnMk.new_1 {h0 h : Heap} {Lx Ly : Int × List Int} {ux uy : Option Value} {K : Value → Heap → Prop} (M : LnMk h0 Lx Ly ux uy none none h)
  (H : ∀ b h', LnMk h0 Lx Ly ux uy (some (b, none)) none h' → K (ptr b) h') : newK zeroL 96 h K := by
 refine zag fun b h' r e n => H b h' ⟨M.ext.trans e, fun u hu => ?_, fun u hu => ?_, fun p hp => ?_, by simp, by simp⟩
 ·exact ((M.lx u hu).mono (Z' := apart (some (b, none)) none) fun c hc _ => ⟨fun p hp => by cases hp; show b ≠ c; omega, by simp⟩).ext e
 ·exact ((M.ly u hu).mono (Z' := apart (some (b, none)) none) fun c hc _ => ⟨fun p hp => by cases hp; show b ≠ c; omega, by simp⟩).ext e
 ·cases hp; exact ⟨Nat.le_trans M.ext.1 n, r⟩
theorem LnMk.new_2 {h0 h : Heap} {Lx Ly : Int × List Int} {ux uy : Option Value} {a : Nat} {K : Value → Heap → Prop} (M : LnMk h0 Lx Ly ux uy (some (a, none)) none h)
  (H : ∀ b h', LnMk h0 Lx Ly ux uy (some (a, none)) (some (b, none)) h' → K (ptr b) h') : newK zeroL 96 h K := by
 have a1 := M.at1 _ rfl
 have al : a < h.size := a1.2.row
 refine zag fun b h' r e n => H b h' ⟨M.ext.trans e, fun u hu => ?_, fun u hu => ?_, fun p hp => ?_, fun p hp => ?_, fun p q hp hq => ?_⟩
 ·exact ((M.lx u hu).mono (Z' := apart (some (a, none)) (some (b, none))) fun c hc hz => ⟨hz.1, fun p hp => by cases hp; show b ≠ c; omega⟩).ext e
 ·exact ((M.ly u hu).mono (Z' := apart (some (a, none)) (some (b, none))) fun c hc hz => ⟨hz.1, fun p hp => by cases hp; show b ≠ c; omega⟩).ext e
 ·cases hp; exact ⟨a1.1, a1.2.up (e.2 _ al) (fun _ => id) fun _ => id⟩
 ·cases hp; exact ⟨Nat.le_trans M.ext.1 n, r⟩
 ·cases hp; cases hq; show a ≠ b; omega
theorem LnMk.st {h0 h : Heap} {Lx Ly : Int × List Int} {ux uy : Option Value} {v1 v2 v1' v2' : LV} {b : Nat} {f : Bool} {l : List Value} {K : Value → Heap → Prop} (M : LnMk h0 Lx Ly ux uy v1 v2 h) (hr : h[b]? = some (.cells zeroL 96 (0, 0))) (hn : h0.size ≤ b)
  (hl : l.length = 2) (ho : ∀ v ∈ l, zam v = true) (hf : ∀ h', h'[b]? = some (.cells l.toArray 96 (0, 0)) → lvAt h' Lx Ly ux uy b (some f))
  (h1 : (v1 = some (b, none) ∧ v1' = some (b, some f) ∧ v2' = v2 ∧ ∀ q, v2 = some q → q.1 ≠ b) ∨ (v2 = some (b, none) ∧ v2' = some (b, some f) ∧ v1' = v1 ∧ ∀ q, v1 = some q → q.1 ≠ b))
  (H : ∀ h', LnMk h0 Lx Ly ux uy v1' v2' h' → K undef h') : stK 2 (ptr b) (.agg l.toArray) h K := by
 refine zbt hr (by rw [hl]; rfl) ho hl fun h' r u => H h' ?_
 have E := M.ext.upd hn u
 have keep : ∀ {v : LV}, (∀ p, v = some p → h0.size ≤ p.1 ∧ lvAt h Lx Ly ux uy p.1 p.2) → (∀ q, v = some q → q.1 ≠ b) → ∀ p, v = some p → h0.size ≤ p.1 ∧ lvAt h' Lx Ly ux uy p.1 p.2 := fun a d p hp => ⟨(a p hp).1, (a p hp).2.up (u.2 _ (d p hp)) (fun _ => id) fun _ => id⟩
 rcases h1 with ⟨rfl, rfl, rfl, d⟩ | ⟨rfl, rfl, rfl, d⟩
 ·have za : ∀ c, apart (some (b, none)) v2' c → ¬ c = b := fun c hc he => hc.1 _ rfl he.symm
  have zb : ∀ c, apart (some (b, none)) v2' c → apart (some (b, some f)) v2' c := fun c hc => ⟨fun p hp => by cases hp; exact hc.1 (b, none) rfl, hc.2⟩
  refine ⟨E, fun w hw => ((M.lx w hw).fr u.fr fun c _ => za c).mono fun c _ => zb c, fun w hw => ((M.ly w hw).fr u.fr fun c _ => za c).mono fun c _ => zb c, fun p hp => ?_, keep M.at2 d, fun p q hp hq => ?_⟩
  ·cases hp; exact ⟨hn, hf h' r⟩
  ·cases hp; exact fun he => d q hq he.symm
 ·have za : ∀ c, apart v1' (some (b, none)) c → ¬ c = b := fun c hc he => hc.2 _ rfl he.symm
  have zb : ∀ c, apart v1' (some (b, none)) c → apart v1' (some (b, some f)) c := fun c hc => ⟨hc.1, fun p hp => by cases hp; exact hc.2 (b, none) rfl⟩
  refine ⟨E, fun w hw => ((M.lx w hw).fr u.fr fun c _ => za c).mono fun c _ => zb c, fun w hw => ((M.ly w hw).fr u.fr fun c _ => za c).mono fun c _ => zb c, keep M.at1 d, fun p hp => ?_, fun p q hp hq => ?_⟩
  ·cases hp; exact ⟨hn, hf h' r⟩
  ·cases hq; exact d p hp
theorem LnMk.st1x {h0 h : Heap} {Lx Ly : Int × List Int} {u : Value} {uy : Option Value} {v2 : LV} {b : Nat} {K : Value → Heap → Prop} (M : LnMk h0 Lx Ly (some u) uy (some (b, none)) v2 h)
  (H : ∀ h', LnMk h0 Lx Ly (some u) uy (some (b, some true)) v2 h' → K undef h') : stK 2 (ptr b) (.agg #[.int .i64 Lx.1, u]) h K :=
 M.st (f := true) (l := [.int .i64 Lx.1, u]) (M.at1 _ rfl).2 (M.at1 _ rfl).1 rfl (zad rfl (zad (M.lx u rfl).one zaq)) (fun h' r => ⟨u, rfl, r⟩) (.inl ⟨rfl, rfl, rfl, fun q hq he => M.dis _ _ rfl hq he.symm⟩) H
theorem LnMk.st2x {h0 h : Heap} {Lx Ly : Int × List Int} {u : Value} {uy : Option Value} {v1 : LV} {b : Nat} {K : Value → Heap → Prop} (M : LnMk h0 Lx Ly (some u) uy v1 (some (b, none)) h)
  (H : ∀ h', LnMk h0 Lx Ly (some u) uy v1 (some (b, some true)) h' → K undef h') : stK 2 (ptr b) (.agg #[.int .i64 Lx.1, u]) h K :=
 M.st (f := true) (l := [.int .i64 Lx.1, u]) (M.at2 _ rfl).2 (M.at2 _ rfl).1 rfl (zad rfl (zad (M.lx u rfl).one zaq)) (fun h' r => ⟨u, rfl, r⟩) (.inr ⟨rfl, rfl, rfl, fun q hq => M.dis _ _ hq rfl⟩) H
theorem LnMk.st1y {h0 h : Heap} {Lx Ly : Int × List Int} {u : Value} {ux : Option Value} {v2 : LV} {b : Nat} {K : Value → Heap → Prop} (M : LnMk h0 Lx Ly ux (some u) (some (b, none)) v2 h)
  (H : ∀ h', LnMk h0 Lx Ly ux (some u) (some (b, some false)) v2 h' → K undef h') : stK 2 (ptr b) (.agg #[.int .i64 Ly.1, u]) h K :=
 M.st (f := false) (l := [.int .i64 Ly.1, u]) (M.at1 _ rfl).2 (M.at1 _ rfl).1 rfl (zad rfl (zad (M.ly u rfl).one zaq)) (fun h' r => ⟨u, rfl, r⟩) (.inl ⟨rfl, rfl, rfl, fun q hq he => M.dis _ _ rfl hq he.symm⟩) H
theorem LnMk.st2y {h0 h : Heap} {Lx Ly : Int × List Int} {u : Value} {ux : Option Value} {v1 : LV} {b : Nat} {K : Value → Heap → Prop} (M : LnMk h0 Lx Ly ux (some u) v1 (some (b, none)) h)
  (H : ∀ h', LnMk h0 Lx Ly ux (some u) v1 (some (b, some false)) h' → K undef h') : stK 2 (ptr b) (.agg #[.int .i64 Ly.1, u]) h K :=
 M.st (f := false) (l := [.int .i64 Ly.1, u]) (M.at2 _ rfl).2 (M.at2 _ rfl).1 rfl (zad rfl (zad (M.ly u rfl).one zaq)) (fun h' r => ⟨u, rfl, r⟩) (.inr ⟨rfl, rfl, rfl, fun q hq => M.dis _ _ hq rfl⟩) H
def Both (h0 : Heap) (Lx Ly : Int × List Int) (xs : List Value) (h : Heap) : Prop := ∃ a b u w, xs = [ptr a, ptr b] ∧ Ext h0 h ∧ Two h a 96 (.int .i64 Lx.1) u ∧ Two h b 96 (.int .i64 Ly.1) w ∧ SlI (fun _ => True) h u Lx.2 ∧ SlI (fun _ => True) h w Ly.2
theorem LnMk.fin {h0 h : Heap} {Lx Ly : Int × List Int} {u w : Value} {a b : Nat} (M : LnMk h0 Lx Ly (some u) (some w) (some (a, some true)) (some (b, some false)) h) : Both h0 Lx Ly [ptr a, ptr b] h := by
 obtain ⟨_, u', e1, r1⟩ := M.at1 _ rfl
 obtain ⟨_, w', e2, r2⟩ := M.at2 _ rfl
 cases e1; cases e2
 exact ⟨a, b, u, w, rfl, M.ext, r1, r2, (M.lx u rfl).mono fun _ _ _ => trivial, (M.ly w rfl).mono fun _ _ _ => trivial⟩
theorem LnMk.fin2 {h0 h : Heap} {Lx Ly : Int × List Int} {u w : Value} {a b : Nat} (M : LnMk h0 Lx Ly (some u) (some w) (some (b, some false)) (some (a, some true)) h) : Both h0 Lx Ly [ptr a, ptr b] h := by
 obtain ⟨_, w', e2, r2⟩ := M.at1 _ rfl
 obtain ⟨_, u', e1, r1⟩ := M.at2 _ rfl
 cases e1; cases e2
 exact ⟨a, b, u, w, rfl, M.ext, r1, r2, (M.lx u rfl).mono fun _ _ _ => trivial, (M.ly w rfl).mono fun _ _ _ => trivial⟩
theorem zdK {t : Tbl} (W : t.Wf) (i : Int) : (lineT t i).2.length ≤ 1048576 ∧ -70368744177664 ≤ (lineT t i).1 ∧ (lineT t i).1 ≤ 70368744177664 := by
 unfold lineT
 split
 ·by_cases h : i.toNat < t.lines.length
  ·have e : t.lines.getD i.toNat (0, []) = t.lines[i.toNat] := by simp [List.getD_eq_getElem?_getD, h]
   rw [e]
   exact W.taps _ (List.getElem_mem h)
  ·have e : t.lines.getD i.toNat (0, []) = (0, []) := by simp [List.getD_eq_getElem?_getD, Nat.le_of_not_lt h]
   rw [e]; simp
 ·simp
theorem atP_bd {m : Pic} (W : m.Wf) (x y c : Int) : 0 ≤ atP m x y c ∧ atP m x y c ≤ m.most := by
 have := W.m1
 unfold atP
 split
 ·rename_i h
  by_cases hi : (posP m x y c).toNat < m.l.length
  ·have e : m.l.getD (posP m x y c).toNat 0 = m.l[(posP m x y c).toNat] := by simp [List.getD_eq_getElem?_getD, hi]
   rw [e]
   exact W.smp _ (List.getElem_mem hi)
  ·have e : m.l.getD (posP m x y c).toNat 0 = 0 := by simp [List.getD_eq_getElem?_getD, Nat.le_of_not_lt hi]
   rw [e]; omega
 ·omega
theorem c_Sum {h : Heap} (G : GlobB h) {Z : Nat → Prop} {b : Nat} {v sv : Value} {m : Pic} {s : Stg} (H : IsImg h b v m) (W : m.Wf) (HS : IsStg Z h sv s) (WS : s.Wf) (hs : zhA m s) {x y c : Int} (hc : 0 ≤ c ∧ c < m.c) :
  FCall prog zio #[ptr b, sv, .int .i64 x, .int .i64 y, .int .i64 c] h fun r h' => r = .int .i64 (IntKind.i64.wrap (totZ m s x y c)) ∧ Ext h h' := by
 apply zqs
 unfold zkt
 obtain ⟨p, q, rfl, hp, hq, ones⟩ := zcS HS
 simp only [zax]
 refine zag fun b1 h1 r1 e1 n1 => ?_
 rw [zal (l := [p, q, .int .i64 s.border]) r1 3 rfl, zaa]
 refine (c_Suits (G.ext e1) (H.ext e1) (HS.ext e1)).mono fun r h2 ⟨e, e2⟩ => ?_
 subst e
 rw [decide_eq_true hs]
 have hcn : (c < 0) = False := eq_false (by omega)
 simp only [go_sem, hcn]
 have H2 := H.ext (e1.trans e2)
 refine (zbb H2).mono fun r h3 ⟨e, wq⟩ => ?_
 have wq := wq.symm
 subst e wq
 simp only [go_sem]
 rw [decide_eq_false (by omega), zcj]
 have r2 := e2.row r1
 have p2 := hp.ext (e1.trans e2)
 have q2 := hq.ext (e1.trans e2)
 refine zat (Both h2 (lineT s.x x) (lineT s.y y)) ?_ ?_
 ·try simp only [go_sem, Nat.zero_add]
  refine zak (Ext h2) (Ext.refl _) ?_
  refine zae p (fun h' e => zac (e.row r2)) ?_
  refine zae q (fun h' e => zac (e.row r2)) ?_
  have M0 := LnMk.start h2 (lineT s.x x) (lineT s.y y)
  have wx := WS.x
  have wy := WS.y
  repeat' first
   | exact LnMk.fin ‹LnMk _ _ _ _ _ _ _ _›
   | exact LnMk.fin2 ‹LnMk _ _ _ _ _ _ _ _›
   | exact LnMk.ext ‹LnMk _ _ _ _ _ _ _ _›
   | refine And.intro ?_ ?_
   | refine LnMk.line_x ‹LnMk _ _ _ _ _ _ _ _› p2 wx fun u' h' M => ?_
   | refine LnMk.line_y ‹LnMk _ _ _ _ _ _ _ _› q2 wy fun u' h' M => ?_
   | refine LnMk.new_1 ‹LnMk _ _ _ _ _ _ _ _› fun b' h' M => ?_
   | refine LnMk.new_2 ‹LnMk _ _ _ _ _ _ _ _› fun b' h' M => ?_
   | refine LnMk.st1x ‹LnMk _ _ _ _ _ _ _ _› fun h' M => ?_
   | refine LnMk.st2x ‹LnMk _ _ _ _ _ _ _ _› fun h' M => ?_
   | refine LnMk.st1y ‹LnMk _ _ _ _ _ _ _ _› fun h' M => ?_
   | refine LnMk.st2y ‹LnMk _ _ _ _ _ _ _ _› fun h' M => ?_
 rintro xs ρj h3 ⟨a, d, u, w, rfl, e3, ra, rd, Su, Sw⟩
 have bx := zdK WS.x x
 have by' := zdK WS.y y
 unfold totZ
 unfold zgb
 generalize lineT s.x x = Lx at *
 generalize lineT s.y y = Ly at *
 have hf := zbn W.fits
 have c1 : zah h3 ⟨d, 1, none⟩ = some w := zac rd
 obtain ⟨aw, cw, ew⟩ := Sw.isSl
 have ew2 : zaf w = some (.int .i64 (Ly.2.length : Int)) := by rw [ew]; rfl
 obtain ⟨au, cu, eu⟩ := Su.isSl
 have eu2 : zaf u = some (.int .i64 (Lx.2.length : Int)) := by rw [eu]; rfl
 simp only [go_sem, Nat.zero_add, c1, ew2]
 refine zc0 (fun k => [.int .i64 (IntKind.i64.wrap (sumN (fun k => Ly.2.getD k 0 * sumN (fun i => Lx.2.getD i 0 * atP m (atZ s.border (Lx.1 + i) m.w) (atZ s.border (Ly.1 + k) m.h) c) Lx.2.length) k)), .int .i64 (k : Int)]) Ly.2.length 0 rfl (Nat.zero_le _) fun k again ρk _ hk Hag => ?_
 simp only [go_sem]
 refine zab (fun h4 => ?_) (fun h4 => ?_)
 ·have hk' : k < Ly.2.length := by omega
  have Hag := Hag hk'
  obtain ⟨pk, k1, k2⟩ := Sw.int_at (k' := .i64) hk'
  have eb : Ly.2.getD k 0 = Ly.2[k] := by simp [List.getD_eq_getElem?_getD, hk']
  rw [k1, zaa, k2, zaa, ← eb]
  have rs := e3.row r2
  refine zak (fun h' => h' = h3) rfl ?_
  simp only [go_sem, Nat.zero_add]
  refine zae (.int .i64 s.border) (fun h' e => by rw [e]; exact zac rs) ?_
  refine zae (.int .i64 Ly.1) (fun h' e => by rw [e]; exact zac rd) ?_
  simp only [go_sem]
  rw [w64 (n := Ly.1 + (k : Int)) (by omega) (by omega)]
  have H3 := H2.ext e3
  refine (zf1 H3).mono fun r h5 ⟨e, wq⟩ => ?_
  have wq := wq.symm
  subst e wq
  refine ⟨rfl, ?_⟩
  refine (ziy (by unfold I64; omega)).mono fun r h5 ⟨e, wq⟩ => ?_
  have wq := wq.symm
  subst e wq
  have c2 : zah h3 ⟨a, 1, none⟩ = some u := zac ra
  simp only [go_sem, Nat.zero_add, c2, eu2]
  generalize hrow : atZ s.border (Ly.1 + (k : Int)) m.h = row at *
  generalize hA : sumN (fun k => Ly.2.getD k 0 * sumN (fun i => Lx.2.getD i 0 * atP m (atZ s.border (Lx.1 + i) m.w) (atZ s.border (Ly.1 + k) m.h) c) Lx.2.length) k = A at *
  have hA1 : sumN (fun k => Ly.2.getD k 0 * sumN (fun i => Lx.2.getD i 0 * atP m (atZ s.border (Lx.1 + i) m.w) (atZ s.border (Ly.1 + k) m.h) c) Lx.2.length) (k + 1) = A + Ly.2.getD k 0 * sumN (fun i => Lx.2.getD i 0 * atP m (atZ s.border (Lx.1 + i) m.w) row c) Lx.2.length := by
   simp only [sumN]
   rw [hA, hrow]
  rw [hA1] at Hag
  generalize Ly.2.getD k 0 = bk at *
  refine zc0 (fun i => [.int .i64 (IntKind.i64.wrap (A + bk * sumN (fun i => Lx.2.getD i 0 * atP m (atZ s.border (Lx.1 + i) m.w) row c) i)), .int .i64 (i : Int)]) Lx.2.length 0 (by simp [sumN]) (Nat.zero_le _) fun i again2 ρi _ hi Hag2 => ?_
  simp only [go_sem]
  refine zab (fun h5 => ?_) (fun h5 => ?_)
  ·have hi' : i < Lx.2.length := by omega
   have Hag2 := Hag2 hi'
   obtain ⟨pi, i1, i2⟩ := Su.int_at (k' := .i64) hi'
   have ea : Lx.2.getD i 0 = Lx.2[i] := by simp [List.getD_eq_getElem?_getD, hi']
   rw [i1, zaa, i2, zaa, ← ea]
   refine zak (fun h' => h' = h3) rfl ?_
   simp only [go_sem, Nat.zero_add]
   refine zae (.int .i64 s.border) (fun h' e => by rw [e]; exact zac rs) ?_
   refine zae (.int .i64 Lx.1) (fun h' e => by rw [e]; exact zac ra) ?_
   simp only [go_sem]
   rw [w64 (n := Lx.1 + (i : Int)) (by omega) (by omega)]
   refine (zh7 H3).mono fun r h5 ⟨e, wq⟩ => ?_
   have wq := wq.symm
   subst e wq
   refine ⟨rfl, ?_⟩
   refine (ziy (by unfold I64; omega)).mono fun r h5 ⟨e, wq⟩ => ?_
   have wq := wq.symm
   subst e wq
   try simp only [go_sem]
   refine (c_At H3 W).mono fun r h5 ⟨e, wq⟩ => ?_
   have wq := wq.symm
   subst e wq
   have hv := atP_bd W (atZ s.border (Lx.1 + (i : Int)) m.w) row c
   have hm := W.m2
   simp only [go_sem]
   rw [w64 (n := atP m (atZ s.border (Lx.1 + (i : Int)) m.w) row c) (by omega) (by omega), wrap_step3, w64 (n := (i : Int) + 1) (by omega) (by omega)]
   simp only [sumN, Int.mul_add] at Hag2
   rw [← Int.add_assoc] at Hag2
   exact Hag2
  ·have : i = Lx.2.length := by omega
   subst this
   rw [w64 (n := (k : Int) + 1) (by omega) (by omega)]
   exact Hag
 ·have : k = Ly.2.length := by omega
  subst this
  exact ⟨rfl, e1.trans (e2.trans e3)⟩
theorem zlf {A B C c d : Int} (h : A * C + c = B * C + d) (c0 : 0 ≤ c) (c1 : c < C) (d0 : 0 ≤ d) (d1 : d < C) : A = B ∧ c = d := by
 have e1 : (c + A * C) / C = A := by rw [Int.add_mul_ediv_right _ _ (by omega), Int.ediv_eq_zero_of_lt c0 c1]; omega
 have e2 : (d + B * C) / C = B := by rw [Int.add_mul_ediv_right _ _ (by omega), Int.ediv_eq_zero_of_lt d0 d1]; omega
 have e3 : c + A * C = d + B * C := by omega
 rw [e3, e2] at e1
 refine ⟨e1.symm, ?_⟩
 subst e1
 omega
theorem pos_inj {m : Pic} {x y c x' y' c' : Int} (h : inP m x y c) (h' : inP m x' y' c') (e : posP m x y c = posP m x' y' c') : x = x' ∧ y = y' ∧ c = c' := by
 obtain ⟨x0, x1, y0, y1, c0, c1⟩ := h
 obtain ⟨x0', x1', y0', y1', c0', c1'⟩ := h'
 unfold posP at e
 obtain ⟨e1, e2⟩ := zlf e c0 c1 c0' c1'
 obtain ⟨e3, e4⟩ := zlf e1 x0 x1 x0' x1'
 exact ⟨e4, e3, e2⟩
theorem zq4 {m : Pic} (W : m.Wf) {x y c n x' y' c' : Int} (h : inP m x y c) : atP (setP m x y c n) x' y' c' = if x' = x ∧ y' = y ∧ c' = c then n else atP m x' y' c' := by
 have hp := zo7 W h
 by_cases hi : inP m x' y' c'
 ·have hp' := zo7 W hi
  have hi2 : inP (setP m x y c n) x' y' c' := hi
  unfold atP
  rw [if_pos hi2, if_pos hi]
  show (m.l.set (posP m x y c).toNat n).getD (posP m x' y' c').toNat 0 = _
  by_cases he : x' = x ∧ y' = y ∧ c' = c
  ·rw [if_pos he]
   obtain ⟨rfl, rfl, rfl⟩ := he
   have : (posP m x' y' c').toNat < m.l.length := by omega
   simp [List.getD_eq_getElem?_getD, this]
  ·rw [if_neg he]
   have hne : (posP m x y c).toNat ≠ (posP m x' y' c').toNat := fun hh => he (by
    obtain ⟨a, b, d⟩ := pos_inj hi h (by omega)
    exact ⟨a, b, d⟩)
   simp [List.getD_eq_getElem?_getD, List.getElem?_set_ne hne]
 ·have hi2 : ¬ inP (setP m x y c n) x' y' c' := hi
  have he : ¬ (x' = x ∧ y' = y ∧ c' = c) := by rintro ⟨rfl, rfl, rfl⟩; exact hi h
  unfold atP
  rw [if_neg hi2, if_neg hi, if_neg he]
def ahead (x y c x' y' c' : Int) : Prop := y' < y ∨ (y' = y ∧ (x' < x ∨ (x' = x ∧ c' < c)))
structure Made (h0 h : Heap) (b : Nat) (v : Value) (n : Pic) (w hh c most : Int) : Prop where
 img : IsImg h b v n
 wf : n.Wf
 pw : n.w = w
 ph : n.h = hh
 pc : n.c = c
 pm : n.most = most
 ext : Ext h0 h
 nb : h0.size ≤ b
 nv : ∀ c, blk v c → h0.size ≤ c
theorem Made.before {h1 h0 h : Heap} {b : Nat} {v : Value} {n : Pic} {w hh c most : Int} (M : Made h0 h b v n w hh c most) (e : Ext h1 h0) : Made h1 h b v n w hh c most :=
 ⟨M.img, M.wf, M.pw, M.ph, M.pc, M.pm, e.trans M.ext, Nat.le_trans e.1 M.nb, fun c hc => Nat.le_trans e.1 (M.nv c hc)⟩
theorem c_Apply {h : Heap} (G : GlobB h) {Z : Nat → Prop} {b : Nat} {v sv : Value} {m : Pic} {s : Stg} (H : IsImg h b v m) (W : m.Wf) (HS : IsStg Z h sv s) (WS : s.Wf) (hs : zhA m s) (hfit : fitsZ s.x.lines.length s.y.lines.length m.c) :
  FCall prog zgh #[ptr b, sv] h fun r h' => ∃ b' v' n, r = .tuple #[ptr b', .int .i64 0] ∧ Made h h' b' v' n s.x.lines.length s.y.lines.length m.c m.most ∧ ∀ x y c, inP n x y c → atP n x y c = pixZ m s x y c := by
 apply znH
 unfold zhQ
 obtain ⟨p, q, rfl, hp, hq, ones⟩ := zcS HS
 simp only [zax]
 refine zag fun b1 h1 r1 e1 n1 => ?_
 rw [zal (l := [p, q, .int .i64 s.border]) r1 3 rfl, zaa]
 refine (c_Suits (G.ext e1) (H.ext e1) (HS.ext e1)).mono fun r h2 ⟨e, e2⟩ => ?_
 subst e
 rw [decide_eq_true hs]
 simp only [go_sem, Nat.zero_add]
 have e12 := e1.trans e2
 have r2 := e2.row r1
 refine zak (Ext h2) (Ext.refl _) ?_
 refine zae p (fun h' e => zac (e.row r2)) ?_
 refine zae q (fun h' e => zac (e.row r2)) ?_
 refine (c_To (hp.ext e12)).mono fun r h3 ⟨e, wq⟩ => ?_
 have wq := wq.symm
 subst e wq
 refine ⟨Ext.refl _, ?_⟩
 refine (c_To (hq.ext e12)).mono fun r h3 ⟨e, wq⟩ => ?_
 have wq := wq.symm
 subst e wq
 refine (zbb (H.ext e12)).mono fun r h3 ⟨e, wq⟩ => ?_
 have wq := wq.symm
 subst e wq
 refine (zcU (H.ext e12)).mono fun r h3 ⟨e, wq⟩ => ?_
 have wq := wq.symm
 subst e wq
 have hc0 : imgC s.x.lines.length s.y.lines.length m.c m.most = 0 := zfm.2 ⟨hfit, W.m1, W.m2⟩
 refine zf0.mono fun r h3 ⟨pp, e, e3, _, s3⟩ => ?_
 subst e
 obtain ⟨nb, nv, rfl, I, nbn, nvn, _⟩ := s3 hc0
 have hz : ((0 : Int) = 0) = True := eq_true rfl
 rw [hc0]
 simp only [go_sem, hz]
 refine (zf1 I).mono fun r h4 ⟨e, wq⟩ => ?_
 have wq := wq.symm
 subst e wq
 have hm1 := W.m1
 have hm2 := W.m2
 have M0 : Made h2 h3 nb nv (imgN s.x.lines.length s.y.lines.length m.c m.most) s.x.lines.length s.y.lines.length m.c m.most := ⟨I, zlA hc0, rfl, rfl, rfl, rfl, e3, nbn, nvn⟩
 obtain ⟨X, hX⟩ : ∃ X, X = s.x.lines.length := ⟨_, rfl⟩
 obtain ⟨Y, hY⟩ : ∃ Y, Y = s.y.lines.length := ⟨_, rfl⟩
 rw [← hX, ← hY] at M0 hfit ⊢
 have hf := zbn hfit
 obtain ⟨C, hC⟩ : ∃ C : Nat, m.c = (C : Int) := ⟨m.c.toNat, by omega⟩
 rw [show (imgN (X : Int) (Y : Int) m.c m.most).h = (Y : Int) from rfl]
 -- what holds at a place of the walk
 refine zaz (α := Pic) Y 0 (fun y _ => [.int .i64 (y : Int)]) (fun y n h' => Made h2 h' nb nv n X Y m.c m.most ∧ ∀ x' y' c', inP n x' y' c' → ahead 0 y 0 x' y' c' → atP n x' y' c' = pixZ m s x' y' c') _ rfl (Nat.zero_le _)
  ⟨M0, fun x' y' c' hi ha => by unfold ahead inP at *; omega⟩ fun y n h4 again ρ1 _ hy ⟨M, D⟩ Hag => ?_
 simp only [go_sem]
 refine zab (fun h5 => ?_) (fun h5 => ?_)
 ·refine (zh7 M.img).mono fun r h5 ⟨e, wq⟩ => ?_
  have wq := wq.symm
  subst e wq
  rw [M.pw]
  refine zaz (α := Pic) X 0 (fun x _ => [.int .i64 (x : Int)]) (fun x n h' => Made h2 h' nb nv n X Y m.c m.most ∧ ∀ x' y' c', inP n x' y' c' → ahead x y 0 x' y' c' → atP n x' y' c' = pixZ m s x' y' c') n rfl (Nat.zero_le _)
   ⟨M, D⟩ fun x n h5 again2 ρ2 _ hx ⟨M, D⟩ Hag2 => ?_
  simp only [go_sem]
  refine zab (fun h6 => ?_) (fun h6 => ?_)
  ·refine (zbb M.img).mono fun r h6 ⟨e, wq⟩ => ?_
   have wq := wq.symm
   subst e wq
   rw [M.pc, hC]
   refine zaz (α := Pic) C 0 (fun c _ => [.int .i64 (c : Int)]) (fun c n h' => Made h2 h' nb nv n X Y m.c m.most ∧ ∀ x' y' c', inP n x' y' c' → ahead x y c x' y' c' → atP n x' y' c' = pixZ m s x' y' c') n rfl (Nat.zero_le _)
    ⟨M, D⟩ fun c n h6 again3 ρ3 _ hc ⟨M, D⟩ Hag3 => ?_
   simp only [go_sem]
   refine zab (fun h7 => ?_) (fun h7 => ?_)
   ·rw [zal (l := [p, q, .int .i64 s.border]) (M.ext.row r2) 3 rfl, zaa]
    have E0 := e12.trans M.ext
    refine (c_Sum (G.ext E0) (H.ext E0) W (HS.ext E0) WS hs (x := x) (y := y) (c := c) (by omega)).mono fun r h8 ⟨e, e8⟩ => ?_
    subst e
    have E8 := E0.trans e8
    refine (zcU (H.ext E8)).mono fun r h9 ⟨e, wq⟩ => ?_
    have wq := wq.symm
    subst e wq
    refine (c_Round (zcA _)).mono fun r h9 ⟨e, wq⟩ => ?_
    have wq := wq.symm
    subst e wq
    have hr := znk (IntKind.i64.wrap (totZ m s x y c)) (most := m.most) (by omega)
    have Mi := M.img.ext e8
    refine (c_Set Mi M.wf hr.1 hr.2.1).mono fun r h10 ⟨e, I10, f10, s10⟩ => ?_
    subst e
    have hin : inP n x y c := ⟨by omega, by rw [M.pw]; omega, by omega, by rw [M.ph]; omega, by omega, by rw [M.pc]; omega⟩
    have hset : inP n x y c ∧ zhu (IntKind.i64.wrap (totZ m s x y c)) m.most ≤ n.most := ⟨hin, by rw [M.pm]; omega⟩
    rw [if_pos hset] at I10
    have E10 : Ext h2 h10 := (M.ext.trans e8).then_fr f10 M.nv
    try simp only [go_sem]
    rw [w64 (by omega) (by omega)]
    refine Hag3 (setP n x y c (zhu (IntKind.i64.wrap (totZ m s x y c)) m.most)) h10 (by omega) ⟨⟨I10, setP_Wf M.wf hr.1 hset.2, M.pw, M.ph, M.pc, M.pm, E10, M.nb, M.nv⟩, fun x' y' c' hi ha => ?_⟩
    rw [zq4 M.wf hin]
    by_cases he : x' = x ∧ y' = y ∧ c' = c
    ·rw [if_pos he, he.1, he.2.1, he.2.2]; rfl
    ·rw [if_neg he]
     exact D x' y' c' hi (by unfold ahead at *; omega)
   ·have : c = C := by omega
    subst this
    rw [w64 (by omega) (by omega)]
    refine Hag2 n h6 (by omega) ⟨M, fun x' y' c' hi ha => D x' y' c' hi ?_⟩
    have h1 := M.pc
    unfold ahead inP at *
    omega
  ·have : x = X := by omega
   subst this
   rw [w64 (by omega) (by omega)]
   refine Hag n h5 (by omega) ⟨M, fun x' y' c' hi ha => D x' y' c' hi ?_⟩
   have h1 := M.pw
   unfold ahead inP at *
   omega
 ·have : y = Y := by omega
  subst this
  refine ⟨nb, nv, n, rfl, M.before e12, fun x' y' c' hi => D x' y' c' hi ?_⟩
  have h1 := M.ph
  unfold ahead inP at *
  omega
theorem zo3 (f n : Int) {m : Int} (hm : zao m) : (zbA f n m).Wf := by
 unfold zao at hm
 refine ⟨?_, fun x hx => ?_⟩
 ·show (List.map _ (List.range m.toNat)).length ≤ 65536
  rw [List.length_map, List.length_range]; omega
 ·obtain ⟨i, _, rfl⟩ := List.mem_map.1 hx
  have hb := zeZ (zgv f n m i)
  refine ⟨hb.1, ?_⟩
  show _ ≤ zbj f n m i ∧ zbj f n m i ≤ _
  unfold zbj
  split
  ·rename_i h
   have := low_bd h
   omega
  ·omega
theorem zpm {l : List Int} (h64 : ∀ x ∈ l, I64 x) (hl : l.length ≤ 1024) {n : Int} (hn : zao n) : (zc1 l n).Wf := by
 unfold zao at hn
 refine ⟨?_, fun x hx => ?_⟩
 ·show (List.map _ (List.range n.toNat)).length ≤ 65536
  rw [List.length_map, List.length_range]; omega
 ·obtain ⟨i, hi, rfl⟩ := List.mem_map.1 hx
  have hb := zeZ h64
  have := List.mem_range.1 hi
  refine ⟨hb.1, ?_⟩
  show _ ≤ (i : Int) - (l.length / 2 : Nat) ∧ (i : Int) - (l.length / 2 : Nat) ≤ _
  omega
theorem zgD (o : OpD) : (zbe o).length ≤ 1024 ∧ (zaP o).length ≤ 1024 := by
 have := zlD o.sigma
 have := zoa o.radius
 have := zhz o.x
 have := zhz o.y
 unfold zbe zaP
 constructor <;> split <;> (try split) <;> omega
theorem ziv {o : OpD} {w h : Int} (hc : makeC o w h = 0) : (makeS o w h).Wf ∧ opMay o ∧ zao w ∧ zao h := by
 unfold makeC at hc
 split at hc
 ·cases hc
 ·rename_i hn
  have h1 : opMay o := Decidable.of_not_not fun hh => hn (.inl hh)
  have h2 : zao w := Decidable.of_not_not fun hh => hn (.inr (.inl hh))
  have h3 : zao h := Decidable.of_not_not fun hh => hn (.inr (.inr hh))
  refine ⟨⟨?_, ?_⟩, h1, h2, h3⟩
  ·show (zdE o w).Wf
   unfold zdE
   split
   ·rename_i hk; exact zo3 _ _ (h1.2.2 hk).1
   ·exact zpm (zhy o) (zgD o).1 h2
  ·show (zbI o h).Wf
   unfold zbI
   split
   ·rename_i hk; exact zo3 _ _ (h1.2.2 hk).2.1
   ·exact zpm (zhx o) (zgD o).2 h3
theorem znP {o : OpD} {w h : Int} (hc : makeC o w h = 0) : ((makeS o w h).x.lines.length : Int) = sizeW o w ∧ ((makeS o w h).y.lines.length : Int) = sizeH o h := by
 obtain ⟨_, hm, hw, hh⟩ := ziv hc
 unfold zao at hw hh
 constructor
 ·show ((zdE o w).lines.length : Int) = _
  unfold zdE sizeW
  split
  ·rename_i hk
   have := (hm.2.2 hk).1
   unfold zao at this
   show ((List.map _ (List.range o.w.toNat)).length : Int) = _
   rw [List.length_map, List.length_range]; omega
  ·show ((List.map _ (List.range w.toNat)).length : Int) = _
   rw [List.length_map, List.length_range]; omega
 ·show ((zbI o h).lines.length : Int) = _
  unfold zbI sizeH
  split
  ·rename_i hk
   have := (hm.2.2 hk).2.1
   unfold zao at this
   show ((List.map _ (List.range o.hh.toNat)).length : Int) = _
   rw [List.length_map, List.length_range]; omega
  ·show ((List.map _ (List.range h.toNat)).length : Int) = _
   rw [List.length_map, List.length_range]; omega
theorem makeS_n (o : OpD) (w h : Int) : (makeS o w h).x.n = w ∧ (makeS o w h).y.n = h := by
 constructor
 ·show (zdE o w).n = w
  unfold zdE; split <;> rfl
 ·show (zbI o h).n = h
  unfold zbI; split <;> rfl
theorem znO {o : OpD} {m : Pic} (hc : makeC o m.w m.h = 0) : zhA m (makeS o m.w m.h) := by
 obtain ⟨_, hm, _, _⟩ := ziv hc
 obtain ⟨h1, h2⟩ := makeS_n o m.w m.h
 exact ⟨h1, h2, hm.2.1.1, hm.2.1.2⟩
def pic15 : Pic := ⟨1, 1, 1, 255, [7]⟩
def op15 : OpD := ⟨1, 0, 0, 2, [], [], 0, 0, 0⟩
theorem c_l15Lives {h : Heap} (G : GlobB h) : FCall prog zg7 #[] h fun r h' => r = .bool true ∧ Ext h h' := by
 apply zoA
 unfold zja
 refine zbZ (c' := #[.int .u16 7]) rfl fun b1 h1 r1 e1 n1 => ?_
 have S1 := zkx (k := .u16) (l := [7]) (n := 1) rfl r1
 have a0 : imgC 1 1 1 255 = 0 := by decide +kernel
 refine (c_imgOf S1 a0 (by decide) (by simp)).mono fun r h2 ⟨p, e, N⟩ => ?_
 subst e
 obtain ⟨b, v, rfl, I, nb, nv, e2⟩ := N
 have I : IsImg h2 b v pic15 := I
 have W : pic15.Wf := ⟨by decide +kernel, by decide, by decide, by decide, by simp [pic15]⟩
 have hf : (fillL #[(.int .i64 0), (.int .i64 0), (.int .i64 0), (.int .i64 0), (.slice none 0 0), (.slice none 0 0), (.int .i64 0), (.int .i64 0), (.int .i64 0)] [(0, 1, (.int .i64 1)), (3, 1, (.int .i64 2))]) = some #[.int .i64 1, .int .i64 0, .int .i64 0, .int .i64 2, .slice none 0 0, .slice none 0 0, .int .i64 0, .int .i64 0, .int .i64 0] := rfl
 simp only [go_sem]
 rw [hf, zaA, zaa]
 have wf : op15.Wf := zmK (by simp [I64])
 have G2 := G.ext (e1.trans e2)
 refine (c_Make (Z := fun _ => True) (o := op15) G2 zmL wf (by simp [op15]) (by simp [op15]) (by unfold I64; omega) (by unfold I64; omega)).mono fun w h3 ⟨sv, e, e3, _, s1⟩ => ?_
 subst e
 have a1 : makeC op15 1 1 = 0 := by decide +kernel
 have HS := s1 a1
 rw [a1]
 obtain ⟨p, q, rfl, hp, hq, ones⟩ := zcS HS
 simp only [go_sem]
 refine zaR (cs := [p, q, .int .i64 _]) rfl ones rfl fun b4 h4 r4 e4 n4 => ?_
 refine c_l9Lives.mono fun r h5 ⟨e, e5⟩ => ?_
 subst e
 simp only [go_sem]
 have E5 := (e1.trans e2).trans (e3.trans (e4.trans e5))
 refine (zpw (G.ext E5)).mono fun r h6 ⟨e, e6⟩ => ?_
 subst e
 have z0 : ((0 : Int) = 0) = True := eq_true rfl
 have np : binV .p .eql (ptr b) (.pointer none) = some (.bool false) := rfl
 have np2 : ∀ b, binV .p .neq (ptr b) (.pointer none) = some (.bool true) := fun _ => rfl
 simp only [go_sem, z0, np, decide_true]
 have E6 := E5.trans e6
 have e36 := e3.trans (e4.trans (e5.trans e6))
 rw [zal (l := [p, q, .int .i64 _]) ((e5.trans e6).row r4) 3 rfl, zaa]
 have hs : zhA pic15 (makeS op15 1 1) := znO (m := pic15) a1
 refine (c_Apply (G.ext E6) (I.ext e36) W (HS.ext (e4.trans (e5.trans e6))) (ziv a1).1 hs (by decide +kernel)).mono fun r h7 ⟨b', v', n, e, M, hat⟩ => ?_
 subst e
 simp only [go_sem, z0, np2, decide_true]
 refine (c_At M.img M.wf).mono fun r h8 ⟨e, wq⟩ => ?_
 have wq := wq.symm
 subst e wq
 have hin : inP n 0 0 0 := ⟨by omega, by rw [M.pw]; decide +kernel, by omega, by rw [M.ph]; decide +kernel, by omega, by rw [M.pc]; decide⟩
 rw [hat 0 0 0 hin]
 have hv : pixZ pic15 (makeS op15 1 1) 0 0 0 = 7 := by decide +kernel
 rw [hv]
 simp only [go_sem, eq_self, decide_true]
 exact ⟨by simp, E6.trans M.ext⟩
structure PicA where
 w : Int
 h : Int
 c : Int
 most : Int
 l : List Int
structure PicA.Wf (a : PicA) : Prop where
 w : U16 a.w
 h : U16 a.h
 c : U16 a.c
 most : U16 a.most
 l : ∀ x ∈ a.l, U16 x
 len : a.l.length ≤ 4611686018427387904
def rPicA : Rp PicA where
 w := 5
 R := fun Z h cs a => ∃ u, cs = [.int .u16 a.w, .int .u16 a.h, .int .u16 a.c, .int .u16 a.most, u] ∧ Rp.Sl rU Z h u a.l
 len := by rintro _ _ _ _ ⟨x, rfl, _⟩; rfl
 one := by
  rintro _ _ _ _ ⟨x, rfl, H⟩
  exact zad rfl (zad rfl (zad rfl (zad rfl (zad H.one zaq))))
 fr := by rintro _ _ _ _ _ _ ⟨x, rfl, H⟩ f q; exact ⟨x, rfl, H.fr f q⟩
 mono := by rintro _ _ _ _ _ ⟨x, rfl, H⟩ q; exact ⟨x, rfl, H.mono q⟩
def drawA (a : PicA) : Pic := drawP (a.w % 12) (a.h % 12) a.c a.most a.l
theorem zeL (a : PicA) : (drawA a).Wf := drawP_Wf _ _ _ _ _
theorem zgS (a : PicA) : 1 ≤ (drawA a).w ∧ (drawA a).w ≤ 12 ∧ 1 ≤ (drawA a).h ∧ (drawA a).h ≤ 12 := by
 show 1 ≤ 1 + a.w % 12 % 20 ∧ 1 + a.w % 12 % 20 ≤ 12 ∧ 1 ≤ 1 + a.h % 12 % 20 ∧ 1 + a.h % 12 % 20 ≤ 12
 omega
theorem zia.before {h0 h h' : Heap} {p : Value} {m : Pic} (N : zia h h' p m) (e : Ext h0 h) : zia h0 h' p m := by
 obtain ⟨b, v, e1, I, nb, nv, E⟩ := N
 exact ⟨b, v, e1, I, Nat.le_trans e.1 nb, fun c hc => Nat.le_trans e.1 (nv c hc), e.trans E⟩
theorem c_l15Draw {Z : Nat → Prop} {h : Heap} {cs : List Value} {a : PicA} (H : rPicA.R Z h cs a) (W : a.Wf) : FCall prog zcP #[.agg cs.toArray] h fun r h' => zia h h' r (drawA a) := by
 apply zhZ
 unfold zeb
 obtain ⟨u, rfl, Hu⟩ := H
 simp only [zax]
 refine zag fun b1 h1 r1 e1 n1 => ?_
 have q0 : zah h1 ⟨b1, 0, none⟩ = some (.int .u16 a.w) := zac r1
 have q1 : zah h1 ⟨b1, 1, none⟩ = some (.int .u16 a.h) := zac r1
 have q2 : zah h1 ⟨b1, 2, none⟩ = some (.int .u16 a.c) := zac r1
 have q3 : zah h1 ⟨b1, 3, none⟩ = some (.int .u16 a.most) := zac r1
 have q4 : zah h1 ⟨b1, 4, none⟩ = some u := zac r1
 have w0 := W.w
 have w1 := W.h
 simp only [go_sem, Nat.zero_add, q0]
 rw [zaJ _ _ _ _ (by omega), zaa]
 simp only [go_sem, Nat.zero_add, q1]
 rw [zaJ _ _ _ _ (by omega), zaa]
 simp only [go_sem, Nat.zero_add, q2, q3, q4]
 rw [Int.tmod_eq_emod_of_nonneg w0.1, Int.tmod_eq_emod_of_nonneg w1.1]
 exact (c_l9Draw (Hu.ext e1) (by unfold U16; omega) (by unfold U16; omega) W.c W.most W.l W.len).mono fun r h' N => N.before e1
theorem NewR.since {α : Type} {e : Rp α} {h0 h h' : Heap} {v : Value} {l : List α} (H : NewR e h h' v l) (k : Ext h0 h) : Rp.Sl e (Since h0 h') h' v l := H.sl.mono fun c hc hz => ⟨Nat.le_trans k.1 hz.1, hc⟩
theorem c_Stages {Z : Nat → Prop} {h : Heap} (G : GlobB h) {v : Value} {l : List OpD} {b : Nat} {iv : Value} {m : Pic} (H : Rp.Sl rOp Z h v l) (few : l.length ≤ 4) (WO : OpsWf l) (I : IsImg h b iv m) (W : m.Wf) :
  FCall prog zgf #[v, ptr b] h fun r h' => Ext h h' ∧ ∃ sv rv ok, r = .tuple #[sv, rv, .bool ok] ∧ (ok = true ↔ zgy 12 l ∧ opsC l m.w m.h m.c = 0) ∧
   (ok = true → Rp.Sl rStgP (Since h h') h' sv (allS l m.w m.h) ∧ Rp.Sl rStg (Since h h') h' rv (allS l m.w m.h)) := by
 apply znE
 unfold zhN
 obtain ⟨a, cap, e⟩ := H.isSl
 have e2 : zaf v = some (.int .i64 (l.length : Int)) := by rw [e]; rfl
 have np : binV .p .eql (ptr b) (.pointer none) = some (.bool false) := rfl
 simp only [go_sem, e2, np]
 have h4 : ((4 : Int) < (l.length : Int)) = False := eq_false (by omega)
 simp only [go_sem, h4]
 refine (c_Little (side := 12) H (by omega)).mono fun r h1 ⟨e, e1⟩ => ?_
 subst e
 simp only [go_sem]
 refine zab (fun hl => ?_) (fun hl => ?_)
 ·exact ⟨e1, _, _, false, rfl, ⟨fun h => (by cases h), fun h => absurd h.1 hl⟩, fun h => (by cases h)⟩
 have hl : zgy 12 l := Decidable.of_not_not hl
 have hf := zbn W.fits
 have hW : I64 m.w := by unfold I64; omega
 have hH : I64 m.h := by unfold I64; omega
 have gets : ∀ (h2 : Heap) (E : Ext h h2) (K : Value → Value → Value → Heap → Prop), K (.int .i64 m.w) (.int .i64 m.h) (.int .i64 m.c) h2 →
   FCall prog zaw #[ptr b] h2 fun v11 h12 => FCall prog zas #[ptr b] h12 fun v13 h14 => FCall prog zaj #[ptr b] h14 fun v15 h16 => K v11 v13 v15 h16 := by
  intro h2 E K HK
  refine (zh7 (I.ext E)).mono fun r h3 ⟨e, wq⟩ => ?_
  have wq := wq.symm
  subst e wq
  refine (zf1 (I.ext E)).mono fun r h3 ⟨e, wq⟩ => ?_
  have wq := wq.symm
  subst e wq
  refine (zbb (I.ext E)).mono fun r h3 ⟨e, wq⟩ => ?_
  have wq := wq.symm
  subst e wq
  exact HK
 refine gets h1 e1 _ ?_
 refine (c_opAll (G.ext e1) (H.ext e1) WO hW hH (c := m.c)).mono fun r h2 ⟨sv, e, e2', s0, s1⟩ => ?_
 subst e
 simp only [go_sem]
 have E2 := e1.trans e2'
 refine (c_Refs (H.ext E2) (by omega)).mono fun lv h3 ⟨HR, e3⟩ => ?_
 have E3 := E2.trans e3
 refine gets h3 E3 _ ?_
 refine (c_r12All HR WO hW hH (c := m.c)).mono fun r h5 ⟨rv, e, e5, t0, t1⟩ => ?_
 subst e
 simp only [go_sem]
 have E5 := E3.trans e5
 by_cases hc : opsC l m.w m.h m.c = 0
 ·have S := (s1 hc).ext (e3.trans e5)
  have T := t1 hc
  obtain ⟨asv, csv, es⟩ := S.isSl
  obtain ⟨at_, ct, et⟩ := T.isSl
  have es2 : zaf sv = some (.int .i64 ((allS l m.w m.h).length : Int)) := by rw [es]; rfl
  have et2 : zaf rv = some (.int .i64 ((allS l m.w m.h).length : Int)) := by rw [et]; rfl
  simp only [go_sem, hc, es2, et2]
  refine ⟨E5, sv, rv, true, by simp, ⟨fun _ => ⟨hl, trivial⟩, fun _ => rfl⟩, fun _ => ⟨?_, ?_⟩⟩
  ·exact S.since e1
  ·exact T.since E3
 ·simp only [go_sem, hc]
  exact ⟨E5, sv, rv, false, by simp, ⟨fun h => (by cases h), fun h => h.2.elim⟩, fun h => (by cases h)⟩
end Go.Proofs.YtojmncnelbnceaaGreatDoor
namespace Go.Proofs.YtojmncnelbnceaaGreatDoor
open Go Go.Crisp
open _root_.Go.Proofs.Tryz
structure zoe (L : List (String × DataW Unit)) : Prop where
 plain : (L.all fun x => x.2.handleName?.isNone) = true
 names : ("smalto/border.names", Rows.laid_smalto_border_names) ∈ L
 kinds : ("smalto/raw.kinds", Rows.laid_smalto_raw_kinds) ∈ L
theorem zoe.glob {L : List (String × DataW Unit)} (l : zoe L) {h : Heap} (H : zhv prog L h) : GlobB h := globB_of H l.plain l.names l.kinds
theorem zoQ {n : Int} (h : (Lit.int .u16 n).wf = true) : 0 ≤ n ∧ n ≤ 65535 := by
 have h : (decide (IntKind.u16.min ≤ n) && decide (n ≤ IntKind.u16.max)) = true := h
 rw [Bool.and_eq_true, decide_eq_true_eq, decide_eq_true_eq] at h; exact h
abbrev tU16 : TS := .int .u16
abbrev tPic : TS := .pair tU16 (.pair tU16 (.pair tU16 (.pair tU16 (.pair (.sl tU16 2) .unit))))
def picOf (x : tPic.T) : PicA := ⟨x.1, x.2.1, x.2.2.1, x.2.2.2.1, x.2.2.2.2.1⟩
theorem slu_of_slc {h : Heap} {v : Value} {l : List Int} (H : SlC 1 h v l.length (l.map (Value.int .u16))) : Rp.Sl rU (fun _ => True) h v l :=
 ⟨_, H, fun _ _ _ => trivial, fun i hi => by
  show Rp.el 1 _ i = [.int .u16 l[i]]
  rw [Rp.el_one (by simpa using hi), List.getElem_map]⟩
theorem u16s_rd {h : Heap} {cs : List Value} {l : List Int} (H : Rd (.sl tU16 2) h cs l) : ∃ v, cs = [v] ∧ Rp.Sl rU (fun _ => True) h v l ∧ (∀ n ∈ l, U16 n) ∧ l.length * 2 ≤ 140737488351232 := by
 obtain ⟨v, rfl, h1, h2, h3⟩ := sl1_rd (e := tU16) (Value.int .u16) U16 rfl (fun ds x hr => ⟨hr.1, zoQ hr.2⟩) H
 exact ⟨v, rfl, slu_of_slc h1, h2, h3⟩
theorem pic_rd {h : Heap} {cs : List Value} {x : tPic.T} (H : Rd tPic h cs x) : rPicA.R (fun _ => True) h cs (picOf x) ∧ (picOf x).Wf := by
 obtain ⟨_, _, rfl, ⟨rfl, a1⟩, _, _, rfl, ⟨rfl, a2⟩, _, _, rfl, ⟨rfl, a3⟩, _, _, rfl, ⟨rfl, a4⟩, _, _, rfl, a5, rfl⟩ := H
 obtain ⟨s, rfl, s1, s2, s3⟩ := u16s_rd a5
 have s3 : (picOf x).l.length * 2 ≤ 140737488351232 := s3
 exact ⟨⟨s, rfl, s1⟩, ⟨zoQ a1, zoQ a2, zoQ a3, zoQ a4, s2, by omega⟩⟩
theorem ops1_wf {h : Heap} {cs : List Value} {x : tOp.T} (H : Rd tOp h cs x) : OpsWf [opOf x] := by
 have h1 := (op_rd H).2
 have h2 := op_len H
 refine ⟨fun o ho => ?_, fun o ho => ?_, by simp⟩ <;> (rw [List.mem_singleton.1 ho])
 ·exact h1
 ·exact h2
end Go.Proofs.YtojmncnelbnceaaGreatDoor
namespace Go.Proofs.YtojmncnelbnceaaGreatDoor
open Go Go.Crisp
attribute [local irreducible] FCall rowK newK stK iteK vK qK drawK gK joinK loopK mkK appK cpyK zqt znp bsK clK
open _root_.Go.Proofs.Tryz
theorem zmm (o : Nat) : ∀ (l : List Value) (c : Array Value) (k : Nat), (l.zipIdx k).foldl (fun cs (p : Value × Nat) => cs.setIfInBounds (o + p.2) p.1) c = wrL c (o + k) l
 | [], _, _ => rfl
 | v :: l, c, k => by
  simp only [List.zipIdx_cons, List.foldl_cons, wrL]
  exact zmm o l _ (k + 1)
theorem zba {c : Array Value} {o n : Nat} {v : Value} {l : List Value} {rest : List (Nat × Nat × Value)} (hv : v.cells = l.toArray) (hl : l.length = n) (hb : o + n ≤ c.size) : fillL c ((o, n, v) :: rest) = fillL (wrL c o l) rest := by
 simp only [fillL, hv]
 rw [if_neg (by simp [hl]; omega)]
 congr 1
 rw [Array.zipIdx_toArray, List.foldl_toArray']
 ·exact zmm o l c 0
 ·simp
structure PlanD where
 s : Stg
 w : Int
 h : Int
def sideT (n : Int) : Prop := 1 ≤ n ∧ n ≤ 4096
instance (n : Int) : Decidable (sideT n) := by unfold sideT; infer_instance
structure PlanD.Wf (d : PlanD) : Prop where
 s : d.s.Wf
 w : sideT d.w
 h : sideT d.h
def PlanD.X (d : PlanD) : Int := d.s.x.lines.length
def PlanD.Y (d : PlanD) : Int := d.s.y.lines.length
structure zms (Z : Nat → Prop) (h : Heap) (b : Nat) (d : PlanD) (p q : Value) : Prop where
 row : h[b]? = some (.cells #[p, q, .int .i64 d.s.border, .int .i64 d.w, .int .i64 d.h] 157 (0, 0))
 x : IsTbl Z h p d.s.x
 y : IsTbl Z h q d.s.y
theorem zms.ext {Z : Nat → Prop} {h h' : Heap} {b : Nat} {d : PlanD} {p q : Value} (H : zms Z h b d p q) (e : Ext h h') : zms Z h' b d p q := ⟨e.row H.row, H.x.ext e, H.y.ext e⟩
def zeH (n size : Int) : Int := (n + size - 1) / size
def colsZ (d : PlanD) : Int := zeH d.X d.w
def zmn (d : PlanD) : Int := colsZ d * zeH d.Y d.h
def outX (d : PlanD) (i : Int) : Int := i % colsZ d * d.w
def outY (d : PlanD) (i : Int) : Int := i / colsZ d * d.h
def outW (d : PlanD) (i : Int) : Int := min d.w (d.X - outX d i)
def outH (d : PlanD) (i : Int) : Int := min d.h (d.Y - outY d i)
theorem zgL {n size : Int} (hn : 0 ≤ n ∧ n ≤ 65536) (hs : sideT size) : 0 ≤ zeH n size ∧ zeH n size ≤ 65536 ∧ (1 ≤ n → 1 ≤ zeH n size) := by
 unfold sideT at hs
 unfold zeH
 refine ⟨Int.ediv_nonneg (by omega) (by omega), ?_, fun h => ?_⟩
 ·have := zfY (a := n + size - 1) (b := size) (L := 0) (U := 70000) (by omega) (by omega) (by omega) (by omega) (by omega)
  apply Int.le_of_lt_add_one
  rw [Int.ediv_lt_iff_lt_mul (by omega)]
  omega
 ·rw [Int.le_ediv_iff_mul_le (by omega)]; omega
theorem PlanD.bd {d : PlanD} (W : d.Wf) : (0 ≤ d.X ∧ d.X ≤ 65536) ∧ (0 ≤ d.Y ∧ d.Y ≤ 65536) := by
 have h1 := W.s.x.len
 have h2 := W.s.y.len
 unfold PlanD.X PlanD.Y
 omega
theorem c_parts {h : Heap} {n size : Int} (hn : 0 ≤ n ∧ n ≤ 65536) (hs : sideT size) : FCall prog zf8 #[.int .i64 n, .int .i64 size] h fun r h' => r = .int .i64 (zeH n size) ∧ h' = h := by
 apply zqk
 unfold zkl
 have hb := zgL hn hs
 unfold sideT at hs
 unfold zeH at *
 simp only [go_sem]
 rw [w64 (n := n + size) (by omega) (by omega), w64 (n := n + size - 1) (by omega) (by omega), zdY _ _ _ _ (by omega), zaa, Int.tdiv_eq_ediv_of_nonneg (by omega), w64 (by omega) (by omega)]
 exact ⟨rfl, trivial⟩
theorem zn8 {Z : Nat → Prop} {h : Heap} {b : Nat} {d : PlanD} {p q : Value} (H : zms Z h b d p q) (W : d.Wf) : FCall prog zbF #[ptr b] h fun r h' => r = .int .i64 (colsZ d) ∧ h' = h := by
 apply ziO
 unfold zeD
 simp only [go_sem, Nat.zero_add]
 refine zak (fun h' => h' = h) rfl ?_
 refine zae p (fun h' e => by rw [e]; exact zac H.row) ?_
 refine zae (.int .i64 d.w) (fun h' e => by rw [e]; exact zac H.row) ?_
 refine (c_To H.x).mono fun r h1 ⟨e, wq⟩ => ?_
 have wq := wq.symm
 subst e wq
 exact ⟨rfl, c_parts (PlanD.bd W).1 W.w⟩
theorem c_Count {Z : Nat → Prop} {h : Heap} {b : Nat} {d : PlanD} {p q : Value} (H : zms Z h b d p q) (W : d.Wf) : FCall prog zcI #[ptr b] h fun r h' => r = .int .i64 (zmn d) ∧ h' = h := by
 apply zkO
 unfold zfN
 simp only [go_sem, Nat.zero_add]
 refine zak (fun h' => h' = h) rfl ?_
 refine zae q (fun h' e => by rw [e]; exact zac H.row) ?_
 refine zae (.int .i64 d.h) (fun h' e => by rw [e]; exact zac H.row) ?_
 refine (zn8 H W).mono fun r h1 ⟨e, wq⟩ => ?_
 have wq := wq.symm
 subst e wq
 refine ⟨rfl, ?_⟩
 refine (c_To H.y).mono fun r h1 ⟨e, wq⟩ => ?_
 have wq := wq.symm
 subst e wq
 refine ⟨rfl, ?_⟩
 refine (c_parts (PlanD.bd W).2 W.h).mono fun r h1 ⟨e, wq⟩ => ?_
 have wq := wq.symm
 subst e wq
 simp only [go_sem]
 have h1 := zgL (PlanD.bd W).1 W.w
 have h2 := zgL (PlanD.bd W).2 W.h
 have h3 := zh1 (a := colsZ d) (A := 65536) (b := zeH d.Y d.h) (B := 65536) h1.1 h1.2.1 h2.1 h2.2.1
 have e : colsZ d * zeH (d.s.y.lines.length : Int) d.h = zmn d := rfl
 have h3 : 0 ≤ colsZ d * zeH (d.s.y.lines.length : Int) d.h ∧ colsZ d * zeH (d.s.y.lines.length : Int) d.h ≤ 65536 * 65536 := h3
 rw [w64 (by omega) (by omega)]
 exact ⟨rfl, trivial⟩
theorem zpv {h : Heap} {n : Int} : FCall prog zg6 #[.int .i64 n] h fun r h' => r = .bool (decide (sideT n)) ∧ h' = h := by
 apply ok_plan_side
 unfold zma
 simp only [go_sem]
 exact ⟨rfl, trivial⟩
theorem c_planNew {Z : Nat → Prop} {h : Heap} {sv : Value} {s : Stg} {w hh : Int} (HS : IsStg Z h sv s) : FCall prog zlP #[sv, .int .i64 w, .int .i64 hh] h fun r h' =>
  Ext h h' ∧ ((sideT w ∧ sideT hh) → ∃ b p q, r = .tuple #[ptr b, .int .i64 0] ∧ h.size ≤ b ∧ zms Z h' b ⟨s, w, hh⟩ p q) ∧ (¬ (sideT w ∧ sideT hh) → r = .tuple #[.pointer none, .int .i64 9]) := by
 apply ok_plan_New
 unfold znf
 obtain ⟨p, q, rfl, hp, hq, ones⟩ := zcS HS
 simp only [zax]
 refine zag fun b1 h1 r1 e1 n1 => ?_
 have np := (zoT hp).2
 have nq := (zoT hq).2
 have q0 : zah h1 ⟨b1, 0, none⟩ = some p := zac r1
 have q1 : zah h1 ⟨b1, 1, none⟩ = some q := zac r1
 simp only [go_sem, Nat.zero_add, q0, q1, np, nq]
 refine zpv.mono fun r h2 ⟨e, wq⟩ => ?_
 have wq := wq.symm
 subst e wq
 by_cases hw : sideT w
 ·simp only [go_sem, hw]
  refine zpv.mono fun r h2 ⟨e, wq⟩ => ?_
  have wq := wq.symm
  subst e wq
  by_cases hh' : sideT hh
  ·simp only [go_sem, hh']
   rw [zal (l := [p, q, .int .i64 s.border]) r1 3 rfl, zaa]
   have hf : fillL #[(.pointer none), (.pointer none), (.int .i64 0), (.int .i64 0), (.int .i64 0)] [(0, 3, .agg #[p, q, .int .i64 s.border]), (3, 1, .int .i64 w), (4, 1, .int .i64 hh)] = some #[p, q, .int .i64 s.border, .int .i64 w, .int .i64 hh] := rfl
   rw [hf, zaA, zaa]
   refine zag (c := #[p, q, .int .i64 s.border, .int .i64 w, .int .i64 hh]) fun b2 h2 r2 e2 n2 => ?_
   exact ⟨e1.trans e2, fun _ => ⟨b2, p, q, rfl, Nat.le_trans e1.1 n2, r2, hp.ext (e1.trans e2), hq.ext (e1.trans e2)⟩, fun hn => absurd ⟨trivial, trivial⟩ hn⟩
  ·simp only [go_sem, hh']
   exact ⟨e1, fun hn => hn.2.elim, fun _ => by simp⟩
 ·simp only [go_sem, hw]
  exact ⟨e1, fun hn => hn.1.elim, fun _ => by simp⟩
structure TileD where
 number : Int
 x : Int
 y : Int
 w : Int
 h : Int
 fx : Int
 fy : Int
 cx : Int
 cy : Int
 ring : Int
abbrev tileC (t : TileD) : List Value := [.int .i64 t.number, .int .i64 t.x, .int .i64 t.y, .int .i64 t.w, .int .i64 t.h, .int .i64 t.fx, .int .i64 t.fy, .int .i64 t.cx, .int .i64 t.cy, .int .i64 t.ring]
theorem zbO (t : TileD) : ∀ v ∈ tileC t, zam v = true := by
 intro v hv
 simp only [tileC, List.mem_cons, List.not_mem_nil, or_false] at hv
 rcases hv with rfl | rfl | rfl | rfl | rfl | rfl | rfl | rfl | rfl | rfl <;> rfl
theorem tile_inv {d : PlanD} (W : d.Wf) {i : Int} (h0 : 0 ≤ i) (h1 : i < zmn d) : 0 ≤ outX d i ∧ outX d i < d.X ∧ 0 ≤ outY d i ∧ outY d i < d.Y := by
 have hb := PlanD.bd W
 have hw := W.w
 have hh := W.h
 unfold sideT at hw hh
 have h2 := zgL hb.1 W.w
 have h3 := zgL hb.2 W.h
 have hc : 0 < colsZ d := by
  rcases Int.lt_or_le 0 (colsZ d) with h | h
  ·exact h
  ·have h4 : 0 ≤ colsZ d := h2.1
   have : colsZ d = 0 := by omega
   unfold zmn at h1
   rw [this, Int.zero_mul] at h1
   omega
 have m0 := Int.emod_nonneg i (show colsZ d ≠ 0 by omega)
 have m1 := Int.emod_lt_of_pos i hc
 have q0 := Int.ediv_nonneg h0 (show 0 ≤ colsZ d by omega)
 have q1 : i / colsZ d < zeH d.Y d.h := by
  rw [Int.ediv_lt_iff_lt_mul hc, Int.mul_comm]; exact h1
 have key : ∀ (n size k : Int), 0 ≤ n → 1 ≤ size → 0 ≤ k → k < zeH n size → 0 ≤ k * size ∧ k * size < n := by
  intro n size k hn hs hk hlt
  refine ⟨Int.mul_nonneg hk (by omega), ?_⟩
  have h5 : k + 1 ≤ (n + size - 1) / size := hlt
  rw [Int.le_ediv_iff_mul_le (by omega), Int.add_mul, Int.one_mul] at h5
  omega
 have k1 := key d.X d.w (i % colsZ d) hb.1.1 hw.1 m0 m1
 have k2 := key d.Y d.h (i / colsZ d) hb.2.1 hh.1 q0 q1
 exact ⟨k1.1, k1.2, k2.1, k2.2⟩
theorem c_planOut {Z : Nat → Prop} {h : Heap} {b : Nat} {d : PlanD} {p q : Value} (H : zms Z h b d p q) (W : d.Wf) {i : Int} (h0 : 0 ≤ i) (h1 : i < zmn d) : FCall prog zdz #[ptr b, .int .i64 i] h fun r h' =>
  r = .agg #[.int .i64 (outX d i), .int .i64 (outY d i), .int .i64 (outW d i), .int .i64 (outH d i)] ∧ Ext h h' := by
 apply zmE
 unfold zhq
 have ti := tile_inv W h0 h1
 have hb := PlanD.bd W
 have hw := W.w
 have hh := W.h
 unfold sideT at hw hh
 have h2 := zgL hb.1 W.w
 have h3 := zgL hb.2 W.h
 have hcl : 0 ≤ colsZ d ∧ colsZ d ≤ 65536 := ⟨h2.1, h2.2.1⟩
 have hpr := zh1 (a := colsZ d) (A := 65536) (b := zeH d.Y d.h) (B := 65536) h2.1 h2.2.1 h3.1 h3.2.1
 have hct : zmn d = colsZ d * zeH d.Y d.h := rfl
 have hc : 0 < colsZ d := by
  rcases Int.lt_or_le 0 (colsZ d) with h | h
  ·exact h
  ·have : colsZ d = 0 := by omega
   rw [hct, this, Int.zero_mul] at h1
   omega
 have hq := zfY (a := i) (b := colsZ d) (L := 0) (U := 4294967296) (by omega) (by omega) (by omega) (by omega) (by omega)
 refine zag fun b1 h2' r1 e1 n1 => ?_
 have H1 := H.ext e1
 simp only [go_sem, Nat.zero_add]
 refine zak (fun h' => h' = h2') rfl ?_
 refine zae (.int .i64 d.w) (fun h' e => by rw [e]; exact zac H1.row) ?_
 refine zae (.int .i64 d.h) (fun h' e => by rw [e]; exact zac H1.row) ?_
 refine (zn8 H1 W).mono fun r h3 ⟨e, wq⟩ => ?_
 have wq := wq.symm
 subst e wq
 refine ⟨rfl, ?_⟩
 rw [zaJ _ _ _ _ (by omega), zaa, Int.tmod_eq_emod_of_nonneg h0]
 simp only [go_sem]
 refine (zn8 H1 W).mono fun r h3 ⟨e, wq⟩ => ?_
 have wq := wq.symm
 subst e wq
 refine ⟨rfl, ?_⟩
 rw [zdY _ _ _ _ (by omega), zaa, Int.tdiv_eq_ediv_of_nonneg h0]
 simp only [go_sem]
 have ex : i % colsZ d * d.w = outX d i := rfl
 have ey : i / colsZ d * d.h = outY d i := rfl
 rw [w64 (n := i / colsZ d) (by omega) (by omega), ex, ey, w64 (n := outX d i) (by omega) (by omega), w64 (n := outY d i) (by omega) (by omega)]
 refine zak (fun h' => h' = h2') rfl ?_
 simp only [go_sem, Nat.zero_add]
 refine zae (.int .i64 d.w) (fun h' e => by rw [e]; exact zac H1.row) ?_
 refine zae p (fun h' e => by rw [e]; exact zac H1.row) ?_
 refine zae (.int .i64 d.h) (fun h' e => by rw [e]; exact zac H1.row) ?_
 refine zae q (fun h' e => by rw [e]; exact zac H1.row) ?_
 refine (c_To H1.x).mono fun r h3 ⟨e, wq⟩ => ?_
 have wq := wq.symm
 subst e wq
 refine ⟨rfl, ?_⟩
 simp only [go_sem]
 have eX : (d.s.x.lines.length : Int) = d.X := rfl
 have eY : (d.s.y.lines.length : Int) = d.Y := rfl
 rw [eX, w64 (n := d.X - outX d i) (by omega) (by omega)]
 refine zae (.int .i64 (min d.w (d.X - outX d i))) (fun h' e => by first | exact zqx _ _ _ | rfl) ?_
 refine (c_To H1.y).mono fun r h3 ⟨e, wq⟩ => ?_
 have wq := wq.symm
 subst e wq
 refine ⟨rfl, ?_⟩
 simp only [go_sem]
 rw [eY, w64 (n := d.Y - outY d i) (by omega) (by omega)]
 refine zae (.int .i64 (min d.h (d.Y - outY d i))) (fun h' e => by first | exact zqx _ _ _ | rfl) ?_
 have hf : fillL #[(.int .i64 0), (.int .i64 0), (.int .i64 0), (.int .i64 0)] [(0, 1, Value.int .i64 (outX d i)), (1, 1, Value.int .i64 (outY d i)), (2, 1, Value.int .i64 (min d.w (d.X - outX d i))), (3, 1, Value.int .i64 (min d.h (d.Y - outY d i)))] = some #[.int .i64 (outX d i), .int .i64 (outY d i), .int .i64 (outW d i), .int .i64 (outH d i)] := rfl
 rw [hf, zaA, zaa]
 refine zbt (l := [.int .i64 (outX d i), .int .i64 (outY d i), .int .i64 (outW d i), .int .i64 (outH d i)]) r1 rfl (zad rfl (zad rfl (zad rfl (zad rfl zaq)))) rfl fun h5 r5 u5 => ?_
 rw [zal r5 4 rfl, zaa]
 exact ⟨rfl, e1.upd n1 u5⟩
theorem fill_tile (a b c d e f : Int) : fillL #[(.int .i64 0), (.int .i64 0), (.int .i64 0), (.int .i64 0), (.int .i64 0), (.int .i64 0), (.int .i64 0), (.int .i64 0), (.int .i64 0), (.int .i64 0)] [(0, 1, Value.int .i64 a), (1, 4, .agg #[.int .i64 b, .int .i64 c, .int .i64 d, .int .i64 e]), (9, 1, .int .i64 f)] = some (tileC ⟨a, b, c, d, e, 0, 0, 0, 0, f⟩).toArray := by
 refine (zba (n := 1) (l := [.int .i64 a]) rfl rfl (by simp)).trans ?_
 refine (zba (n := 4) (l := [.int .i64 b, .int .i64 c, .int .i64 d, .int .i64 e]) rfl rfl (by simp [zca])).trans ?_
 refine (zba (n := 1) (l := [.int .i64 f]) rfl rfl (by simp [zca])).trans ?_
 rw [zb7]
 simp [wrL, tileC]
def tileOf (d : PlanD) (i : Int) : TileD :=
 ⟨i, outX d i, outY d i, outW d i, outH d i, (zjn d.s.x (outX d i) (outX d i + outW d i)).1, (zjn d.s.y (outY d i) (outY d i + outH d i)).1,
  (zjn d.s.x (outX d i) (outX d i + outW d i)).2, (zjn d.s.y (outY d i) (outY d i + outH d i)).2, mostL d.s.y.lines⟩
theorem c_planTile {Z : Nat → Prop} {h : Heap} {b : Nat} {d : PlanD} {p q : Value} (H : zms Z h b d p q) (W : d.Wf) {i : Int} (h0 : 0 ≤ i) (h1 : i < zmn d) : FCall prog zeu #[ptr b, .int .i64 i] h fun r h' =>
  r = .tuple #[.agg (tileC (tileOf d i)).toArray, .bool true] ∧ Ext h h' := by
 apply zlw
 unfold zgt
 have ti := tile_inv W h0 h1
 have hb := PlanD.bd W
 have hw := W.w
 have hh := W.h
 unfold sideT at hw hh
 refine zag fun b1 h2 r1 e1 n1 => ?_
 have H1 := H.ext e1
 have hi : (i < 0) = False := eq_false (by omega)
 simp only [go_sem, hi]
 refine (c_Count H1 W).mono fun r h3 ⟨e, wq⟩ => ?_
 have wq := wq.symm
 subst e wq
 simp only [go_sem]
 rw [decide_eq_false (by omega), zcj]
 have lb1 := zaB r1
 refine zat (fun xs h' => ∃ b2, xs = [ptr b2] ∧ Ext h2 h' ∧ h2.size ≤ b2 ∧ h'[b2]? = some (.cells (tileC ⟨i, outX d i, outY d i, outW d i, outH d i, 0, 0, 0, 0, mostL d.s.y.lines⟩).toArray 43 (0, 0))) ?_ ?_
 ·simp only [go_sem, Nat.zero_add]
  refine zak (Ext h2) (Ext.refl _) ?_
  refine zae q (fun h' e => zac (e.row H1.row)) ?_
  have hf : fillL #[(.int .i64 0), (.int .i64 0), (.int .i64 0), (.int .i64 0), (.int .i64 0), (.int .i64 0), (.int .i64 0), (.int .i64 0), (.int .i64 0), (.int .i64 0)] [(0, 1, Value.int .i64 i), (1, 4, .agg #[.int .i64 (outX d i), .int .i64 (outY d i), .int .i64 (outW d i), .int .i64 (outH d i)]), (9, 1, .int .i64 (mostL d.s.y.lines))] = some (tileC ⟨i, outX d i, outY d i, outW d i, outH d i, 0, 0, 0, 0, mostL d.s.y.lines⟩).toArray := fill_tile _ _ _ _ _ _
  refine ⟨?_, ?_⟩
  ·refine (c_planOut H1 W h0 h1).mono fun r h3 ⟨e, e3⟩ => ?_
   subst e
   refine ⟨e3, ?_, ?_⟩
   ·refine (zpz (H1.y.ext e3)).mono fun r h4 ⟨e, wq⟩ => ?_
    have wq := wq.symm
    subst e wq
    refine ⟨e3, ?_⟩
    rw [hf, zaA, zaa]
    refine zag fun b4 h4 r4 e4 n4 => ⟨e3.trans e4, ?_⟩
    have n4' := Nat.le_trans e3.1 n4
    refine zbt (l := tileC _) r4 rfl (zbO _) rfl fun h5 r5 u5 => ?_
    have E := (e3.trans e4).upd n4' u5
    exact ⟨E, b4, rfl, E, n4', r5⟩
   ·refine zag fun b4 h4 r4 e4 n4 => ⟨e3.trans e4, ?_⟩
    have n4' := Nat.le_trans e3.1 n4
    refine (zpz (H1.y.ext (e3.trans e4))).mono fun r h5 ⟨e, wq⟩ => ?_
    have wq := wq.symm
    subst e wq
    refine ⟨e3.trans e4, ?_⟩
    rw [hf, zaA, zaa]
    refine zbt (l := tileC _) r4 rfl (zbO _) rfl fun h5 r5 u5 => ?_
    have E := (e3.trans e4).upd n4' u5
    exact ⟨E, b4, rfl, E, n4', r5⟩
  ·refine zag fun b4 h4 r4 e4 n4 => ⟨e4, ?_⟩
   refine (c_planOut (H1.ext e4) W h0 h1).mono fun r h3 ⟨e, e3⟩ => ?_
   subst e
   refine ⟨e4.trans e3, ?_⟩
   refine (zpz (H1.y.ext (e4.trans e3))).mono fun r h5 ⟨e, wq⟩ => ?_
   have wq := wq.symm
   subst e wq
   refine ⟨e4.trans e3, ?_⟩
   rw [hf, zaA, zaa]
   refine zbt (l := tileC _) (e3.row r4) rfl (zbO _) rfl fun h5 r5 u5 => ?_
   have E := (e4.trans e3).upd n4 u5
   exact ⟨E, b4, rfl, E, n4, r5⟩
 rintro xs ρj h3 ⟨b2, rfl, E3, nb2, r3⟩
 have H3 := H1.ext E3
 have lb3 := H1.row
 have hbne : b ≠ b2 := by have := zaB H1.row; omega
 have hb12 : b1 ≠ b2 := by omega
 have hW1 : 0 ≤ outX d i + outW d i ∧ outX d i + outW d i ≤ 65536 := by unfold outW; omega
 have hH1 : 0 ≤ outY d i + outH d i ∧ outY d i + outH d i ≤ 65536 := by unfold outH; omega
 refine zak (fun h' => h' = h3) rfl ?_
 simp only [go_sem, Nat.zero_add]
 refine zae p (fun h' e => by rw [e]; exact zac H3.row) ?_
 refine zae (.int .i64 (outX d i)) (fun h' e => by rw [e]; exact zac r3) ?_
 refine zae (.int .i64 (outX d i)) (fun h' e => by rw [e]; exact zac r3) ?_
 refine zae (.int .i64 (outW d i)) (fun h' e => by rw [e]; exact zac r3) ?_
 simp only [go_sem]
 rw [w64 (by omega) (by omega)]
 refine (c_Reach H3.x W.s.x (by unfold I64; omega) (by unfold I64; omega)).mono fun r h4 ⟨e, e4⟩ => ?_
 subst e
 simp only [go_sem, Nat.zero_add]
 refine zbl (e4.row r3) (by simp) rfl fun h5 r5 u5 => ?_
 refine zbl r5 (by simp) rfl fun h6 r6 u6 => ?_
 have E6 : Ext h2 h6 := ((E3.trans e4).upd nb2 u5).upd nb2 u6
 have H6 := H1.ext E6
 have r6 : h6[b2]? = some (.cells (tileC ⟨i, outX d i, outY d i, outW d i, outH d i, (zjn d.s.x (outX d i) (outX d i + outW d i)).1, 0, (zjn d.s.x (outX d i) (outX d i + outW d i)).2, 0, mostL d.s.y.lines⟩).toArray 43 (0, 0)) := r6
 refine zak (fun h' => h' = h6) rfl ?_
 try simp only [go_sem, Nat.zero_add]
 refine zae q (fun h' e => by rw [e]; exact zac H6.row) ?_
 refine zae (.int .i64 (outY d i)) (fun h' e => by rw [e]; exact zac r6) ?_
 refine zae (.int .i64 (outY d i)) (fun h' e => by rw [e]; exact zac r6) ?_
 refine zae (.int .i64 (outH d i)) (fun h' e => by rw [e]; exact zac r6) ?_
 simp only [go_sem]
 rw [w64 (by omega) (by omega)]
 refine (c_Reach H6.y W.s.y (by unfold I64; omega) (by unfold I64; omega)).mono fun r h7 ⟨e, e7⟩ => ?_
 subst e
 simp only [go_sem, Nat.zero_add]
 refine zbl (e7.row r6) (by simp) rfl fun h8 r8 u8 => ?_
 refine zbl r8 (by simp) rfl fun h9 r9 u9 => ?_
 have E9 : Ext h2 h9 := ((E6.trans e7).upd nb2 u8).upd nb2 u9
 have r9 : h9[b2]? = some (.cells (tileC (tileOf d i)).toArray 43 (0, 0)) := r9
 rw [zal r9 10 rfl, zaa]
 refine zbt (l := tileC (tileOf d i)) (E9.row r1) rfl (zbO _) rfl fun h10 r10 u10 => ?_
 rw [zal r10 10 rfl, zaa]
 exact ⟨rfl, (e1.trans E9).upd n1 u10⟩
def op14 : OpD := ⟨3, 0, 0, 0, [], [], 0, 5, 3⟩
theorem c_l14Lives {h : Heap} (G : GlobB h) : FCall prog zg8 #[] h fun r h' => r = .bool true ∧ Ext h h' := by
 apply zoB
 unfold zjb
 have hf : (fillL #[(.int .i64 0), (.int .i64 0), (.int .i64 0), (.int .i64 0), (.slice none 0 0), (.slice none 0 0), (.int .i64 0), (.int .i64 0), (.int .i64 0)] [(0, 1, (.int .i64 3)), (7, 1, (.int .i64 5)), (8, 1, (.int .i64 3)), (6, 1, (.int .i64 0))]) = some #[.int .i64 3, .int .i64 0, .int .i64 0, .int .i64 0, .slice none 0 0, .slice none 0 0, .int .i64 0, .int .i64 5, .int .i64 3] := rfl
 rw [hf, zaA, zaa]
 have wf : op14.Wf := zmK (by simp [I64])
 refine (c_Make (Z := fun _ => True) (o := op14) G zmL wf (by simp [op14]) (by simp [op14]) (by unfold I64; omega) (by unfold I64; omega)).mono fun w h1 ⟨sv, e, e1, _, s1⟩ => ?_
 subst e
 have a1 : makeC op14 9 9 = 0 := by decide +kernel
 have HS := s1 a1
 rw [a1]
 obtain ⟨p, q, rfl, hp, hq, ones⟩ := zcS HS
 simp only [go_sem]
 refine zaR (cs := [p, q, .int .i64 _]) rfl ones rfl fun b2 h2 r2 e2 n2 => ?_
 refine (zpw (G.ext (e1.trans e2))).mono fun r h3 ⟨e, e3⟩ => ?_
 subst e
 have z0 : ((0 : Int) = 0) = True := eq_true rfl
 simp only [go_sem, z0, decide_true]
 rw [zal (l := [p, q, .int .i64 _]) (e3.row r2) 3 rfl, zaa]
 refine (c_planNew (HS.ext (e2.trans e3))).mono fun r h4 ⟨e4, hy, _⟩ => ?_
 obtain ⟨b4, p4, q4, e, nb4, P⟩ := hy ⟨by decide, by decide⟩
 subst e
 have np : binV .p .eql (ptr b4) (.pointer none) = some (.bool false) := rfl
 simp only [go_sem, z0, np, decide_true]
 have PW : PlanD.Wf ⟨makeS op14 9 9, 2, 2⟩ := ⟨(ziv a1).1, by decide, by decide⟩
 have hcount : zmn ⟨makeS op14 9 9, 2, 2⟩ = 6 := by decide +kernel
 refine (c_planTile P PW (i := 5) (by omega) (by rw [hcount]; omega)).mono fun r h5 ⟨e, e5⟩ => ?_
 subst e
 simp only [go_sem]
 refine zaR (cs := tileC _) rfl (zbO _) rfl fun b6 h6 r6 e6 n6 => ?_
 refine (c_Count (P.ext (e5.trans e6)) PW).mono fun r h7 ⟨e, wq⟩ => ?_
 have wq := wq.symm
 subst e wq
 rw [hcount]
 have t1 : outX ⟨makeS op14 9 9, 2, 2⟩ 5 = 4 := by decide +kernel
 have t2 : outY ⟨makeS op14 9 9, 2, 2⟩ 5 = 2 := by decide +kernel
 have t3 : outW ⟨makeS op14 9 9, 2, 2⟩ 5 = 1 := by decide +kernel
 have t4 : outH ⟨makeS op14 9 9, 2, 2⟩ 5 = 1 := by decide +kernel
 have ld4 : ldsV 4 h6 (.pointer (some ⟨b6, 1, none⟩)) = some (.agg #[.int .i64 4, .int .i64 2, .int .i64 1, .int .i64 1]) := by
  refine zkW [.int .i64 4, .int .i64 2, .int .i64 1, .int .i64 1] 4 rfl fun j hj => ?_
  rw [zac r6]
  match j, hj with
  | 0, _ => exact congrArg (fun n => some (Value.int .i64 n)) t1
  | 1, _ => exact congrArg (fun n => some (Value.int .i64 n)) t2
  | 2, _ => exact congrArg (fun n => some (Value.int .i64 n)) t3
  | 3, _ => exact congrArg (fun n => some (Value.int .i64 n)) t4
 have hf4 : fillL #[(.int .i64 0), (.int .i64 0), (.int .i64 0), (.int .i64 0)] [(0, 1, (.int .i64 4)), (1, 1, (.int .i64 2)), (2, 1, (.int .i64 1)), (3, 1, (.int .i64 1))] = some #[.int .i64 4, .int .i64 2, .int .i64 1, .int .i64 1] := rfl
 have heq : binV (.st [(0, 1, .i), (1, 1, .i), (2, 1, .i), (3, 1, .i)]) .eql (.agg #[.int .i64 4, .int .i64 2, .int .i64 1, .int .i64 1]) (.agg #[.int .i64 4, .int .i64 2, .int .i64 1, .int .i64 1]) = some (.bool true) := rfl
 simp only [go_sem, eq_self, decide_true, Nat.zero_add, ld4, hf4, zaA, heq]
 exact ⟨by simp, e1.trans (e2.trans (e3.trans (e4.trans (e5.trans e6))))⟩
end Go.Proofs.YtojmncnelbnceaaGreatDoor
namespace Go.Crisp
open Go Go.MapKept
section
section
variable {α : Type}
def kGet (j : Int) : List (Int × α) → Option α
 | [] => none
 | (k, v) :: r => if k = j then some v else kGet j r
def kPut (j : Int) (v : α) : List (Int × α) → List (Int × α)
 | [] => [(j, v)]
 | (k, u) :: r => if k = j then (j, v) :: r else (k, u) :: kPut j v r
def kDel (j : Int) : List (Int × α) → List (Int × α)
 | [] => []
 | (k, u) :: r => if k = j then r else (k, u) :: kDel j r
def kFind (j : Int) : List (Int × α) → Nat → Option (Nat × α)
 | [], _ => none
 | (k, v) :: r, i => if k = j then some (i, v) else kFind j r (i + 1)
def kMap {β : Type} (f : α → β) (l : List (Int × α)) : List (Int × β) := l.map fun p => (p.1, f p.2)
theorem zh4 {β : Type} (f : α → β) (l : List (Int × α)) : (kMap f l).map Prod.fst = l.map Prod.fst := by simp [kMap, List.map_map, Function.comp_def]
theorem zfX {β : Type} (f : α → β) (j : Int) : ∀ l : List (Int × α), kGet j (kMap f l) = (kGet j l).map f
 | [] => rfl
 | (k, v) :: r => by
  have ih := zfX f j r
  unfold kMap at ih ⊢
  simp only [List.map_cons, kGet]
  split
  ·rfl
  ·exact ih
theorem zqJ {β : Type} (f : α → β) (j : Int) : ∀ l : List (Int × α), kDel j (kMap f l) = kMap f (kDel j l)
 | [] => rfl
 | (k, v) :: r => by
  have ih := zqJ f j r
  unfold kMap at ih ⊢
  simp only [List.map_cons, kDel]
  split
  ·rfl
  ·simp [ih]
end
def esKv (es : List MapEntry) (kv : List (Int × Value)) : Prop := es.map (fun e => (e.key, e.val)) = kv.map fun p => (Value.int .i64 p.1, p.2)
def MapI (h : Heap) (b : Nat) (kv : List (Int × Value)) : Prop := ∃ es c, h[b]? = some (.map es c) ∧ Stamped es c ∧ esKv es.toList kv
theorem esKv.length {es : List MapEntry} {kv : List (Int × Value)} (H : esKv es kv) : es.length = kv.length := by
 have := congrArg List.length H
 simpa using this
theorem MapI.nodup {h : Heap} {b : Nat} {kv : List (Int × Value)} (H : MapI h b kv) : (kv.map Prod.fst).Nodup := by
 obtain ⟨es, c, _, hs, he⟩ := H
 have h1 : es.toList.map (·.key) = (kv.map Prod.fst).map (Value.int .i64) := by
  have := congrArg (List.map Prod.fst) he
  simpa [List.map_map, Function.comp_def] using this
 have h2 := hs.2.2
 rw [h1] at h2
 unfold List.Nodup at h2 ⊢
 rw [List.pairwise_map] at h2
 exact h2.imp fun h e => h (by rw [e])
theorem MapI.row {h h' : Heap} {b : Nat} {kv : List (Int × Value)} (H : MapI h b kv) (r : h'[b]? = h[b]?) : MapI h' b kv := by
 obtain ⟨es, c, h1, h2⟩ := H
 exact ⟨es, c, r.trans h1, h2⟩
theorem MapI.lt {h : Heap} {b : Nat} {kv : List (Int × Value)} (H : MapI h b kv) : b < h.size := by
 obtain ⟨es, c, h1, _⟩ := H
 exact zaB h1
theorem MapI.fr {M : Nat → Prop} {h h' : Heap} {b : Nat} {kv : List (Int × Value)} (H : MapI h b kv) (f : Fr M h h') (hm : ¬ M b) : MapI h' b kv := H.row (f.2 b H.lt hm)
theorem MapI.ext {h h' : Heap} {b : Nat} {kv : List (Int × Value)} (H : MapI h b kv) (e : Ext h h') : MapI h' b kv := H.row (e.2 b H.lt)
theorem zn2 (j : Int) : ∀ (es : List MapEntry) (kv : List (Int × Value)) (i : Nat), esKv es kv → Instr.findNow (.int .i64) (.int .i64 j) es i = some (kFind j kv i)
 | [], kv, i, H => by
  have : kv = [] := List.eq_nil_of_length_eq_zero (by rw [← esKv.length H]; rfl)
  subst this; rfl
 | e :: es, [], i, H => by have := esKv.length H; simp at this
 | e :: es, (k, v) :: kv, i, H => by
  unfold esKv at H
  simp only [List.map_cons, List.cons.injEq, Prod.mk.injEq] at H
  obtain ⟨⟨h1, h2⟩, H⟩ := H
  unfold Instr.findNow kFind
  rw [h1]
  have hs : Instr.sameNow (.int .i64) (.int .i64 j) (.int .i64 k) = some (j == k) := by simp [Instr.sameNow]
  rw [hs]
  by_cases hk : k = j
  ·subst hk
   simp [h2]
  ·have hk' : (j == k) = false := by simp; exact fun h => hk h.symm
   rw [hk', if_neg hk]
   exact zn2 j es kv (i + 1) H
theorem znW {α : Type} (j : Int) : ∀ (kv : List (Int × α)) (i : Nat), (kFind j kv i).map Prod.snd = kGet j kv
 | [], _ => rfl
 | (k, v) :: r, i => by
  unfold kFind kGet
  split
  ·rfl
  ·exact znW j r (i + 1)
theorem zee {α : Type} {j : Int} : ∀ {kv : List (Int × α)}, kGet j kv = none ↔ j ∉ kv.map Prod.fst
 | [] => by simp [kGet]
 | (k, v) :: r => by
  unfold kGet
  by_cases hk : k = j
  ·simp [hk]
  ·simp [hk, zee (kv := r), Ne.symm hk]
theorem zph {α : Type} {j : Int} {kv : List (Int × α)} {i : Nat} (h : kFind j kv i = none) : kGet j kv = none := by
 rw [← znW j kv i, h]; rfl
theorem zlz {α : Type} {j : Int} : ∀ {kv : List (Int × α)} {i m : Nat} {v : α}, kFind j kv i = some (m, v) → i ≤ m ∧ kv[m - i]? = some (j, v) ∧ (∀ u, kPut j u kv = kv.set (m - i) (j, u)) ∧ kDel j kv = kv.eraseIdx (m - i)
 | [], _, _, _, h => by cases h
 | (k, v) :: r, i, m, u, h => by
  unfold kFind at h
  split at h
  ·rename_i hk
   cases h
   subst hk
   simp [kPut, kDel]
  ·rename_i hk
   obtain ⟨h1, h2, h3, h4⟩ := zlz h
   have hm : m - i = (m - (i + 1)) + 1 := by omega
   refine ⟨by omega, ?_, fun u => ?_, ?_⟩
   ·rw [hm]; simpa using h2
   ·rw [hm]; simp [kPut, hk, h3 u]
   ·rw [hm]; simp [kDel, hk, h4]
theorem znX {α : Type} {j : Int} {v : α} : ∀ {kv : List (Int × α)}, kGet j kv = some v → kv.Perm ((j, v) :: kDel j kv)
 | (k, u) :: r, h => by
  unfold kGet at h
  unfold kDel
  split at h
  ·rename_i hk
   cases h; subst hk
   rw [if_pos rfl]
  ·rename_i hk
   rw [if_neg hk]
   exact ((znX h).cons (k, u)).trans (List.Perm.swap ..)
theorem zqH {α : Type} {j : Int} {v : α} : ∀ {kv : List (Int × α)}, kGet j kv = some v → (j, v) ∈ kv
 | (k, u) :: r, h => by
  unfold kGet at h
  split at h
  ·rename_i hk
   cases h; subst hk
   exact List.mem_cons_self ..
  ·exact List.mem_cons_of_mem _ (zqH h)
theorem znV {α : Type} {j : Int} {v : α} : ∀ {kv : List (Int × α)}, (kv.map Prod.fst).Nodup → (j, v) ∈ kv → kGet j kv = some v
 | (k, u) :: r, hn, h => by
  unfold kGet
  rw [List.map_cons, List.nodup_cons] at hn
  rcases List.mem_cons.1 h with h | h
  ·cases h; rw [if_pos rfl]
  ·rw [if_neg]
   ·exact znV hn.2 h
   ·rintro rfl
    exact hn.1 (List.mem_map.2 ⟨_, h, rfl⟩)
theorem zmQ {α : Type} {j i : Int} : ∀ {kv : List (Int × α)}, (kv.map Prod.fst).Nodup → kGet i (kDel j kv) = if i = j then none else kGet i kv
 | [], _ => by simp [kDel, kGet]
 | (k, u) :: r, hn => by
  rw [List.map_cons, List.nodup_cons] at hn
  unfold kDel
  by_cases hk : k = j
  ·subst hk
   rw [if_pos rfl]
   by_cases hi : i = k
   ·subst hi; rw [if_pos rfl]; exact zee.2 hn.1
   ·rw [if_neg hi, kGet, if_neg (Ne.symm hi)]
  ·rw [if_neg hk]
   unfold kGet
   by_cases hki : k = i
   ·subst hki; rw [if_pos rfl, if_neg hk, if_pos rfl]
   ·rw [if_neg hki, if_neg hki]; exact zmQ hn.2
theorem zqI {α : Type} {j : Int} : ∀ {kv : List (Int × α)}, (kDel j kv).Sublist kv
 | [] => List.Sublist.refl _
 | (k, u) :: r => by
  unfold kDel
  split
  ·exact List.sublist_cons_self ..
  ·exact zqI.cons_cons _
def lookR (ok : Bool) (z : Value) : Option Value → Value
 | some v => bif ok then .tuple #[v, .bool true] else v
 | none => bif ok then .tuple #[z, .bool false] else z
theorem zkT {h : Heap} {b : Nat} {kv : List (Int × Value)} (H : MapI h b kv) (z : Value) (ok : Bool) (j : Int) : lookV (.int .i64) z ok h (.map (some b)) (.int .i64 j) = some (lookR ok z (kGet j kv)) := by
 obtain ⟨es, c, hb, _, he⟩ := H
 have hm : mapAt h (.map (some b)) = some (es, c) := by unfold mapAt; simp [hb]
 unfold lookV
 simp only [hm, zn2 j es.toList kv 0 he]
 rw [← znW j kv 0]
 cases kFind j kv 0 with
 | none => rfl
 | some p => rfl
theorem zqC {h : Heap} {b : Nat} {kv : List (Int × Value)} (H : MapI h b kv) : lenmV h (.map (some b)) = some (.int .i64 (kv.length : Nat)) := by
 obtain ⟨es, c, hb, _, he⟩ := H
 unfold lenmV
 simp only [hb]
 rw [← he.length, Array.length_toList]
theorem zqG {α : Type} {j : Int} {v : α} : ∀ {kv : List (Int × α)}, kGet j kv = none → kPut j v kv = kv ++ [(j, v)]
 | [], _ => rfl
 | (k, u) :: r, h => by
  unfold kGet at h
  split at h
  ·cases h
  ·rename_i hk
   simp [kPut, hk, zqG h]
theorem kDel_none {α : Type} {j : Int} : ∀ {kv : List (Int × α)}, kGet j kv = none → kDel j kv = kv
 | [], _ => rfl
 | (k, u) :: r, h => by
  unfold kGet at h
  split at h
  ·cases h
  ·rename_i hk
   simp [kDel, hk, kDel_none h]
theorem put_map {h : Heap} {b : Nat} {kv : List (Int × Value)} {j : Int} {v : Value} {K : Value → Heap → Prop} (H : MapI h b kv) (HK : ∀ h', MapI h' b (kPut j v kv) → Upd b h h' → K undef h') :
  zgP (.int .i64) (.map (some b)) (.int .i64 j) v h K := by
 obtain ⟨es, c, hb, hs, he⟩ := H
 unfold zgP
 simp only [hb, zn2 j es.toList kv 0 he]
 cases hf : kFind j kv 0 with
 | none =>
  have hg := zph hf
  simp only
  refine HK _ ⟨_, _, zel hb, stamped_push hs fun x hx hxk => ?_, ?_⟩ Upd.set
  ·have h1 : j ∈ kv.map Prod.fst := by
    have : (x.key, x.val) ∈ kv.map fun p => (Value.int .i64 p.1, p.2) := by rw [← he]; exact List.mem_map.2 ⟨x, hx, rfl⟩
    obtain ⟨p, hp, hpe⟩ := List.mem_map.1 this
    rw [hxk] at hpe
    have h2 := congrArg Prod.fst hpe
    simp at h2
    exact List.mem_map.2 ⟨p, hp, h2⟩
   exact zee.1 hg h1
  ·unfold esKv at he ⊢
   rw [zqG hg, Array.toList_push, List.map_append, he, List.map_append]
   rfl
 | some p =>
  obtain ⟨i, u⟩ := p
  obtain ⟨_, h2, h3, _⟩ := zlz hf
  rw [Nat.sub_zero] at h2 h3
  have hi : i < kv.length := (List.getElem?_eq_some_iff.1 h2).1
  have hi' : i < es.size := by rw [← Array.length_toList, he.length]; exact hi
  have hkey : es[i].key = .int .i64 j := by
   have h4 := congrArg (fun l => (l[i]?).map Prod.fst) he
   simp only [List.getElem?_map, h2, Option.map_some, Array.getElem?_toList, Array.getElem?_eq_getElem hi'] at h4
   exact Option.some.inj h4
  simp only
  refine ⟨?_, HK _ ⟨_, _, zel hb, stamped_modify hs i _ (fun e _ => rfl) (fun e _ hx => ?_), ?_⟩ Upd.set⟩
  ·rw [Array.getElem?_eq_getElem hi']
   simp only [Option.map_some, Option.getD_some, hkey]
   simp [Instr.sameBits]
  ·rw [Array.getElem?_eq_getElem hi'] at hx
   cases hx
   exact hkey.symm
  ·rw [h3]
   unfold esKv at he ⊢
   apply List.ext_getElem?
   intro m
   have hem := congrArg (fun l => l[m]?) he
   simp only [List.getElem?_map, Array.getElem?_toList] at hem ⊢
   rw [Array.getElem?_modify, List.getElem?_set]
   by_cases hm : i = m
   ·subst hm
    rw [if_pos rfl, if_pos rfl, if_pos hi, Array.getElem?_eq_getElem hi']
    rfl
   ·rw [if_neg hm, if_neg hm]
    exact hem
theorem znL {α β : Type} (f : α → β) : ∀ (l : List α) (i : Nat), (l.eraseIdx i).map f = (l.map f).eraseIdx i
 | [], _ => rfl
 | a :: l, 0 => rfl
 | a :: l, i + 1 => by simp [znL f l i]
theorem esKv.key {es : List MapEntry} {kv : List (Int × Value)} (H : esKv es kv) {e : MapEntry} (he : e ∈ es) : ∃ j, e.key = .int .i64 j ∧ (j, e.val) ∈ kv := by
 have : (e.key, e.val) ∈ kv.map fun p => (Value.int .i64 p.1, p.2) := by rw [← H]; exact List.mem_map.2 ⟨e, he, rfl⟩
 obtain ⟨p, hp, hpe⟩ := List.mem_map.1 this
 have h1 := congrArg Prod.fst hpe
 have h2 := congrArg Prod.snd hpe
 simp only at h1 h2
 exact ⟨p.1, h1.symm, by rw [← h2]; exact hp⟩
theorem del_map' {h : Heap} {b : Nat} {kv : List (Int × Value)} {j : Int} {K : Value → Heap → Prop} (H : MapI h b kv)
  (HK : ∀ h', MapI h' b (kDel j kv) → Upd b h h' → (∀ es c, h[b]? = some (.map es c) → ∃ es', h'[b]? = some (.map es' c) ∧ ∀ e ∈ es', e ∈ es ∧ e.key ≠ .int .i64 j) → K (.tuple #[]) h') :
  zga (.int .i64) (.map (some b)) (.int .i64 j) h K := by
 have H0 := H
 have hnd := H.nodup
 obtain ⟨es, c, hb, hs, he⟩ := H
 have sub : ∃ h', MapI h' b (kDel j kv) ∧ Upd b h h' ∧ (∃ es', h'[b]? = some (.map es' c) ∧ (∀ e ∈ es', e ∈ es) ∧ esKv es'.toList (kDel j kv)) ∧ ∀ K : Value → Heap → Prop, K (.tuple #[]) h' → zga (.int .i64) (.map (some b)) (.int .i64 j) h K := by
  cases hf : kFind j kv 0 with
  | none =>
   have hk : esKv es.toList (kDel j kv) := by rw [kDel_none (zph hf)]; exact he
   refine ⟨_, ⟨es, c, zel hb, hs, hk⟩, Upd.set, ⟨es, zel hb, fun e h => h, hk⟩, fun K hK => ?_⟩
   unfold zga
   simp only [hb, zn2 j es.toList kv 0 he, hf]
   exact hK
  | some p =>
   obtain ⟨i, u⟩ := p
   obtain ⟨_, h2, _, h4⟩ := zlz hf
   rw [Nat.sub_zero] at h2 h4
   have hi : i < kv.length := (List.getElem?_eq_some_iff.1 h2).1
   have hi' : i < es.size := by rw [← Array.length_toList, he.length]; exact hi
   have hk : esKv (es.eraseIdxIfInBounds i).toList (kDel j kv) := by
    rw [h4]
    unfold esKv at he ⊢
    rw [Array.eraseIdxIfInBounds, dif_pos hi']
    have : (es.eraseIdx i hi').toList = es.toList.eraseIdx i := by simp
    rw [this, znL, he, ← znL]
   refine ⟨_, ⟨_, _, zel hb, stamped_erase hs i, hk⟩, Upd.set, ⟨_, zel hb, fun e h => ?_, hk⟩, fun K hK => ?_⟩
   ·rw [Array.eraseIdxIfInBounds, dif_pos hi', ← Array.mem_toList_iff, Array.toList_eraseIdx] at h
    rw [← Array.mem_toList_iff]
    exact (List.eraseIdx_sublist ..).subset h
   ·unfold zga
    simp only [hb, zn2 j es.toList kv 0 he, hf]
    exact hK
 obtain ⟨h', m', u', ⟨es', hb', hsub, hkv⟩, hK⟩ := sub
 refine hK K (HK h' m' u' fun es0 c0 h0 => ?_)
 rw [hb] at h0
 cases h0
 refine ⟨es', hb', fun e h => ⟨hsub e h, fun hkey => ?_⟩⟩
 obtain ⟨i, hi, hm⟩ := hkv.key (Array.mem_toList_iff.2 h)
 rw [hkey] at hi
 cases hi
 have h1 := znV m'.nodup hm
 rw [zmQ hnd, if_pos rfl] at h1
 cases h1
theorem new_map {h : Heap} {K : Value → Heap → Prop} (HK : ∀ b h', MapI h' b [] → Ext h h' → h.size ≤ b → K (.map (some b)) h') : newmK h K :=
 HK h.size _ ⟨#[], 0, zgK, stamped_empty 0, rfl⟩ (Ext.push h _) (Nat.le_refl _)
end
end Go.Crisp
namespace Go.Proofs.YtojmncnelbnceaaGreatDoor
open Go Go.Crisp
open _root_.Go.Proofs.Tryz
def zll : Go.Shelf.Ren := ⟨fun n => match n with | 8 => 135 | 11 => 156 | n => n, fun n => match n with | 0 => 0 | 24 => 28 | 26 => 2 | 28 => 207 | 33 => 145 | n => n, fun n => n⟩
theorem zqF : Go.Proofs.SlLaysZI.n8 prog zll where
 mixed := by kernel_rfl
 f8 := ⟨"slices.Collect[int64]", by kernel_rfl, by kernel_rfl⟩
 f11 := ⟨"slices.AppendSeq[[]int64,int64]", by kernel_rfl, by kernel_rfl⟩
 t0 := by kernel_rfl
 a0 := fun w => zaG (by kernel_rfl)
 z0 := fun w => zar (by kernel_rfl)
 v0 := fun w => zan (by kernel_rfl)
 t24 := by kernel_rfl
 a24 := fun w => zaG (by kernel_rfl)
 z24 := fun w => zar (by kernel_rfl)
 v24 := fun w => zan (by kernel_rfl)
 t26 := by kernel_rfl
 a26 := fun w => zaG (by kernel_rfl)
 z26 := fun w => zar (by kernel_rfl)
 v26 := fun w => zan (by kernel_rfl)
 t28 := by kernel_rfl
 a28 := fun w => zaG (by kernel_rfl)
 z28 := fun w => zar (by kernel_rfl)
 v28 := fun w => zan (by kernel_rfl)
 i26 := by kernel_rfl
def zjm : Go.Shelf.Ren := ⟨fun n => match n with | 10 => 157 | n => n, fun n => match n with | 0 => 0 | 3 => 28 | 4 => 4 | 23 => 136 | 26 => 2 | 33 => 145 | n => n, fun n => n⟩
theorem zpg : Go.Proofs.SlLaysZI.n10 prog zjm where
 mixed := by kernel_rfl
 f10 := ⟨"maps.Keys[map[int64][]int64,int64,[]int64]$1", by kernel_rfl, by kernel_rfl⟩
 t0 := by kernel_rfl
 a0 := fun w => zaG (by kernel_rfl)
 z0 := fun w => zar (by kernel_rfl)
 v0 := fun w => zan (by kernel_rfl)
 t4 := by kernel_rfl
 a4 := fun w => zaG (by kernel_rfl)
 z4 := fun w => zar (by kernel_rfl)
 v4 := fun w => zan (by kernel_rfl)
 t23 := by kernel_rfl
 a23 := fun w => zaG (by kernel_rfl)
 z23 := fun w => zar (by kernel_rfl)
 v23 := fun w => zan (by kernel_rfl)
 t26 := by kernel_rfl
 a26 := fun w => zaG (by kernel_rfl)
 z26 := fun w => zar (by kernel_rfl)
 v26 := fun w => zan (by kernel_rfl)
 t33 := by kernel_rfl
 a33 := fun w => zaG (by kernel_rfl)
 z33 := fun w => zar (by kernel_rfl)
 v33 := fun w => zan (by kernel_rfl)
end Go.Proofs.YtojmncnelbnceaaGreatDoor
namespace Go.Proofs.YtojmncnelbnceaaGreatDoor
open Go Go.Crisp
def vi (x : Int) : Value := .int .i64 x
def Ints (h : Heap) (v : Value) (l : List Int) : Prop :=
 ∃ a cap, v = .slice a l.length cap ∧ (l = [] ∨ ∃ b o, a = some ⟨b, o, none⟩ ∧ ∀ i (hi : i < l.length), zah h ⟨b, o + i, none⟩ = some (vi l[i]))
theorem Ints.ext {h h' : Heap} {v : Value} {l : List Int} (H : Ints h v l) (e : Ext h h') : Ints h' v l := by
 obtain ⟨a, cap, rfl, hl⟩ := H
 refine ⟨a, cap, rfl, hl.imp id ?_⟩
 rintro ⟨b, o, rfl, hc⟩
 exact ⟨b, o, rfl, fun i hi => e.cell (hc i hi)⟩
end Go.Proofs.YtojmncnelbnceaaGreatDoor
namespace Go.Proofs.YtojmncnelbnceaaGreatDoor
open Go Go.Crisp
attribute [local irreducible] FCall rowK newK stK iteK vK qK drawK gK joinK loopK mkK appK cpyK
def OwnI (h : Heap) (v : Value) (l : List Int) : Prop := Own 1 h v l.length (l.map vi)
theorem Ints.sl {h : Heap} {v : Value} {l : List Int} (H : Ints h v l) : SlC 1 h v l.length (l.map vi) := by
 obtain ⟨a, cap, rfl, H⟩ := H
 refine ⟨by simp, a, cap, rfl, ?_⟩
 rcases H with rfl | ⟨b, o, rfl, H⟩
 ·exact .inl rfl
 ·exact .inr ⟨b, o, rfl, fun j hj => by rw [List.getElem_map]; exact H j (by simpa using hj)⟩
theorem ints_sl {h : Heap} {v : Value} {l : List Int} (H : SlC 1 h v l.length (l.map vi)) : Ints h v l := by
 obtain ⟨_, a, cap, rfl, H⟩ := H
 refine ⟨a, cap, rfl, ?_⟩
 rcases H with H | ⟨b, o, rfl, H⟩
 ·exact .inl (by simpa using H)
 ·refine .inr ⟨b, o, rfl, fun j hj => ?_⟩
  have := H j (by simpa using hj)
  rw [List.getElem_map] at this
  exact this
theorem OwnI.ints {h : Heap} {v : Value} {l : List Int} (H : OwnI h v l) : Ints h v l := ints_sl (Own.sl H)
theorem vi_one {l : List Int} : ∀ v ∈ l.map vi, zam v = true := by
 intro v hv
 obtain ⟨x, _, rfl⟩ := List.mem_map.1 hv
 rfl
end Go.Proofs.YtojmncnelbnceaaGreatDoor
namespace Go.Proofs.YtojmncnelbnceaaGreatDoor
open Go Go.Crisp Go.MapKept Go.RowKit
attribute [local irreducible] rowK newK stK iteK vK qK drawK gK joinK loopK mkK appK cpyK
open _root_.Go.Proofs.Tryz
theorem own_of_row {w : World} {base : Nat} {e : TypeId} {v : Value} {xs : List Int} (H : w.ownsRow base e 1 v xs.length (xs.map encZ)) : OwnI w.heap v xs ∧ ∀ b, blk v b → base ≤ b := by
 obtain ⟨_, H⟩ := H
 rcases H with ⟨rfl, hn⟩ | ⟨g, cap, cur, rfl, hb, hg, hc, _, hs, ht⟩
 ·have : xs = [] := List.eq_nil_of_length_eq_zero hn
  subst this
  exact ⟨.inl ⟨rfl, rfl, rfl⟩, fun b hb => hb.elim⟩
 ·refine ⟨.inr ⟨g, cap, cur.toList.drop xs.length, e, rfl, hc, by simp, ?_, ?_⟩, fun b h => by rw [show b = g from h]; exact hb⟩
  ·rw [Nat.mul_one] at ht
   rw [show xs.map vi = xs.map encZ from rfl, ← ht, List.take_append_drop, Array.length_toList]; exact hs
  ·rw [Nat.mul_one] at ht
   rw [show xs.map vi = xs.map encZ from rfl, ← ht, List.take_append_drop, Array.toArray_toList]; exact hg
theorem below_ext {w w' : World} (H : Below w.heap.size w w') : Same w w' ∧ Ext w.heap w'.heap := ⟨⟨H.os, H.tape, H.output⟩, H.size, fun b hb => H.block b hb⟩
def noR : Value → Option (DataW Unit × List MemPlace) := fun _ => some (.nil, [])
theorem znY (x : Lit × DataW Unit) : ∀ l : List (Lit × DataW Unit), (DataW.insert x l).Perm (x :: l)
 | [] => List.Perm.refl _
 | y :: r => by
  unfold DataW.insert
  split
  ·exact List.Perm.refl _
  ·exact ((znY x r).cons y).trans (List.Perm.swap x y r)
theorem zlE : ∀ l : List (Lit × DataW Unit), (l.foldr DataW.insert []).Perm l
 | [] => List.Perm.refl _
 | x :: l => by
  rw [List.foldr_cons]
  exact (znY x _).trans ((zlE l).cons x)
theorem owns_map {P : Program} {k : TypeId} {w : World} {b : Nat} {kv : List (Int × Value)} (hk : P.underlying k = some (.int .i64)) (H : MapI w.heap b kv) (hw : ∀ p ∈ kv, (Lit.int .i64 p.1).wf = true) (hl : kv.length ≤ maxLen) :
  ∃ D : DataW Unit, w.ownsMap P k noR b kv.length D ∧ (intKeys D).Perm (kv.map Prod.fst) ∧ Go.Maps.size D = kv.length := by
 obtain ⟨es, c, hb, hs, he⟩ := H
 have hlen := he.length
 have hmem : ∀ x ∈ es.toList, ∃ j, x.key = .int .i64 j ∧ (Lit.int .i64 j).wf = true := fun x hx => by
  have : (x.key, x.val) ∈ kv.map fun p => (Value.int .i64 p.1, p.2) := by rw [← he]; exact List.mem_map.2 ⟨x, hx, rfl⟩
  obtain ⟨p, hp, hpe⟩ := List.mem_map.1 this
  exact ⟨p.1, (congrArg Prod.fst hpe).symm, hw p hp⟩
 have hrd : ∀ x ∈ es.toList, ∀ j, x.key = .int .i64 j → (Lit.int .i64 j).wf = true → WideElems.rd P k noR x = some (.int .i64 j, .nil) := fun x hx j hj hwf => by
  unfold WideElems.rd
  rw [hj]
  simp [keyOf, hk, mapKey, hwf, noR]
 refine ⟨.map ((es.toList.map (WideElems.rg P k noR)).foldr DataW.insert []), ⟨es, c, hb, ⟨by rw [← Array.length_toList, hlen]; exact hl, hs, fun x hx => ?_⟩, by rw [← Array.length_toList, hlen]; exact Nat.le_refl _, rfl⟩, ?_, ?_⟩
 ·obtain ⟨j, hj, hwf⟩ := hmem x hx
  exact ⟨_, hrd x hx j hj hwf⟩
 ·have h1 : (es.toList.map (WideElems.rg P k noR)).map (fun p => _root_.Go.intOf p.1) = kv.map Prod.fst := by
   have h2 : kv.map Prod.fst = (kv.map fun p => (Value.int .i64 p.1, p.2)).map fun q => match q.1 with | .int _ n => n | _ => 0 := by simp [List.map_map, Function.comp_def]
   rw [h2, ← he, List.map_map, List.map_map]
   refine List.map_congr_left fun x hx => ?_
   obtain ⟨j, hj, hwf⟩ := hmem x hx
   simp only [Function.comp_def]
   rw [WideElems.rg_of (hrd x hx j hj hwf), hj]
   rfl
  rw [← h1]
  exact (zlE _).map _
 ·show (List.foldr DataW.insert [] _).length = _
  rw [(zlE _).length_eq, List.length_map, hlen]
theorem calls_wide {P : Program} {f : FuncId} {args : Array Value} {w : World} {n : Nat} {R R' : Ending → World → Prop} (H : CallsIn Fence.wide n P f args w R) (hr : ∀ e w', R e w' → R' e w') : Calls P f args w R' := (callsIn_wide.1 H).mono hr
theorem c_Collect64 {h : Heap} {b1 b : Nat} {t : TypeId} {kv : List (Int × Value)} (r1 : h[b1]? = some (.cells #[.map (some b)] t (0, 0))) (hm : MapI h b kv) (hw : ∀ p ∈ kv, (Lit.int .i64 p.1).wf = true) (hl : kv.length ≤ 1000000) :
  FCall prog zdG #[.func (.func zaO) #[] #[.pointer (some ⟨b1, 0, none⟩)]] h fun r h' => ∃ ss : List Int, ss.Perm (kv.map Prod.fst) ∧ OwnI h' r ss ∧ Ext h h' ∧ ∀ k, blk r k → h.size ≤ k := by
 refine FCall.ofCalls (by kernel_rfl) fun w hh => ?_
 subst hh
 obtain ⟨D, hD, hp, hs⟩ := owns_map (P := prog) (k := (zjm).t 26) zpg.t26 hm hw (by unfold maxLen; omega)
 have seq := AnyZI.keys_gives zpg Fence.wide 3 trivial rfl (by omega) b1 b kv.length D w (zaB r1) (show zah w.heap ⟨b1, 0, none⟩ = _ from by rw [zac r1]; rfl) hD
 have := AnyZI.collect_in zqF Fence.wide 5 trivial trivial rfl (by omega) _ #[.pointer (some ⟨b1, 0, none⟩)] trivial (fun args w => zhT (by kernel_rfl)) _ _ (by rw [hs]; unfold maxLen; omega) (by rw [hs]; omega) w seq
 refine calls_wide this ?_
 rintro e w' ⟨v, ss, rfl, hS, hrow, _, hB⟩
 obtain ⟨o, n⟩ := own_of_row hrow
 obtain ⟨s, e⟩ := below_ext hB
 exact ⟨v, rfl, s, ss, hS.trans hp, o, e, n⟩
end Go.Proofs.YtojmncnelbnceaaGreatDoor
namespace Go.Proofs.YtojmncnelbnceaaGreatDoor
open Go Go.Crisp
attribute [local irreducible] FCall rowK newK stK iteK vK qK drawK gK joinK loopK mkK appK cpyK
theorem own_nil {h : Heap} : OwnI h (.slice none 0 0) [] := .inl ⟨rfl, rfl, rfl⟩
theorem eql_nil_some (a : Addr) (n c n' c' : Nat) : binV .sl .eql (.slice (some a) n c) (.slice none n' c') = some (.bool false) := Eq.trans rfl rfl
theorem eql_nil_none (n c n' c' : Nat) : binV .sl .eql (.slice none n c) (.slice none n' c') = some (.bool true) := Eq.trans rfl rfl
theorem clone_own {e : TypeId} {h : Heap} {v : Value} {l : List Int} {K : Value → Heap → Prop} (hv : Ints h v l) (hl : l.length ≤ 4398046511104)
  (H : ∀ r h', OwnI h' r l → Ext h h' → (∀ b, blk r b → h.size ≤ b) → K r h') : rowK #[] e 0 [] h fun v2 h3 => appK (.int .i64 0) e 1 8 v2 v h3 K := by
 refine zbZ (c' := #[]) (by kernel_rfl) fun b h1 r1 e1 n1 => ?_
 refine zmY (n := 0) (cs := []) (.inr ⟨b, 0, [], e, rfl, Nat.le_refl _, rfl, rfl, r1⟩) (hv.ext e1).sl vi_one rfl (by omega) (by omega) fun s' h2 o2 f2 n2 => ?_
 rw [Nat.zero_add, List.nil_append] at o2
 refine H s' h2 o2 (e1.then_fr f2 fun i hi => by rw [show i = b from hi]; exact n1) fun k hk => ?_
 rcases n2 k hk with h3 | h3
 ·rw [show k = b from h3]; exact n1
 ·exact Nat.le_trans e1.1 h3
theorem own_one {h : Heap} {v : Value} {l : List Int} (o : OwnI h v l) : zam v = true := by
 rcases o with ⟨rfl, _⟩ | ⟨b, cap, r, e, rfl, _⟩ <;> rfl
end Go.Proofs.YtojmncnelbnceaaGreatDoor
namespace Go.Proofs.YtojmncnelbnceaaGreatDoor
open Go Go.Crisp
attribute [local irreducible] FCall rowK newK stK iteK vK qK drawK gK joinK loopK mkK appK cpyK zgP zga newmK
open _root_.Go.Proofs.Tryz
section
structure Bag (M : Nat → Prop) (h : Heap) (bx bm : Nat) (fr : Value) (w : Nat) (all : List (Value × List Int)) : Prop where
 own : ∀ p ∈ all, OwnI h p.1 p.2 ∧ p.2.length = w ∧ ∀ k, blk p.1 k → k ≠ bx ∧ k ≠ bm ∧ ¬ blk fr k ∧ M k
 apart : all.Pairwise fun a b => ∀ k, blk a.1 k → ¬ blk b.1 k
theorem Bag.perm {M : Nat → Prop} {h : Heap} {bx bm : Nat} {fr : Value} {w : Nat} {all all' : List (Value × List Int)} (B : Bag M h bx bm fr w all) (p : all'.Perm all) : Bag M h bx bm fr w all' where
 own := fun q hq => B.own q (p.mem_iff.1 hq)
 apart := (p.pairwise_iff (fun {x y} hxy k hk hk' => hxy k hk' hk)).2 B.apart
theorem Bag.fr {M Q : Nat → Prop} {h h' : Heap} {bx bm : Nat} {fr : Value} {w : Nat} {all : List (Value × List Int)} (B : Bag M h bx bm fr w all) (f : Fr Q h h') (q : ∀ p ∈ all, ∀ k, blk p.1 k → ¬ Q k) : Bag M h' bx bm fr w all where
 own := fun p hp => ⟨(B.own p hp).1.fr f (q p hp), (B.own p hp).2⟩
 apart := B.apart
theorem Bag.ext {M : Nat → Prop} {h h' : Heap} {bx bm : Nat} {fr : Value} {w : Nat} {all : List (Value × List Int)} (B : Bag M h bx bm fr w all) (e : Ext h h') : Bag M h' bx bm fr w all := B.fr (Q := fun _ => False) e.fr fun _ _ _ _ => id
theorem Bag.mono {M M' : Nat → Prop} {h : Heap} {bx bm : Nat} {fr fr' : Value} {w : Nat} {all : List (Value × List Int)} (B : Bag M h bx bm fr w all) (hM : ∀ k, M k → M' k) (hf : ∀ p ∈ all, ∀ k, blk p.1 k → ¬ blk fr' k) : Bag M' h bx bm fr' w all where
 own := fun p hp => ⟨(B.own p hp).1, (B.own p hp).2.1, fun k hk => ⟨((B.own p hp).2.2 k hk).1, ((B.own p hp).2.2 k hk).2.1, hf p hp k hk, hM k ((B.own p hp).2.2 k hk).2.2.2⟩⟩
 apart := B.apart
structure zlc (M : Nat → Prop) (h : Heap) (bx bm : Nat) (fr : Value) (t : TypeId) (room w : Nat) (es : List (Int × (Value × List Int))) (fv xs : List (Value × List Int)) : Prop where
 var : h[bx]? = some (.cells #[.int .i64 room, .int .i64 w, .map (some bm), fr] t (0, 0))
 map : MapI h bm (kMap Prod.fst es)
 free : Own 1 h fr fv.length (fv.map Prod.fst)
 bag : Bag M h bx bm fr w (es.map Prod.snd ++ fv ++ xs)
 ap : bx ≠ bm ∧ ¬ blk fr bx ∧ ¬ blk fr bm
 inM : M bx ∧ M bm ∧ ∀ k, blk fr k → M k
 lt : ∀ k, M k → k < h.size
 nums : 1 ≤ room ∧ room ≤ 65536 ∧ w ≤ 262144
 keys : ∀ e ∈ es, (Lit.int .i64 e.1).wf = true
 len : es.length ≤ room
 tot : es.length + fv.length + xs.length ≤ room + 1
def zco (M : Nat → Prop) (h : Heap) (v : Value) (room w : Nat) (rs : List (Int × List Int)) : Prop :=
 ∃ bx bm fr t es fv, v = .pointer (some ⟨bx, 0, none⟩) ∧ zlc M h bx bm fr t room w es fv [] ∧ rs = kMap Prod.snd es ∧ es.length + fv.length ≤ room
theorem zlc.fr {M Q : Nat → Prop} {h h' : Heap} {bx bm : Nat} {fr : Value} {t : TypeId} {room w : Nat} {es : List (Int × (Value × List Int))} {fv xs : List (Value × List Int)} (R : zlc M h bx bm fr t room w es fv xs) (f : Fr Q h h') (q : ∀ b, b < h.size → M b → ¬ Q b) : zlc M h' bx bm fr t room w es fv xs :=
 { R with
  var := f.row R.var (q bx (R.lt _ R.inM.1) R.inM.1)
  map := R.map.fr f (q bm (R.lt _ R.inM.2.1) R.inM.2.1)
  free := R.free.fr f fun k hk => q k (R.lt _ (R.inM.2.2 k hk)) (R.inM.2.2 k hk)
  bag := R.bag.fr f fun p hp k hk => q k (R.lt _ ((R.bag.own p hp).2.2 k hk).2.2.2) ((R.bag.own p hp).2.2 k hk).2.2.2
  lt := fun k hk => Nat.lt_of_lt_of_le (R.lt k hk) f.1 }
theorem zco.fr {M Q : Nat → Prop} {h h' : Heap} {v : Value} {room w : Nat} {rs : List (Int × List Int)} (H : zco M h v room w rs) (f : Fr Q h h') (q : ∀ b, b < h.size → M b → ¬ Q b) : zco M h' v room w rs := by
 obtain ⟨bx, bm, fr, t, es, fv, rfl, R, h1, h2⟩ := H
 exact ⟨bx, bm, fr, t, es, fv, rfl, R.fr f q, h1, h2⟩
theorem zco.ext {M : Nat → Prop} {h h' : Heap} {v : Value} {room w : Nat} {rs : List (Int × List Int)} (H : zco M h v room w rs) (e : Ext h h') : zco M h' v room w rs := H.fr (Q := fun _ => False) e.fr fun _ _ _ => id
theorem zco.lt {M : Nat → Prop} {h : Heap} {v : Value} {room w : Nat} {rs : List (Int × List Int)} (H : zco M h v room w rs) {b : Nat} (hb : M b) : b < h.size := by
 obtain ⟨bx, bm, fr, t, es, fv, rfl, R, h1, h2⟩ := H
 exact R.lt b hb
theorem zco.nodup {M : Nat → Prop} {h : Heap} {v : Value} {room w : Nat} {rs : List (Int × List Int)} (H : zco M h v room w rs) : (rs.map Prod.fst).Nodup := by
 obtain ⟨bx, bm, fr, t, es, fv, rfl, R, rfl, h2⟩ := H
 rw [zh4, ← zh4 Prod.fst]
 exact R.map.nodup
theorem zco.nums {M : Nat → Prop} {h : Heap} {v : Value} {room w : Nat} {rs : List (Int × List Int)} (H : zco M h v room w rs) : 1 ≤ room ∧ room ≤ 65536 ∧ w ≤ 262144 ∧ rs.length ≤ room ∧ (∀ p ∈ rs, p.2.length = w ∧ (Lit.int .i64 p.1).wf = true) := by
 obtain ⟨bx, bm, fr, t, es, fv, rfl, R, rfl, h2⟩ := H
 refine ⟨R.nums.1, R.nums.2.1, R.nums.2.2, by simpa [kMap] using R.len, fun p hp => ?_⟩
 obtain ⟨e, he, rfl⟩ := List.mem_map.1 hp
 exact ⟨(R.bag.own e.2 (by simp; exact .inl ⟨e.1, he⟩)).2.1, R.keys e he⟩
def roomN (a : Int) : Nat := (min (max 1 a) 65536).toNat
def zcR (a : Int) : Nat := (min (max 0 a) 262144).toNat
theorem c_RNew {h : Heap} (a b : Int) : FCall prog zlM #[.int .i64 a, .int .i64 b] h fun r h' => ∃ M, zco M h' r (roomN a) (zcR b) [] ∧ Ext h h' ∧ ∀ k, M k → h.size ≤ k := by
 apply ok_ring_New
 unfold zm6
 have ha : min (max 1 a) 65536 = ((roomN a : Nat) : Int) := by unfold roomN; omega
 have hb : min (max 0 b) 262144 = ((zcR b : Nat) : Int) := by unfold zcR; omega
 have h1 : 1 ≤ roomN a ∧ roomN a ≤ 65536 := by unfold roomN; omega
 have h2 : zcR b ≤ 262144 := by unfold zcR; omega
 simp only [go_sem, ha, hb]
 generalize roomN a = room at h1
 generalize zcR b = w at h2
 refine new_map fun bm h3 m3 e3 n3 => ?_
 rw [vK_map _ #[.int .i64 room, .int .i64 w, .map (some bm), .slice none 0 0] (by kernel_rfl)]
 refine zag (c := #[.int .i64 room, .int .i64 w, .map (some bm), .slice none 0 0]) fun bx h4 r4' e4 n4 => ?_
 obtain ⟨t, r4⟩ : ∃ t, h4[bx]? = some (.cells #[.int .i64 room, .int .i64 w, .map (some bm), .slice none 0 0] t (0, 0)) := ⟨_, r4'⟩
 have lm := m3.lt
 refine ⟨fun k => k = bx ∨ k = bm, ⟨bx, bm, .slice none 0 0, t, [], [], rfl, ?_, rfl, by simp⟩, e3.trans e4, ?_⟩
 ·exact {
   var := r4, map := m3.ext e4, free := .inl ⟨rfl, rfl, rfl⟩, bag := ⟨fun p hp => absurd hp (by simp), List.Pairwise.nil⟩
   ap := ⟨by omega, fun h => h.elim, fun h => h.elim⟩, inM := ⟨.inl rfl, .inr rfl, fun k hk => hk.elim⟩
   lt := fun k hk => by
    rcases hk with rfl | rfl
    ·exact zaB r4
    ·exact (m3.ext e4).lt
   nums := ⟨h1.1, h1.2, h2⟩, keys := fun e he => absurd he (by simp), len := by simp, tot := by simp }
 ·rintro k (rfl | rfl)
  ·exact Nat.le_trans e3.1 n4
  ·exact n3
section
variable {M : Nat → Prop} {h : Heap} {v : Value} {room w : Nat} {rs : List (Int × List Int)}
theorem c_RWidth (H : zco M h v room w rs) : FCall prog zdS #[v] h fun r h' => r = .int .i64 (w : Nat) ∧ h' = h := by
 obtain ⟨bx, bm, fr, t, es, fv, rfl, R, rfl, h2⟩ := H
 apply zkK
 unfold zfJ
 simp only [go_sem, zac R.var]
 exact ⟨trivial, trivial⟩
theorem c_RWords (H : zco M h v room w rs) : FCall prog zdR #[v] h fun r h' => r = .int .i64 ((room : Int) * w) ∧ h' = h := by
 obtain ⟨bx, bm, fr, t, es, fv, rfl, R, rfl, h2⟩ := H
 apply zkJ
 unfold zfI
 have hn := R.nums
 have hm : room * w ≤ 65536 * 262144 := Nat.mul_le_mul hn.2.1 hn.2.2
 have hm' : ((room * w : Nat) : Int) = (room : Int) * w := Int.natCast_mul ..
 simp only [go_sem, zac R.var]
 rw [w64 (by omega) (by omega)]
 exact ⟨rfl, trivial⟩
theorem c_RLen (H : zco M h v room w rs) : FCall prog zfu #[v] h fun r h' => r = .int .i64 (rs.length : Nat) ∧ h' = h := by
 obtain ⟨bx, bm, fr, t, es, fv, rfl, R, rfl, h2⟩ := H
 apply zmA
 unfold zhm
 simp only [go_sem, zac R.var, zqC R.map]
 exact ⟨by simp [kMap], trivial⟩
theorem c_RHas (H : zco M h v room w rs) (j : Int) : FCall prog zdx #[v, .int .i64 j] h fun r h' => r = .bool (kGet j rs).isSome ∧ h' = h := by
 obtain ⟨bx, bm, fr, t, es, fv, rfl, R, rfl, h2⟩ := H
 apply zmB
 unfold zhn
 simp only [go_sem, zac R.var, zkT R.map]
 rw [zfX, zfX]
 cases kGet j es with
 | none => simp only [Option.map_none, lookR, cond_true, go_sem]; exact ⟨rfl, trivial⟩
 | some p => simp only [Option.map_some, lookR, cond_true, go_sem]; exact ⟨rfl, trivial⟩
theorem zpB {h : Heap} {v : Value} {l : List Int} (hv : Ints h v l) (hl : l.length ≤ 4398046511104) :
  FCall prog zaF #[v] h fun r h' => OwnI h' r l ∧ Ext h h' ∧ ∀ b, blk r b → h.size ≤ b := by
 apply zb6
 unfold zbg
 have hv0 := hv
 obtain ⟨a, cap, rfl, hv⟩ := hv
 cases a with
 | none =>
  simp only [eql_nil_none, go_sem]
  rcases hv with rfl | ⟨b, o, h1, _⟩
  ·exact ⟨own_nil, Ext.refl h, fun b hb => hb.elim⟩
  ·cases h1
 | some a =>
  simp only [eql_nil_some, go_sem]
  exact clone_own hv0 hl fun r h' o e n => ⟨o, e, n⟩
theorem c_RRow (H : zco M h v room w rs) (j : Int) : FCall prog zfs #[v, .int .i64 j] h fun r h' => ∃ u, r = .tuple #[u, .bool (kGet j rs).isSome] ∧ OwnI h' u ((kGet j rs).getD []) ∧ Ext h h' ∧ ∀ b, blk u b → h.size ≤ b := by
 have hnum := H.nums
 obtain ⟨bx, bm, fr, t, es, fv, rfl, R, rfl, h2⟩ := H
 apply zmy
 unfold zhk
 simp only [go_sem, zac R.var, zkT R.map]
 rw [zfX, zfX]
 cases hg : kGet j es with
 | none =>
  simp only [Option.map_none, lookR, cond_true, go_sem]
  refine (zpB (v := .slice none 0 0) (l := []) ⟨none, 0, rfl, .inl rfl⟩ (by simp)).mono ?_
  rintro u h1 ⟨o, e, n⟩
  exact ⟨u, rfl, o, e, n⟩
 | some p =>
  simp only [Option.map_some, lookR, cond_true, go_sem]
  have hp := R.bag.own p (by simp; exact .inl ⟨j, zqH hg⟩)
  refine (zpB hp.1.ints (by rw [hp.2.1]; omega)).mono ?_
  rintro u h1 ⟨o, e, n⟩
  exact ⟨u, rfl, o, e, n⟩
def minL : List Int → Int
 | [] => 0
 | x :: l => l.foldl min x
theorem minL_perm {a b : List Int} (h : a.Perm b) : minL a = minL b := by
 have key : ∀ (l : List Int) (x : Int), (∀ y ∈ x :: l, l.foldl min x ≤ y) ∧ l.foldl min x ∈ x :: l := by
  intro l
  induction l with
  | nil => intro x; simp
  | cons z l ih =>
   intro x
   rw [List.foldl_cons]
   obtain ⟨h1, h2⟩ := ih (min x z)
   have h3 := h1 (min x z) (List.mem_cons_self ..)
   refine ⟨fun y hy => ?_, ?_⟩
   ·rcases List.mem_cons.1 hy with rfl | hy
    ·omega
    ·rcases List.mem_cons.1 hy with rfl | hy
     ·omega
     ·exact h1 y (List.mem_cons_of_mem _ hy)
   ·rcases List.mem_cons.1 h2 with h2 | h2
    ·rw [h2]
     rcases Int.le_total x z with hxz | hxz
     ·rw [Int.min_eq_left hxz]; simp
     ·rw [Int.min_eq_right hxz]; simp
    ·exact List.mem_cons_of_mem _ (List.mem_cons_of_mem _ h2)
 cases a with
 | nil => have := h.nil_eq; subst this; rfl
 | cons x l =>
  cases b with
  | nil => have := h.symm.nil_eq; cases this
  | cons y m =>
   obtain ⟨a1, a2⟩ := key l x
   obtain ⟨b1, b2⟩ := key m y
   exact Int.le_antisymm (a1 _ (h.mem_iff.2 b2)) (b1 _ (h.mem_iff.1 a2))
theorem minL_push {l : List Int} (h : l ≠ []) (x : Int) : minL (l ++ [x]) = min (minL l) x := by
 cases l with
 | nil => exact absurd rfl h
 | cons y l => simp [minL]
theorem c_Min64 {h : Heap} {v : Value} {l : List Int} (hv : Ints h v l) (h0 : l ≠ []) (hl : l.length ≤ 4398046511104) :
  FCall prog zbE #[v] h fun r h' => r = .int .i64 (minL l) ∧ h' = h := by
 apply zeJ
 unfold zcn
 have hp : 0 < l.length := List.length_pos_iff.2 h0
 have hs := hv.sl
 obtain ⟨a, cap, rfl, _⟩ := hv
 refine zat (fun xs h' => xs = [] ∧ h' = h) ?_ ?_
 ·simp only [go_sem]
  refine zab (fun h1 => by omega) (fun _ => ⟨trivial, trivial⟩)
 ·rintro _ ρj h' ⟨rfl, hh⟩
  subst hh
  obtain ⟨p, hp0, hq0⟩ := hs.at1 (k := .i64) (i := 0) hp
  rw [List.getElem_map] at hq0
  rw [show ((0 : Nat) : Int) = 0 from rfl] at hp0
  simp only [go_sem, hp0, hq0]
  refine zbh (fun d xs h'' => h'' = h' ∧ ∃ (k : Nat), 1 ≤ k ∧ k ≤ l.length ∧ d = l.length - k ∧ xs = [.int .i64 (minL (l.take k)), .int .i64 (k : Int)]) (l.length - 1)
   ⟨rfl, 1, by omega, by omega, rfl, ?_⟩ ?_
  ·cases l with
   | nil => exact absurd rfl h0
   | cons x l => rfl
  ·rintro d _ ρj _ again ⟨rfl, k, h1, hk, rfl, rfl⟩ hag
   simp only [go_sem]
   refine zab (fun hlt => ?_) (fun hge => ?_)
   ·have hk' : k < l.length := by omega
    obtain ⟨p, hp1, hq1⟩ := hs.at1 (k := .i64) hk'
    rw [List.getElem_map] at hq1
    simp only [go_sem, hp1, hq1, vi]
    rw [w64 (by omega) (by omega)]
    refine hag _ _ (l.length - (k + 1)) (by omega) ⟨rfl, k + 1, by omega, by omega, rfl, ?_⟩
    have hne : l.take k ≠ [] := fun h => by
     have h9 := congrArg List.length h
     rw [List.length_take, List.length_nil] at h9
     omega
    rw [List.take_succ_eq_append_getElem hk', minL_push hne]
    rfl
   ·rw [List.take_of_length_le (by omega)]
    exact ⟨rfl, trivial⟩
theorem c_RFirst (H : zco M h v room w rs) : FCall prog zdT #[v] h fun r h' => r = .tuple #[.int .i64 (minL (rs.map Prod.fst)), .bool (!decide (rs = []))] ∧ Ext h h' := by
 have hnum := H.nums
 obtain ⟨bx, bm, fr, t, es, fv, rfl, R, rfl, h2⟩ := H
 apply zkL
 unfold zfK
 by_cases h0 : es = []
 ·subst h0
  simp only [go_sem, zac R.var, zqC R.map, kMap, List.map_nil, List.length_nil, Int.natCast_zero]
  exact ⟨rfl, Ext.refl h⟩
 ·have hl : ¬ (((kMap Prod.fst es).length : Nat) : Int) = 0 := by
   simp only [kMap, List.length_map]
   have := List.length_pos_iff.2 h0
   omega
  simp only [go_sem, zac R.var, zqC R.map, hl]
  apply zbY
  unfold zaV
  refine zag fun b1 h1 r1 e1 n1 => ?_
  have hlen : (kMap Prod.fst es).length ≤ 1000000 := by
   have := R.len; have := R.nums
   simp only [kMap, List.length_map]; omega
  refine (c_Collect64 r1 (R.map.ext e1) (fun p hp => ?_) hlen).mono ?_
  ·obtain ⟨e, he, rfl⟩ := List.mem_map.1 hp
   exact R.keys e he
  rintro u h3 ⟨ss, hperm, o3, e3, n3⟩
  have hsl : ss.length = es.length := by rw [hperm.length_eq]; simp [kMap]
  refine (c_Min64 o3.ints (by intro h; subst h; simp at hsl; exact h0 (List.eq_nil_of_length_eq_zero hsl.symm)) (by have := R.len; have := R.nums; omega)).mono ?_
  rintro _ h4 ⟨rfl, rfl⟩
  refine ⟨?_, e1.trans e3⟩
  rw [minL_perm hperm, zh4, zh4]
  have : ¬ kMap Prod.snd es = [] := by simpa [kMap] using h0
  simp [this]
end
end
end Go.Proofs.YtojmncnelbnceaaGreatDoor
