/- Several texts of this session, one behind the other, without what this claim does not need (put together by its program pack.py). Conditions: none. -/
import Derived.Test.YtdbebmafgpdfhaaGreatDoorMk3
import Derived.MapKept
import Derived.Test.YtdbebmafgpdfhaaGreatDoorProg
import Derived.Shelf.SlIterI.Sorted
set_option linter.unusedVariables false
set_option linter.unusedSimpArgs false
set_option maxRecDepth 100000
namespace Go.Proofs.YtdbebmafgpdfhaaGreatDoor
open Go Go.Crisp
attribute [local irreducible] FCall rowK newK stK iteK vK qK drawK gK joinK loopK mkK appK cpyK zni zla bsK clK
open _root_.Go.Proofs.Tryz
def fitsZ (w h c : Int) : Prop := 1 ≤ w ∧ w ≤ 65536 ∧ 1 ≤ h ∧ h ≤ 65536 ∧ (c = 1 ∨ c = 3) ∧ w * h * c ≤ 268435456
instance (w h c : Int) : Decidable (fitsZ w h c) := by unfold fitsZ; infer_instance
theorem c_Fits {h : Heap} {x y c : Int} : FCall prog zdR #[.int .i64 x, .int .i64 y, .int .i64 c] h fun r h' => r = .bool (decide (fitsZ x y c)) ∧ h' = h := by
 apply zo8
 unfold zjB
 simp only [go_sem]
 refine ⟨?_, trivial⟩
 congr 1
 rw [decide_eq_decide]
 unfold fitsZ
 by_cases h1 : 1 ≤ x ∧ x ≤ 65536 ∧ 1 ≤ y ∧ y ≤ 65536 ∧ (c = 1 ∨ c = 3)
 ·have hm := ziz (a := x) (A := 65536) (b := y) (B := 65536) (by omega) (by omega) (by omega) (by omega)
  rw [w64 (n := x * y) (by omega) (by omega), w64 (n := x * y * c) (by rcases h1.2.2.2.2 with h | h <;> subst h <;> omega) (by rcases h1.2.2.2.2 with h | h <;> subst h <;> omega)]
  omega
 ·omega
theorem c_r9Fits {h : Heap} {x y c : Int} : FCall prog zgo #[.int .i64 x, .int .i64 y, .int .i64 c] h fun r h' => r = .bool (decide (fitsZ x y c)) ∧ h' = h := by
 apply zqI
 unfold zkH
 simp only [go_sem]
 refine zab (fun h0 => ?_) (fun h0 => ?_)
 ·refine ⟨?_, trivial⟩
  rw [decide_eq_false]
  unfold fitsZ; omega
 refine zab (fun h1 => ?_) (fun h1 => ?_)
 ·refine ⟨?_, trivial⟩
  rw [decide_eq_false]
  unfold fitsZ; omega
 have hm := ziz (a := x) (A := 65536) (b := y) (B := 65536) (by omega) (by omega) (by omega) (by omega)
 rw [w64 (n := x * y) (by omega) (by omega), zek _ _ _ _ (by omega), zaa]
 simp only [go_sem]
 refine ⟨?_, trivial⟩
 congr 1
 rw [decide_eq_decide]
 unfold fitsZ
 have hc : c = 1 ∨ c = 3 := by omega
 rcases hc with hc | hc <;> subst hc
 ·rw [show Int.tdiv 268435456 1 = 268435456 from by decide, w64 (by omega) (by omega)]; omega
 ·rw [show Int.tdiv 268435456 3 = 89478485 from by decide, w64 (by omega) (by omega)]; omega
def sizeW (o : OpD) (w : Int) : Int := if o.kind = 3 then o.w else w
def sizeH (o : OpD) (h : Int) : Int := if o.kind = 3 then o.hh else h
def allC (c : Int) : List OpD → Int → Int → Int
 | [], _, _ => 0
 | o :: l, w, h => if makeC o w h ≠ 0 then makeC o w h else if ¬ fitsZ (sizeW o w) (sizeH o h) c then 5 else allC c l (sizeW o w) (sizeH o h)
def allS : List OpD → Int → Int → List Stg
 | [], _, _ => []
 | o :: l, w, h => makeS o w h :: allS l (sizeW o w) (sizeH o h)
def opsC (l : List OpD) (w h c : Int) : Int := if 16 < l.length then 6 else if ¬ fitsZ w h c then 5 else allC c l w h
def rStgP : Rp Stg where
 w := 3
 R := fun Z h cs s => ∃ p q, cs = [p, q, .int .i64 s.border] ∧ IsTbl Z h p s.x ∧ IsTbl Z h q s.y
 len := by rintro _ _ _ _ ⟨x, y, rfl, _⟩; rfl
 one := by
  rintro _ _ _ _ ⟨x, y, rfl, H, K⟩
  exact zad (zeI H) (zad (zeI K) (zad rfl zao))
 fr := by rintro _ _ _ _ _ _ ⟨x, y, rfl, H, K⟩ f q; exact ⟨x, y, rfl, Rp.Pt.fr H f q, Rp.Pt.fr K f q⟩
 mono := by rintro _ _ _ _ _ ⟨x, y, rfl, H, K⟩ q; exact ⟨x, y, rfl, Rp.Pt.mono H q, Rp.Pt.mono K q⟩
def AllOut (e : Rp Stg) (h : Heap) (code : Int) (l : List Stg) (r : Value) (h' : Heap) : Prop := ∃ v, r = .tuple #[v, .int .i64 code] ∧ Ext h h' ∧ (code ≠ 0 → v = .slice none 0 0) ∧ (code = 0 → NewR e h h' v l)
structure OpsWf (l : List OpD) : Prop where
 wf : ∀ o ∈ l, o.Wf
 len : ∀ o ∈ l, o.x.length ≤ 17592186044416 ∧ o.y.length ≤ 17592186044416
 few : l.length ≤ 4398046511104
theorem size_I64 {o : OpD} (W : o.Wf) {w h : Int} (hw : I64 w) (hh : I64 h) : I64 (sizeW o w) ∧ I64 (sizeH o h) := by
 unfold sizeW sizeH
 constructor
 ·split; exact W.w; exact hw
 ·split; exact W.hh; exact hh
theorem drop_cons {α : Type} {l : List α} {k : Nat} (h : k < l.length) : l.drop k = l[k] :: l.drop (k + 1) := List.drop_eq_getElem_cons h
theorem c_opAll {Z : Nat → Prop} {h : Heap} (G : GlobB h) {v : Value} {l : List OpD} (H : Rp.Sl rOp Z h v l) (W : OpsWf l) {w hh c : Int} (hw : I64 w) (hhh : I64 hh) :
  FCall prog zrE #[v, .int .i64 w, .int .i64 hh, .int .i64 c] h (AllOut rStgP h (opsC l w hh c) (allS l w hh)) := by
 apply ok_op_All
 unfold sh_op_All
 obtain ⟨a, cap, e⟩ := H.isSl
 have e2 : zag v = some (.int .i64 (l.length : Int)) := by rw [e]; rfl
 rw [e2, zaa]
 have few := W.few
 have ro : opsC l w hh c = if 16 < l.length then 6 else if ¬ fitsZ w hh c then 5 else allC c l w hh := rfl
 simp only [go_sem]
 refine zab (fun h0 => ?_) (fun h0 => ?_)
 ·rw [if_pos (by omega)] at ro
  rw [ro]
  exact ⟨_, rfl, Ext.refl _, fun _ => rfl, fun h => by cases h⟩
 rw [if_neg (by omega)] at ro
 refine c_Fits.mono fun r h1 ⟨e, wq⟩ => ?_
 have wq := wq.symm
 subst e wq
 simp only [go_sem]
 refine zab (fun h1 => ?_) (fun h1 => ?_)
 ·rw [if_pos h1] at ro
  rw [ro]
  exact ⟨_, rfl, Ext.refl _, fun _ => rfl, fun h => by cases h⟩
 rw [if_neg h1] at ro
 try rw [e2, zaa]
 refine zaD (α := Int × Int × Value) l.length 0 (fun k a => [.int .i64 a.1, .int .i64 a.2.1, a.2.2, .int .i64 (k : Int)])
  (fun k a h' => I64 a.1 ∧ I64 a.2.1 ∧ opsC l w hh c = allC c (l.drop k) a.1 a.2.1 ∧ ∃ done, done.length = k ∧ allS l w hh = done ++ allS (l.drop k) a.1 a.2.1 ∧ NewR rStgP h h' a.2.2 done) (w, hh, .slice none 0 0) rfl (Nat.zero_le _)
  ⟨hw, hhh, ro, [], rfl, rfl, NewR.nil (Ext.refl _)⟩ fun k a h2 again ρj _ hk ⟨iw, ih, hc, done, dl, hd, N⟩ Hag => ?_
 obtain ⟨w1, hh1, out⟩ := a
 simp only [go_sem]
 have N : NewR rStgP h h2 out done := N
 have iw : I64 w1 := iw
 have ih : I64 hh1 := ih
 refine zab (fun h3 => ?_) (fun h3 => ?_)
 ·have hk' : k < l.length := by omega
  have hc : opsC l w hh c = allC c (l.drop k) w1 hh1 := hc
  have hd : allS l w hh = done ++ allS (l.drop k) w1 hh1 := hd
  rw [drop_cons hk'] at hc hd
  have hm := List.getElem_mem hk'
  have Wo := W.wf _ hm
  have Lo := W.len _ hm
  obtain ⟨p, cs, q1, q2, Ho⟩ := Rp.Sl.atw (e := rOp) (H.ext N.exts) (show 0 < 9 by omega) (k := .i64) hk'
  have q1 : idxV 9 v (.int .i64 (k : Int)) = some p := q1
  have q2 : ldsV 9 h2 p = some (.agg cs.toArray) := q2
  rw [q1, zaa, q2, zaa]
  have hlen : cs.length = 9 := rOp.len Ho
  refine za1 (cs := cs) hlen (rOp.one Ho) hlen fun b h4 r4 e4 n4 => ?_
  rw [zav r4 9 hlen, zaa]
  have G4 := G.ext (N.exts.trans e4)
  have Ho4 := rOp.ext Ho e4
  generalize l[k] = o at *
  refine (c_Make G4 Ho4 Wo (by omega) (by omega) iw ih).mono fun r h5 ⟨sv, e, e5, s0, s1⟩ => ?_
  subst e
  simp only [go_sem]
  have so : ∃ ds : List Value, sv = .agg ds.toArray ∧ ds.length = 3 ∧ (∀ x ∈ ds, zar x = true) ∧ (makeC o w1 hh1 = 0 → rStgP.R (Since h4 h5) h5 ds (makeS o w1 hh1)) := by
   by_cases hm : makeC o w1 hh1 = 0
   ·obtain ⟨p, q, e, t1, t2⟩ := s1 hm
    exact ⟨[p, q, .int .i64 (makeS o w1 hh1).border], e, rfl, zad (zeI t1) (zad (zeI t2) (zad rfl zao)), fun _ => ⟨p, q, rfl, t1, t2⟩⟩
   ·exact ⟨[.pointer none, .pointer none, .int .i64 0], s0 hm, rfl, zad rfl (zad rfl (zad rfl zao)), fun h => absurd h hm⟩
  obtain ⟨ds, rfl, dl3, d1, dR⟩ := so
  refine za1 (cs := ds) dl3 d1 dl3 fun b2 h6 r6 e6 n6 => ?_
  have E26 : Ext h2 h6 := e4.trans (e5.trans e6)
  refine zab (fun hc1 => ?_) (fun hc1 => ?_)
  ·unfold allC at hc
   rw [if_pos hc1] at hc
   rw [hc]
   exact ⟨_, rfl, N.exts.trans E26, fun _ => rfl, fun h => absurd h hc1⟩
  have hc1 : makeC o w1 hh1 = 0 := Decidable.of_not_not hc1
  unfold allC at hc
  rw [if_neg (by simpa using hc1)] at hc
  have r4' := (e5.trans e6).row r4
  rw [zav r4' 9 hlen, zaa]
  refine (c_opSize (rOp.ext Ho4 (e5.trans e6))).mono fun r h7 ⟨e, e7⟩ => ?_
  subst e
  simp only [go_sem]
  refine c_Fits.mono fun r h8 ⟨e, wq⟩ => ?_
  have wq := wq.symm
  subst e wq
  simp only [go_sem]
  refine zab (fun h8 => ?_) (fun h8 => ?_)
  ·have h8 : ¬ fitsZ (sizeW o w1) (sizeH o hh1) c := h8
   rw [if_pos h8] at hc
   rw [hc]
   exact ⟨_, rfl, N.exts.trans (E26.trans e7), fun _ => rfl, fun h => by cases h⟩
  have h8 : ¬ ¬ fitsZ (sizeW o w1) (sizeH o hh1) c := h8
  rw [if_neg h8] at hc
  rw [zav (e7.row r6) 3 dl3, zaa]
  have E27 := E26.trans e7
  have N7 := N.ext E27
  have R7 := rStgP.ext (dR hc1) (e6.trans e7)
  refine NewR.push (e := rStgP) (Y := Since h4 h5) N7 R7 (fun b hb => ⟨Nat.le_trans (N.exts.trans e4).1 hb.1, ?_, fun hv => ?_⟩) rfl rfl (by rw [dl]; omega) (by rw [dl]; omega) fun s' h' N' _ _ => ?_
  ·have := hb.2
   have := e6.1
   have := e7.1
   omega
  ·have h9 := N.lt hv
   have h10 := hb.1
   have h11 := e4.1
   omega
  ·try simp only [go_sem]
   rw [w64 (by omega) (by omega)]
   have hs := size_I64 Wo iw ih
   refine Hag (sizeW o w1, sizeH o hh1, s') h' hk' ⟨hs.1, hs.2, hc, done ++ [makeS o w1 hh1], by simp [dl], ?_, N'⟩
   rw [List.append_assoc]
   exact hd
 ·have hkn : k = l.length := by omega
  subst hkn
  have hc : opsC l w hh c = allC c (l.drop l.length) w1 hh1 := hc
  have hd : allS l w hh = done ++ allS (l.drop l.length) w1 hh1 := hd
  rw [List.drop_length] at hc hd
  have hc : opsC l w hh c = 0 := hc
  rw [hc, hd]
  refine ⟨_, rfl, N.exts, fun h => absurd rfl h, fun _ => ?_⟩
  rw [show allS [] w1 hh1 = [] from rfl, List.append_nil]
  exact N
theorem c_r12All {Z : Nat → Prop} {h : Heap} {v : Value} {l : List OpD} (H : Rp.Sl rOp Z h v l) (W : OpsWf l) {w hh c : Int} (hw : I64 w) (hhh : I64 hh) :
  FCall prog zkh #[v, .int .i64 w, .int .i64 hh, .int .i64 c] h (AllOut rStg h (opsC l w hh c) (allS l w hh)) := by
 apply ok_ref12_All
 unfold zmx
 obtain ⟨a, cap, e⟩ := H.isSl
 have e2 : zag v = some (.int .i64 (l.length : Int)) := by rw [e]; rfl
 rw [e2, zaa]
 have few := W.few
 have ro : opsC l w hh c = if 16 < l.length then 6 else if ¬ fitsZ w hh c then 5 else allC c l w hh := rfl
 simp only [go_sem]
 refine zab (fun h0 => ?_) (fun h0 => ?_)
 ·rw [if_pos (by omega)] at ro
  rw [ro]
  exact ⟨_, rfl, Ext.refl _, fun _ => rfl, fun h => by cases h⟩
 rw [if_neg (by omega)] at ro
 refine c_r9Fits.mono fun r h1 ⟨e, wq⟩ => ?_
 have wq := wq.symm
 subst e wq
 simp only [go_sem]
 refine zab (fun h1 => ?_) (fun h1 => ?_)
 ·rw [if_pos h1] at ro
  rw [ro]
  exact ⟨_, rfl, Ext.refl _, fun _ => rfl, fun h => by cases h⟩
 rw [if_neg h1] at ro
 try rw [e2, zaa]
 refine zaD (α := Int × Int × Value) l.length 0 (fun k a => [.int .i64 a.1, .int .i64 a.2.1, a.2.2, .int .i64 (k : Int)])
  (fun k a h' => I64 a.1 ∧ I64 a.2.1 ∧ opsC l w hh c = allC c (l.drop k) a.1 a.2.1 ∧ ∃ done, done.length = k ∧ allS l w hh = done ++ allS (l.drop k) a.1 a.2.1 ∧ NewR rStg h h' a.2.2 done) (w, hh, .slice none 0 0) rfl (Nat.zero_le _)
  ⟨hw, hhh, ro, [], rfl, rfl, NewR.nil (Ext.refl _)⟩ fun k a h2 again ρj _ hk ⟨iw, ih, hc, done, dl, hd, N⟩ Hag => ?_
 obtain ⟨w1, hh1, out⟩ := a
 simp only [go_sem]
 have N : NewR rStg h h2 out done := N
 have iw : I64 w1 := iw
 have ih : I64 hh1 := ih
 refine zab (fun h3 => ?_) (fun h3 => ?_)
 ·have hk' : k < l.length := by omega
  have hc : opsC l w hh c = allC c (l.drop k) w1 hh1 := hc
  have hd : allS l w hh = done ++ allS (l.drop k) w1 hh1 := hd
  rw [drop_cons hk'] at hc hd
  have hm := List.getElem_mem hk'
  have Wo := W.wf _ hm
  have Lo := W.len _ hm
  obtain ⟨p, cs, q1, q2, Ho⟩ := Rp.Sl.atw (e := rOp) (H.ext N.exts) (show 0 < 9 by omega) (k := .i64) hk'
  have q1 : idxV 9 v (.int .i64 (k : Int)) = some p := q1
  have q2 : ldsV 9 h2 p = some (.agg cs.toArray) := q2
  rw [q1, zaa, q2, zaa]
  have hlen : cs.length = 9 := rOp.len Ho
  refine za1 (cs := cs) hlen (rOp.one Ho) hlen fun b h4 r4 e4 n4 => ?_
  rw [zav r4 9 hlen, zaa]
  have Ho4 := rOp.ext Ho e4
  generalize l[k] = o at *
  refine (c_r12Make Ho4 Wo (by omega) (by omega) iw ih).mono fun r h5 ⟨ds, e, e5, s0, dR⟩ => ?_
  subst e
  simp only [go_sem]
  have so : ds.length = 5 ∧ (∀ x ∈ ds, zar x = true) := by
   by_cases hm : makeC o w1 hh1 = 0
   ·exact ⟨rStg.len (dR hm), rStg.one (dR hm)⟩
   ·rw [s0 hm]; exact ⟨rfl, zad rfl (zad rfl (zad rfl (zad rfl (zad rfl zao))))⟩
  obtain ⟨dl3, d1⟩ := so
  refine za1 (cs := ds) dl3 d1 dl3 fun b2 h6 r6 e6 n6 => ?_
  have E26 : Ext h2 h6 := e4.trans (e5.trans e6)
  refine zab (fun hc1 => ?_) (fun hc1 => ?_)
  ·unfold allC at hc
   rw [if_pos hc1] at hc
   rw [hc]
   exact ⟨_, rfl, N.exts.trans E26, fun _ => rfl, fun h => absurd h hc1⟩
  have hc1 : makeC o w1 hh1 = 0 := Decidable.of_not_not hc1
  unfold allC at hc
  rw [if_neg (by simpa using hc1)] at hc
  have r4' := (e5.trans e6).row r4
  rw [zav r4' 9 hlen, zaa]
  refine (c_r12Size (rOp.ext Ho4 (e5.trans e6))).mono fun r h7 ⟨e, e7⟩ => ?_
  subst e
  simp only [go_sem]
  refine c_r9Fits.mono fun r h8 ⟨e, wq⟩ => ?_
  have wq := wq.symm
  subst e wq
  simp only [go_sem]
  refine zab (fun h8 => ?_) (fun h8 => ?_)
  ·have h8 : ¬ fitsZ (sizeW o w1) (sizeH o hh1) c := h8
   rw [if_pos h8] at hc
   rw [hc]
   exact ⟨_, rfl, N.exts.trans (E26.trans e7), fun _ => rfl, fun h => by cases h⟩
  have h8 : ¬ ¬ fitsZ (sizeW o w1) (sizeH o hh1) c := h8
  rw [if_neg h8] at hc
  rw [zav (e7.row r6) 5 dl3, zaa]
  have E27 := E26.trans e7
  have N7 := N.ext E27
  have R7 := rStg.ext (dR hc1) (e6.trans e7)
  refine NewR.push (e := rStg) (Y := Since h4 h5) N7 R7 (fun b hb => ⟨Nat.le_trans (N.exts.trans e4).1 hb.1, ?_, fun hv => ?_⟩) rfl rfl (by rw [dl]; omega) (by rw [dl]; omega) fun s' h' N' _ _ => ?_
  ·have := hb.2
   have := e6.1
   have := e7.1
   omega
  ·have h9 := N.lt hv
   have h10 := hb.1
   have h11 := e4.1
   omega
  ·try simp only [go_sem]
   rw [w64 (by omega) (by omega)]
   have hs := size_I64 Wo iw ih
   refine Hag (sizeW o w1, sizeH o hh1, s') h' hk' ⟨hs.1, hs.2, hc, done ++ [makeS o w1 hh1], by simp [dl], ?_, N'⟩
   rw [List.append_assoc]
   exact hd
 ·have hkn : k = l.length := by omega
  subst hkn
  have hc : opsC l w hh c = allC c (l.drop l.length) w1 hh1 := hc
  have hd : allS l w hh = done ++ allS (l.drop l.length) w1 hh1 := hd
  rw [List.drop_length] at hc hd
  have hc : opsC l w hh c = 0 := hc
  rw [hc, hd]
  refine ⟨_, rfl, N.exts, fun h => absurd rfl h, fun _ => ?_⟩
  rw [show allS [] w1 hh1 = [] from rfl, List.append_nil]
  exact N
theorem c_Refs {Z : Nat → Prop} {h : Heap} {v : Value} {l : List OpD} (H : Rp.Sl rOp Z h v l) (few : l.length ≤ 4398046) :
  FCall prog ziO #[v] h fun r h' => Rp.Sl rOp (fun _ => True) h' r l ∧ Ext h h' := by
 apply zqZ
 unfold zkY
 obtain ⟨a, cap, e⟩ := H.isSl
 have e2 : zag v = some (.int .i64 (l.length : Int)) := by rw [e]; rfl
 rw [e2, zaa]
 have H := H.mono (Z' := fun c => c < h.size) fun c hc _ => hc
 refine zaD (α := Value) l.length 0 (fun k a => [a, .int .i64 (k : Int)])
  (fun k a h' => Rp.Ow rOp (fun c => c < h.size) h' a (l.take k) ∧ Ext h h' ∧ ∀ b, blk a b → h.size ≤ b) (.slice none 0 0) rfl (Nat.zero_le _)
  ⟨Rp.Ow.nil, Ext.refl _, fun b hb => hb.elim⟩ fun k out h2 again ρj _ hk ⟨N, E, nb⟩ Hag => ?_
 simp only [go_sem]
 refine zab (fun h3 => ?_) (fun h3 => ?_)
 ·have hk' : k < l.length := by omega
  obtain ⟨p, cs, q1, q2, Ho⟩ := Rp.Sl.atw (e := rOp) (H.ext E) (show 0 < 9 by omega) (k := .i64) hk'
  have q1 : idxV 9 v (.int .i64 (k : Int)) = some p := q1
  have q2 : ldsV 9 h2 p = some (.agg cs.toArray) := q2
  rw [q1, zaa, q2, zaa]
  have hlen : cs.length = 9 := rOp.len Ho
  refine za1 (cs := cs) hlen (rOp.one Ho) hlen fun b h4 r4 e4 n4 => ?_
  rw [zav r4 9 hlen, zaa]
  refine (c_Ref (rOp.ext Ho e4)).mono fun r h5 ⟨e, Ho5, e5⟩ => ?_
  subst e
  have E5 := (E.trans e4).trans e5
  have hlt : (l.take k).length = k := by rw [List.length_take]; omega
  refine Rp.push_ow (e := rOp) (N.ext (e4.trans e5)) Ho5 rfl rfl (by rw [hlt]; omega) (by rw [hlt]; omega) (fun c hc => Nat.lt_of_lt_of_le hc E5.1) fun s' h' o' f' n' => ?_
  try simp only [go_sem]
  rw [w64 (by omega) (by omega)]
  rw [← List.take_succ_eq_append_getElem hk'] at o'
  refine Hag s' h' hk' ⟨o', E5.then_fr f' nb, fun c hc => ?_⟩
  rcases n' c hc with h6 | h6
  ·exact nb c h6
  ·exact Nat.le_trans E5.1 h6
 ·rw [List.take_of_length_le (by omega)] at N
  exact ⟨N.sl.mono fun _ _ _ => trivial, E⟩
abbrev rU : Rp Int := Rp.int .u16
abbrev u16s (l : List Int) : List Value := l.map fun n => Value.int .u16 n
structure Pic where
 w : Int
 h : Int
 c : Int
 most : Int
 l : List Int
structure Pic.Wf (m : Pic) : Prop where
 fits : fitsZ m.w m.h m.c
 m1 : 1 ≤ m.most
 m2 : m.most ≤ 65535
 len : (m.l.length : Int) = m.w * m.h * m.c
 smp : ∀ x ∈ m.l, 0 ≤ x ∧ x ≤ m.most
def inP (m : Pic) (x y c : Int) : Prop := 0 ≤ x ∧ x < m.w ∧ 0 ≤ y ∧ y < m.h ∧ 0 ≤ c ∧ c < m.c
instance (m : Pic) (x y c : Int) : Decidable (inP m x y c) := by unfold inP; infer_instance
def posP (m : Pic) (x y c : Int) : Int := (y * m.w + x) * m.c + c
def atP (m : Pic) (x y c : Int) : Int := if inP m x y c then m.l.getD (posP m x y c).toNat 0 else 0
def setP (m : Pic) (x y c v : Int) : Pic := { m with l := m.l.set (posP m x y c).toNat v }
theorem zbs {w h c : Int} (f : fitsZ w h c) : 1 ≤ w ∧ w ≤ 65536 ∧ 1 ≤ h ∧ h ≤ 65536 ∧ 1 ≤ c ∧ c ≤ 3 ∧ 0 ≤ w * h ∧ w * h ≤ 4294967296 ∧ 0 ≤ w * h * c ∧ w * h * c ≤ 268435456 := by
 obtain ⟨h1, h2, h3, h4, h5, h6⟩ := f
 have hm := ziz (a := w) (A := 65536) (b := h) (B := 65536) (by omega) (by omega) (by omega) (by omega)
 refine ⟨h1, h2, h3, h4, by omega, by omega, hm.1, hm.2, Int.mul_nonneg hm.1 (by omega), h6⟩
theorem zpG {m : Pic} (W : m.Wf) {x y c : Int} (h : inP m x y c) : 0 ≤ y * m.w ∧ y * m.w + x ≤ 4294967296 ∧ 0 ≤ posP m x y c ∧ posP m x y c < m.l.length := by
 obtain ⟨h1, h2, h3, h4, h5, h6, h7, h8, h9, h10⟩ := zbs W.fits
 obtain ⟨x0, x1, y0, y1, c0, c1⟩ := h
 have a0 : 0 ≤ y * m.w := Int.mul_nonneg y0 (by omega)
 have a1 : y * m.w ≤ (m.h - 1) * m.w := Int.mul_le_mul_of_nonneg_right (by omega) (by omega)
 rw [Int.sub_mul, Int.one_mul, Int.mul_comm m.h] at a1
 have b0 : 0 ≤ (y * m.w + x) * m.c := Int.mul_nonneg (by omega) (by omega)
 have b1 : (y * m.w + x) * m.c ≤ (m.w * m.h - 1) * m.c := Int.mul_le_mul_of_nonneg_right (by omega) (by omega)
 rw [Int.sub_mul, Int.one_mul] at b1
 have := W.len
 unfold posP
 refine ⟨a0, by omega, by omega, by omega⟩
structure IsImg (h : Heap) (b : Nat) (v : Value) (m : Pic) : Prop where
 row : h[b]? = some (.cells #[.int .i64 m.w, .int .i64 m.h, .int .i64 m.c, .int .i64 m.most, v] 135 (0, 0))
 own : Own 1 h v m.l.length (u16s m.l)
 ap : ¬ blk v b
abbrev ptr (b : Nat) : Value := .pointer (some ⟨b, 0, none⟩)
theorem IsImg.fr {M : Nat → Prop} {h h' : Heap} {b : Nat} {v : Value} {m : Pic} (H : IsImg h b v m) (f : Fr M h h') (hb : ¬ M b) (q : ∀ c, blk v c → ¬ M c) : IsImg h' b v m := ⟨f.row H.row hb, H.own.fr f q, H.ap⟩
theorem IsImg.ext {h h' : Heap} {b : Nat} {v : Value} {m : Pic} (H : IsImg h b v m) (e : Ext h h') : IsImg h' b v m := H.fr (M := fun _ => False) e.fr id fun _ _ => id
theorem IsImg.lt {h : Heap} {b : Nat} {v : Value} {m : Pic} (H : IsImg h b v m) : b < h.size := zay H.row
theorem IsImg.ltv {h : Heap} {b : Nat} {v : Value} {m : Pic} (H : IsImg h b v m) {c : Nat} (hc : blk v c) : c < h.size := H.own.lt hc
theorem zkc {h : Heap} {b : Nat} {v : Value} {m : Pic} (H : IsImg h b v m) : FCall prog zaB #[ptr b] h fun r h' => r = .int .i64 m.w ∧ h' = h := by
 apply zix
 unfold zew
 simp only [go_sem, zac H.row]
 exact ⟨by simp, by simp⟩
theorem zhh {h : Heap} {b : Nat} {v : Value} {m : Pic} (H : IsImg h b v m) : FCall prog zaz #[ptr b] h fun r h' => r = .int .i64 m.h ∧ h' = h := by
 apply zhY
 unfold zdY
 simp only [go_sem, zac H.row]
 exact ⟨by simp, by simp⟩
theorem zbV {h : Heap} {b : Nat} {v : Value} {m : Pic} (H : IsImg h b v m) : FCall prog zae #[ptr b] h fun r h' => r = .int .i64 m.c ∧ h' = h := by
 apply zgV
 unfold zdp
 simp only [go_sem, zac H.row]
 exact ⟨by simp, by simp⟩
theorem zfJ {h : Heap} {b : Nat} {v : Value} {m : Pic} (H : IsImg h b v m) : FCall prog zal #[ptr b] h fun r h' => r = .int .i64 m.most ∧ h' = h := by
 apply zjh
 unfold zeT
 simp only [go_sem, zac H.row]
 exact ⟨by simp, by simp⟩
theorem c_place {h : Heap} {b : Nat} {v : Value} {m : Pic} (H : IsImg h b v m) (W : m.Wf) {x y c : Int} : FCall prog zb7 #[ptr b, .int .i64 x, .int .i64 y, .int .i64 c] h fun r h' =>
  r = .int .i64 (if inP m x y c then posP m x y c else -1) ∧ h' = h := by
 apply ziw
 unfold zev
 have q0 : zah h ⟨b, 0, none⟩ = some (.int .i64 m.w) := zac H.row
 have q1 : zah h ⟨b, 1, none⟩ = some (.int .i64 m.h) := zac H.row
 have q2 : zah h ⟨b, 2, none⟩ = some (.int .i64 m.c) := zac H.row
 simp only [go_sem, Nat.zero_add, q0, q1, q2]
 refine zab (fun h0 => ?_) (fun h0 => ?_)
 ·rw [if_neg (by unfold inP; omega)]; exact ⟨rfl, trivial⟩
 ·have hi : inP m x y c := by unfold inP; omega
  have hp := zpG W hi
  have hf := zbs W.fits
  have hl := W.len
  rw [if_pos hi]
  have e : (y * m.w + x) * m.c + c = posP m x y c := rfl
  have hi2 := hi
  unfold inP at hi2
  rw [w64 (n := y * m.w) (by omega) (by omega), w64 (n := y * m.w + x) (by omega) (by omega), w64 (n := (y * m.w + x) * m.c) (by omega) (by omega), w64 (by omega) (by omega)]
  exact ⟨rfl, trivial⟩
theorem c_At {h : Heap} {b : Nat} {v : Value} {m : Pic} (H : IsImg h b v m) (W : m.Wf) {x y c : Int} : FCall prog zcg #[ptr b, .int .i64 x, .int .i64 y, .int .i64 c] h fun r h' =>
  r = .int .u16 (atP m x y c) ∧ h' = h := by
 apply zlm
 unfold zf9
 refine (c_place H W).mono fun r h1 ⟨e, wq⟩ => ?_
 have wq := wq.symm
 subst e wq
 unfold atP
 have q4 : zah h ⟨b, 4, none⟩ = some v := zac H.row
 by_cases hi : inP m x y c
 ·have hp := zpG W hi
  rw [if_pos hi, if_pos hi]
  simp only [go_sem, Nat.zero_add, q4]
  rw [decide_eq_true hp.2.2.1, zc9]
  obtain ⟨i, hi2⟩ : ∃ i : Nat, posP m x y c = (i : Int) := ⟨(posP m x y c).toNat, by omega⟩
  rw [hi2, Int.toNat_natCast]
  have hil : i < m.l.length := by omega
  obtain ⟨p, p1, p2, _⟩ := H.own.at1 (k := .i64) hil
  rw [p1, zaa, p2, zaa]
  refine ⟨?_, trivial⟩
  rw [List.getElem_map]
  simp [List.getD_eq_getElem?_getD, hil]
 ·rw [if_neg hi, if_neg hi]
  simp only [go_sem]
  rw [show decide ((0 : Int) ≤ -1) = false from rfl, zbc]
  exact ⟨by simp, by simp⟩
theorem c_Set {h : Heap} {b : Nat} {v : Value} {m : Pic} (H : IsImg h b v m) (W : m.Wf) {x y c n : Int} (n0 : 0 ≤ n) (n1 : n ≤ 65535) : FCall prog zbq #[ptr b, .int .i64 x, .int .i64 y, .int .i64 c, .int .u16 n] h fun r h' =>
  r = .bool (decide (inP m x y c ∧ n ≤ m.most)) ∧ IsImg h' b v (if inP m x y c ∧ n ≤ m.most then setP m x y c n else m) ∧ Fr (blk v) h h' ∧ h'.size = h.size := by
 apply zj4
 unfold zfu
 refine (c_place H W).mono fun r h1 ⟨e, wq⟩ => ?_
 have wq := wq.symm
 subst e wq
 have q3 : zah h ⟨b, 3, none⟩ = some (.int .i64 m.most) := zac H.row
 have q4 : zah h ⟨b, 4, none⟩ = some v := zac H.row
 simp only [go_sem, Nat.zero_add, q3, q4]
 rw [w64 (by omega) (by omega)]
 by_cases hi : inP m x y c
 ·have hp := zpG W hi
  rw [if_pos hi]
  refine zab (fun h0 => ?_) (fun h0 => ?_)
  ·have hn : ¬ (inP m x y c ∧ n ≤ m.most) := by rintro ⟨_, _⟩; omega
   rw [if_neg hn, decide_eq_false hn]
   exact ⟨rfl, H, Fr.refl _ _, trivial⟩
  ·have hy : inP m x y c ∧ n ≤ m.most := ⟨hi, by omega⟩
   rw [if_pos hy, decide_eq_true hy]
   obtain ⟨i, hi2⟩ : ∃ i : Nat, posP m x y c = (i : Int) := ⟨(posP m x y c).toNat, by omega⟩
   have hs : setP m x y c n = { m with l := m.l.set i n } := by unfold setP; rw [hi2, Int.toNat_natCast]
   rw [hi2, hs]
   have hil : i < m.l.length := by omega
   obtain ⟨p, p1, p2, p3⟩ := H.own.at1 (k := .i64) hil
   rw [p1, zaa]
   refine p3 _ _ rfl fun h2 o2 f2 s2 => ⟨rfl, ⟨f2.row H.row H.ap, ?_, H.ap⟩, f2, s2⟩
   show Own 1 h2 v (m.l.set i n).length (u16s (m.l.set i n))
   rw [List.length_set, u16s, List.map_set]
   exact o2
 ·have hn : ¬ (inP m x y c ∧ n ≤ m.most) := fun hh => hi hh.1
  rw [if_neg hi, if_neg hn, decide_eq_false hn]
  rw [show decide ((-1 : Int) < 0 ∨ m.most < n) = true from decide_eq_true (by omega), zc9]
  exact ⟨rfl, H, Fr.refl _ _, trivial⟩
theorem setP_Wf {m : Pic} (W : m.Wf) {x y c n : Int} (n0 : 0 ≤ n) (n1 : n ≤ m.most) : (setP m x y c n).Wf := by
 refine ⟨W.fits, W.m1, W.m2, ?_, fun z hz => ?_⟩
 ·show ((m.l.set _ n).length : Int) = _
  rw [List.length_set]
  exact W.len
 ·rcases List.mem_or_eq_of_mem_set hz with h | h
  ·exact W.smp z h
  ·rw [h]; exact ⟨n0, n1⟩
theorem zpI {k : IntKind} {h : Heap} {v : Value} {l : List Int} (H : Own 1 h v l.length (l.map fun n => Value.int k n)) : Rp.Sl (Rp.int k) (blk v) h v l :=
 (ow_ints H).sl.mono fun b _ hb => hb.elim False.elim id
theorem c_CloneU {h : Heap} {Z : Nat → Prop} {v : Value} {l : List Int} (H : Rp.Sl rU Z h v l) (hl : l.length ≤ 1000000000) :
  FCall prog zbg #[v] h fun r h' => New rU h h' r l := by
 apply zdU
 unfold zb3
 obtain ⟨ds, ⟨hl1, a, cap, rfl, hs⟩, hz, he⟩ := H
 rw [zoM, zaa]
 cases a with
 | none =>
  have : l = [] := by
   rcases hs with hs | ⟨b, o, h0, _⟩
   ·subst hs
    have h2 : ([] : List Value).length = l.length * 1 := hl1
    exact List.eq_nil_of_length_eq_zero (by simpa using h2.symm)
   ·cases h0
  subst this
  simp only [Option.isNone_none, go_sem]
  exact New.nil (Ext.refl _)
 | some a =>
  simp only [Option.isNone_some, go_sem]
  refine zb5 (c' := #[]) rfl fun b h1 r1 e1 n1 => ?_
  have O : Rp.Ow rU (fun _ => False) h1 (.slice (some ⟨b, 0, none⟩) 0 0) [] := ⟨[], .inr ⟨b, 0, [], _, rfl, Nat.le_refl _, rfl, rfl, r1⟩, fun b hb hb' => hb', fun i hi => absurd hi (by simp)⟩
  have S1 : SlC 1 h1 (.slice (some a) l.length cap) l.length ds := SlC.ext ⟨hl1, some a, cap, rfl, hs⟩ e1
  refine Rp.app_ow (e := rU) (l := []) (l2 := l) O S1 (fun i hi => he i hi) rfl (by simp; omega) (by simp; omega) (fun b hb => hb.elim) fun v2 h2 O2 f2 n2 => ?_
  rw [List.nil_append] at O2
  have nb : ∀ k, blk (.slice (some ⟨b, 0, none⟩) 0 0) k → h.size ≤ k := fun k hk => by have : k = b := hk; omega
  refine ⟨O2, e1.then_fr f2 nb, fun k hk => ?_⟩
  rcases n2 k hk with h3 | h3
  ·exact nb k h3
  ·exact Nat.le_trans e1.1 h3
theorem c_Samples {h : Heap} {b : Nat} {v : Value} {m : Pic} (H : IsImg h b v m) (W : m.Wf) : FCall prog zbN #[ptr b] h fun r h' => New rU h h' r m.l := by
 apply zg8
 unfold zdD
 have q4 : zah h ⟨b, 4, none⟩ = some v := zac H.row
 simp only [go_sem, Nat.zero_add, q4]
 have hf := zbs W.fits
 have := W.len
 exact c_CloneU (zpI H.own) (by omega)
theorem fill_5 {a b c d e v w x y z : Value} (ha : zar a = true) (hb : zar b = true) (hc : zar c = true) (hd : zar d = true) (he : zar e = true) : fillL #[v, w, x, y, z] [(0, 1, a), (1, 1, b), (2, 1, c), (3, 1, d), (4, 1, e)] = some #[a, b, c, d, e] := by
 simp only [fillL, zaW ha, zaW hb, zaW hc, zaW hd, zaW he]
 rfl
def imgC (w h c most : Int) : Int := if most < 1 ∨ 65535 < most ∨ (c ≠ 1 ∧ c ≠ 3) then 2 else if ¬ fitsZ w h c then 5 else 0
def imgN (w h c most : Int) : Pic := ⟨w, h, c, most, List.replicate (w * h * c).toNat 0⟩
def zlH (h h' : Heap) (p : Value) (m : Pic) : Prop := ∃ b v, p = ptr b ∧ IsImg h' b v m ∧ h.size ≤ b ∧ (∀ c, blk v c → h.size ≤ c) ∧ Ext h h'
theorem ziC {w h c most : Int} : imgC w h c most = 0 ↔ fitsZ w h c ∧ 1 ≤ most ∧ most ≤ 65535 := by
 unfold imgC
 split
 ·constructor
  ·intro h; cases h
  ·rintro ⟨⟨_, _, _, _, _, _⟩, _, _⟩; omega
 ·split
  ·constructor
   ·intro h; cases h
   ·rintro ⟨h, _⟩; contradiction
  ·rename_i h1 h2
   exact ⟨fun _ => ⟨Decidable.of_not_not h2, by omega, by omega⟩, fun _ => rfl⟩
theorem zl5 {w h c most : Int} (H : imgC w h c most = 0) : (imgN w h c most).Wf := by
 obtain ⟨h1, h2, h3⟩ := ziC.1 H
 have hf := zbs h1
 refine ⟨h1, h2, h3, ?_, fun x hx => ?_⟩
 ·show ((List.replicate (w * h * c).toNat (0 : Int)).length : Int) = w * h * c
  rw [List.length_replicate]; omega
 ·have : x = 0 := (List.mem_replicate.1 hx).2
  subst this
  show 0 ≤ (0 : Int) ∧ (0 : Int) ≤ most
  omega
theorem zi4 {h : Heap} {w hh c most : Int} : FCall prog zat #[.int .i64 w, .int .i64 hh, .int .i64 c, .int .i64 most] h fun r h' =>
  ∃ p, r = .tuple #[p, .int .i64 (imgC w hh c most)] ∧ Ext h h' ∧ (imgC w hh c most ≠ 0 → p = .pointer none) ∧ (imgC w hh c most = 0 → zlH h h' p (imgN w hh c most)) := by
 apply zqW
 unfold zkV
 simp only [go_sem]
 have rc : imgC w hh c most = if most < 1 ∨ 65535 < most ∨ (c ≠ 1 ∧ c ≠ 3) then 2 else if ¬ fitsZ w hh c then 5 else 0 := rfl
 refine zab (fun h0 => ?_) (fun h0 => ?_)
 ·rw [if_pos (by omega)] at rc
  rw [rc]
  exact ⟨_, rfl, Ext.refl _, fun _ => rfl, fun h => by cases h⟩
 rw [if_neg (by omega)] at rc
 refine c_Fits.mono fun r h1 ⟨e, wq⟩ => ?_
 have wq := wq.symm
 subst e wq
 simp only [go_sem]
 refine zab (fun h1 => ?_) (fun h1 => ?_)
 ·rw [if_pos h1] at rc
  rw [rc]
  exact ⟨_, rfl, Ext.refl _, fun _ => rfl, fun h => by cases h⟩
 rw [if_neg h1] at rc
 have hf := zbs (Decidable.of_not_not h1)
 rw [w64 (n := w * hh) (by omega) (by omega), w64 (n := w * hh * c) (by omega) (by omega)]
 obtain ⟨n, hn⟩ : ∃ n : Nat, w * hh * c = (n : Int) := ⟨(w * hh * c).toNat, by omega⟩
 rw [hn]
 refine zl3 rfl (by omega) (by omega) fun v h2 o2 e2 n2 => ?_
 obtain ⟨av, cv, ev⟩ := o2.isSl
 rw [fill_5 rfl rfl rfl rfl (by rw [ev]; rfl), Option.map_some, zaa]
 refine zai (c := #[.int .i64 w, .int .i64 hh, .int .i64 c, .int .i64 most, v]) fun b h3 r3 e3 n3 => ?_
 rw [rc]
 refine ⟨_, rfl, e2.trans e3, fun h => absurd rfl h, fun _ => ⟨b, v, rfl, ⟨r3, ?_, fun hb => ?_⟩, Nat.le_trans e2.1 n3, n2, e2.trans e3⟩⟩
 ·show Own 1 h3 v (List.replicate (w * hh * c).toNat (0 : Int)).length (u16s (List.replicate (w * hh * c).toNat 0))
  rw [hn, Int.toNat_natCast, List.length_replicate, u16s, List.map_replicate]
  exact o2.fr (M := fun _ => False) e3.fr fun _ _ => id
 ·have := o2.lt hb; omega
theorem zmS {l m : List Int} (h : l.length = m.length) (H : ∀ i (h1 : i < l.length) (h2 : i < m.length), l[i] = m[i]) : l = m := List.ext_getElem h fun i h1 h2 => H i h1 h2
theorem c_r9Same {h : Heap} {Z Z' : Nat → Prop} {v u : Value} {l m : List Int} (H : Rp.Sl rU Z h v l) (K : Rp.Sl rU Z' h u m) (hl : l.length ≤ 1000000000) :
  FCall prog ziJ #[v, u] h fun r h' => r = .bool (decide (l = m)) ∧ h' = h := by
 apply zqH
 unfold zkG
 obtain ⟨a, c, e⟩ := H.isSl
 obtain ⟨a', c', e'⟩ := K.isSl
 have e2 : zag v = some (.int .i64 (l.length : Int)) := by rw [e]; rfl
 have e3 : zag u = some (.int .i64 (m.length : Int)) := by rw [e']; rfl
 simp only [go_sem, e2, e3]
 refine zab (fun h0 => ?_) (fun h0 => ?_)
 ·refine ⟨?_, trivial⟩
  rw [decide_eq_false]
  intro hh; subst hh; exact h0 rfl
 try rw [e2, zaa]
 refine zaD (α := Unit) l.length 0 (fun i _ => [.int .i64 (i : Int)]) (fun i _ h' => h' = h ∧ ∀ j (h1 : j < l.length) (h2 : j < m.length), j < i → l[j] = m[j]) () rfl (Nat.zero_le _) ⟨rfl, fun j _ _ hj => absurd hj (by omega)⟩ fun i _ h1 again ρj _ hi ⟨eh, hs⟩ Hag => ?_
 have eh := eh.symm
 subst eh
 simp only [go_sem]
 refine zab (fun h1 => ?_) (fun h1 => ?_)
 ·have hi' : i < l.length := by omega
  have hi2 : i < m.length := by omega
  obtain ⟨p, p1, p2⟩ := H.int_at (k' := .i64) hi'
  obtain ⟨q, q1, q2⟩ := K.int_at (k' := .i64) hi2
  simp only [go_sem, p1, p2, q1, q2]
  refine zab (fun h2 => ?_) (fun h2 => ?_)
  ·refine ⟨?_, trivial⟩
   rw [decide_eq_false]
   intro hh; subst hh; exact h2 rfl
  ·rw [w64 (by omega) (by omega)]
   refine Hag () h hi' ⟨rfl, fun j h3 h4 hj => ?_⟩
   by_cases hji : j = i
   ·subst hji; exact Decidable.of_not_not h2
   ·exact hs j h3 h4 (by omega)
 ·refine ⟨?_, trivial⟩
  rw [decide_eq_true]
  exact zmS (by omega) fun j h3 h4 => hs j h3 h4 (by omega)
def rPic : Rp Pic where
 w := 5
 R := fun Z h cs m => ∃ u, cs = [.int .i64 m.w, .int .i64 m.h, .int .i64 m.c, .int .i64 m.most, u] ∧ Rp.Sl rU Z h u m.l
 len := by rintro _ _ _ _ ⟨x, rfl, _⟩; rfl
 one := by
  rintro _ _ _ _ ⟨x, rfl, H⟩
  exact zad rfl (zad rfl (zad rfl (zad rfl (zad H.one zao))))
 fr := by rintro _ _ _ _ _ _ ⟨x, rfl, H⟩ f q; exact ⟨x, rfl, H.fr f q⟩
 mono := by rintro _ _ _ _ _ ⟨x, rfl, H⟩ q; exact ⟨x, rfl, H.mono q⟩
theorem c_l9Ref {h : Heap} {b : Nat} {v : Value} {m : Pic} (H : IsImg h b v m) (W : m.Wf) : FCall prog zhy #[ptr b] h fun r h' => ∃ cs, r = .agg cs.toArray ∧ rPic.R (Since h h') h' cs m ∧ Ext h h' := by
 apply ok_law09_Ref
 unfold zmK
 refine zai fun b2 h2 r2 e2 n2 => ?_
 have l2 := zay r2
 have H := H.ext e2
 refine (zkc H).mono fun r h3 ⟨e, wq⟩ => ?_
 have wq := wq.symm
 subst e wq
 refine (zhh H).mono fun r h3 ⟨e, wq⟩ => ?_
 have wq := wq.symm
 subst e wq
 refine (zbV H).mono fun r h3 ⟨e, wq⟩ => ?_
 have wq := wq.symm
 subst e wq
 refine (zfJ H).mono fun r h3 ⟨e, wq⟩ => ?_
 have wq := wq.symm
 subst e wq
 refine (c_Samples H W).mono fun u h3 N => ?_
 obtain ⟨av, cv, ev⟩ := N.isSl
 have uo : zar u = true := by rw [ev]; rfl
 rw [fill_5 rfl rfl rfl rfl uo, Option.map_some, zaa]
 refine zb9 (l := [.int .i64 m.w, .int .i64 m.h, .int .i64 m.c, .int .i64 m.most, u]) (N.2.1.row r2) rfl (zad rfl (zad rfl (zad rfl (zad rfl (zad uo zao))))) rfl fun h5 r5 u5 => ?_
 rw [zav r5 5 rfl, zaa]
 refine ⟨_, rfl, ⟨u, rfl, ?_⟩, (e2.trans N.2.1).upd n2 u5⟩
 have S := N.since (Ext.refl _)
 refine (S.fr u5.fr fun c _ hz he => ?_).mono fun c hc hz => ⟨Nat.le_trans e2.1 hz.1, hc⟩
 have := hz.1
 omega
theorem c_l9Equal {h : Heap} {Z Z' : Nat → Prop} {cs ds : List Value} {m n : Pic} (H : rPic.R Z h cs m) (K : rPic.R Z' h ds n) (hl : m.l.length ≤ 1000000000) (hw : m.w = n.w) (hh : m.h = n.h) (hc : m.c = n.c) (hm : m.most = n.most) :
  FCall prog zhA #[.agg cs.toArray, .agg ds.toArray] h fun r h' => r = .bool (decide (m.l = n.l)) ∧ Ext h h' := by
 apply zpf
 unfold zjI
 obtain ⟨u, rfl, Hu⟩ := H
 obtain ⟨w, rfl, Hw⟩ := K
 simp only [zaG]
 refine zai fun b1 h1 r1 e1 n1 => zai fun b2 h2 r2 e2 n2 => ?_
 have r1 := e2.row r1
 have e := e1.trans e2
 simp only [go_sem, zac r1, zac r2, hw, hh, hc, hm]
 refine (c_r9Same (Hu.ext e) (Hw.ext e) hl).mono fun r h3 ⟨e3, wq⟩ => ?_
 subst e3
 have wq := wq.symm
 subst wq
 simp only [go_sem]
 exact ⟨by simp, e⟩
theorem c_r9In {h : Heap} {Z : Nat → Prop} {cs : List Value} {m : Pic} (H : rPic.R Z h cs m) {x y c : Int} : FCall prog zmk #[.agg cs.toArray, .int .i64 x, .int .i64 y, .int .i64 c] h fun r h' => r = .bool (decide (inP m x y c)) ∧ Ext h h' := by
 apply ok_ref09_In
 unfold znF
 obtain ⟨u, rfl, Hu⟩ := H
 simp only [zaG]
 refine zai fun b1 h1 r1 e1 n1 => ?_
 simp only [go_sem, zac r1]
 refine ⟨?_, e1⟩
 congr 1
 rw [decide_eq_decide]
 unfold inP
 omega
theorem c_r9At {h : Heap} {Z : Nat → Prop} {cs : List Value} {m : Pic} (H : rPic.R Z h cs m) (W : m.Wf) {x y c : Int} : FCall prog zml #[.agg cs.toArray, .int .i64 x, .int .i64 y, .int .i64 c] h fun r h' => r = .int .u16 (atP m x y c) ∧ Ext h h' := by
 apply ok_ref09_At
 unfold znG
 have H0 := H
 obtain ⟨u, rfl, Hu⟩ := H
 simp only [zaG]
 refine zai fun b1 h1 r1 e1 n1 => ?_
 rw [zav (l := [.int .i64 m.w, .int .i64 m.h, .int .i64 m.c, .int .i64 m.most, u]) r1 5 rfl, zaa]
 refine (c_r9In (rPic.ext H0 e1)).mono fun r h2 ⟨e, e2⟩ => ?_
 subst e
 unfold atP
 have r1 := e2.row r1
 have E := e1.trans e2
 by_cases hi : inP m x y c
 ·rw [if_pos hi]
  have hp := zpG W hi
  have hf := zbs W.fits
  have hl := W.len
  have hi2 := hi
  unfold inP at hi2
  simp only [go_sem, hi, zac r1]
  have a1 : 0 ≤ x * m.c := Int.mul_nonneg (by omega) (by omega)
  have a2 : 0 ≤ y * m.w * m.c := Int.mul_nonneg hp.1 (by omega)
  have e3 : y * m.w * m.c + x * m.c + c = posP m x y c := by unfold posP; rw [Int.add_mul]
  rw [w64 (n := y * m.w) (by omega) (by omega), w64 (n := y * m.w * m.c) (by omega) (by omega), w64 (n := x * m.c) (by omega) (by omega), w64 (n := y * m.w * m.c + x * m.c) (by omega) (by omega), w64 (by omega) (by omega), e3]
  obtain ⟨i, hi3⟩ : ∃ i : Nat, posP m x y c = (i : Int) := ⟨(posP m x y c).toNat, by omega⟩
  rw [hi3, Int.toNat_natCast]
  have hil : i < m.l.length := by omega
  obtain ⟨p, p1, p2⟩ := (Hu.ext E).int_at (k' := .i64) hil
  rw [p1, zaa, p2, zaa]
  refine ⟨?_, E⟩
  simp [List.getD_eq_getElem?_getD, hil]
 ·rw [if_neg hi]
  simp only [go_sem, hi]
  exact ⟨by simp, E⟩
theorem c_MaxU {h : Heap} {Z : Nat → Prop} {v : Value} {l : List Int} (H : Rp.Sl rU Z h v l) (h0 : 0 < l.length) (hl : l.length ≤ 1000000000) :
  FCall prog zbu #[v] h fun r h' => (∃ x ∈ l, r = .int .u16 x) ∧ h' = h := by
 apply zez
 unfold zcj
 obtain ⟨a, c, e⟩ := H.isSl
 have e2 : zag v = some (.int .i64 (l.length : Int)) := by rw [e]; rfl
 refine zau (fun xs h' => h' = h) ?_ ?_
 ·simp only [go_sem, e2]
  rw [decide_eq_false (by omega), zbc]
  trivial
 rintro xs ρj h1 hh
 have hh := hh.symm
 subst hh
 obtain ⟨p, p1, p2⟩ := H.int_at (k' := .i64) h0
 have p1 : idxV 1 v (.int .i64 0) = some p := p1
 rw [p1, zaa, p2, zaa]
 refine zaD (α := Int) l.length 1 (fun i x => [.int .u16 x, .int .i64 (i : Int)]) (fun i x h' => x ∈ l ∧ h' = h) l[0] rfl (by omega) ⟨List.getElem_mem _, rfl⟩ fun i x h1 again ρj h1i hi ⟨hx, eh⟩ Hag => ?_
 have eh := eh.symm
 subst eh
 simp only [go_sem, e2]
 refine zab (fun h2 => ?_) (fun h2 => ?_)
 ·have hi' : i < l.length := by omega
  obtain ⟨q, q1, q2⟩ := H.int_at (k' := .i64) hi'
  simp only [go_sem, q1, q2]
  rw [w64 (by omega) (by omega)]
  refine Hag _ h hi' ⟨?_, rfl⟩
  rcases Int.le_total x l[i] with h3 | h3
  ·rw [Int.max_eq_right h3]; exact List.getElem_mem _
  ·rw [Int.max_eq_left h3]; exact hx
 ·exact ⟨⟨x, hx, rfl⟩, trivial⟩
theorem c_imgOf {h : Heap} {Z : Nat → Prop} {v : Value} {l : List Int} {w hh c most : Int} (H : Rp.Sl rU Z h v l) (hc : imgC w hh c most = 0) (hl : (l.length : Int) = w * hh * c) (hs : ∀ x ∈ l, 0 ≤ x ∧ x ≤ most) :
  FCall prog zht #[.int .i64 w, .int .i64 hh, .int .i64 c, .int .i64 most, v] h fun r h' => ∃ p, r = .tuple #[p, .int .i64 0] ∧ zlH h h' p ⟨w, hh, c, most, l⟩ := by
 apply ok_raster_Of
 unfold zmF
 refine zi4.mono fun r h1 ⟨p, e, e1, _, s1⟩ => ?_
 subst e
 obtain ⟨b, u, rfl, I, nb, nu, _⟩ := s1 hc
 obtain ⟨f1, f2, f3⟩ := ziC.1 hc
 have hf := zbs f1
 have W := zl5 hc
 obtain ⟨a, ca, e⟩ := H.isSl
 have e2 : zag v = some (.int .i64 (l.length : Int)) := by rw [e]; rfl
 obtain ⟨au, cu, eu⟩ := I.own.isSl
 have il : ((imgN w hh c most).l.length : Int) = w * hh * c := W.len
 have eu2 : zag u = some (.int .i64 (l.length : Int)) := by rw [eu, hl, ← il]; rfl
 have q4 : zah h1 ⟨b, 4, none⟩ = some u := zac I.row
 simp only [go_sem, hc, e2, Nat.zero_add, q4, eu2]
 have h0 : 0 < l.length := by
  have a1 : 1 ≤ w * hh := by
   have := Int.mul_le_mul (show (1 : Int) ≤ w by omega) (show (1 : Int) ≤ hh by omega) (by omega) (by omega)
   omega
  have := Int.mul_le_mul a1 (show (1 : Int) ≤ c by omega) (by omega) (by omega)
  omega
 refine (c_MaxU (H.ext e1) h0 (by omega)).mono fun r h2 ⟨⟨x, hx, e⟩, wq⟩ => ?_
 have wq := wq.symm
 subst e wq
 have hxs := hs x hx
 simp only [go_sem]
 rw [w64 (by omega) (by omega), decide_eq_false (by omega), zbc]
 simp only [go_sem, Nat.zero_add, q4]
 have hn : (imgN w hh c most).l.length = l.length := by omega
 have Iown := I.own
 rw [hn] at Iown
 obtain ⟨ds, S, _, he⟩ := H.ext e1
 have hds : ds = u16s l := by
  have hdl : ds.length = l.length * 1 := S.1
  apply List.ext_getElem
  ·simp; omega
  ·intro i h3 h4
   have h5 := he i (by simpa using h4)
   have h6 : Rp.el 1 ds i = [Value.int .u16 (l[i]'(by simpa using h4))] := h5
   rw [Rp.el_one h3] at h6
   simpa using h6
 subst hds
 refine zrr Iown S (fun y hy => by obtain ⟨z, _, rfl⟩ := List.mem_map.1 hy; rfl) fun h3 o3 f3 s3 => ?_
 refine ⟨_, rfl, b, u, rfl, ⟨f3.row I.row I.ap, ?_, I.ap⟩, nb, nu, e1.then_fr f3 nu⟩
 show Own 1 h3 u l.length (u16s l)
 have e5 : (u16s l).take l.length ++ (u16s (imgN w hh c most).l).drop l.length = u16s l := by
  rw [List.take_of_length_le (by simp), List.drop_eq_nil_of_le (by simp; omega), List.append_nil]
 rw [← e5]
 exact o3
def drawP (w h c most : Int) (l : List Int) : Pic :=
 ⟨1 + w % 20, 1 + h % 20, 1 + 2 * (c % 2), 1 + most % 65535, (List.range ((1 + w % 20) * (1 + h % 20) * (1 + 2 * (c % 2))).toNat).map fun i => if 0 < l.length then (l.getD (i % l.length) 0 + ((i / l.length : Nat) : Int)) % (1 + most % 65535 + 1) else 0⟩
theorem drawP_bd (w h c : Int) : 1 ≤ (1 + w % 20) * (1 + h % 20) * (1 + 2 * (c % 2)) ∧ (1 + w % 20) * (1 + h % 20) * (1 + 2 * (c % 2)) ≤ 1200 := by
 have h1 := ziz (a := 1 + w % 20) (A := 20) (b := 1 + h % 20) (B := 20) (by omega) (by omega) (by omega) (by omega)
 have h3 := Int.mul_le_mul (show (1 : Int) ≤ 1 + w % 20 by omega) (show (1 : Int) ≤ 1 + h % 20 by omega) (by omega) (by omega)
 generalize (1 + w % 20) * (1 + h % 20) = a at *
 have : c % 2 = 0 ∨ c % 2 = 1 := by omega
 rcases this with h | h <;> rw [h] <;> omega
theorem drawP_Wf (w h c most : Int) (l : List Int) : (drawP w h c most l).Wf := by
 have hb := drawP_bd w h c
 refine ⟨⟨?_, ?_, ?_, ?_, ?_, ?_⟩, ?_, ?_, ?_, fun x hx => ?_⟩
 ·show 1 ≤ 1 + w % 20; omega
 ·show 1 + w % 20 ≤ 65536; omega
 ·show 1 ≤ 1 + h % 20; omega
 ·show 1 + h % 20 ≤ 65536; omega
 ·show 1 + 2 * (c % 2) = 1 ∨ 1 + 2 * (c % 2) = 3; omega
 ·show (1 + w % 20) * (1 + h % 20) * (1 + 2 * (c % 2)) ≤ 268435456; omega
 ·show 1 ≤ 1 + most % 65535; omega
 ·show 1 + most % 65535 ≤ 65535; omega
 ·show ((List.map _ (List.range _)).length : Int) = (1 + w % 20) * (1 + h % 20) * (1 + 2 * (c % 2))
  rw [List.length_map, List.length_range]; omega
 ·obtain ⟨i, _, rfl⟩ := List.mem_map.1 hx
  show 0 ≤ _ ∧ _ ≤ 1 + most % 65535
  split
  ·have := Int.emod_nonneg (l.getD (i % l.length) 0 + ((i / l.length : Nat) : Int)) (show 1 + most % 65535 + 1 ≠ 0 by omega)
   have := Int.emod_lt_of_pos (l.getD (i % l.length) 0 + ((i / l.length : Nat) : Int)) (show 0 < 1 + most % 65535 + 1 by omega)
   omega
  ·omega
theorem Own.at_mapU {h : Heap} {v : Value} {n : Nat} {g : Nat → Int} (H : Own 1 h v n ((List.range n).map fun i => Value.int .u16 (g i))) {k : IntKind} {i : Nat} (hi : i < n) :
  ∃ p, idxV 1 v (.int k (i : Int)) = some p ∧ ∀ (x : Int) (K : Value → Heap → Prop),
   (∀ h', Own 1 h' v n ((List.range n).map fun j => Value.int .u16 (if j = i then x else g j)) → Fr (blk v) h h' → K undef h') → stK 1 p (.int .u16 x) h K := by
 obtain ⟨p, h1, h2, h3⟩ := Own.at1 H (k := k) hi
 refine ⟨p, h1, fun x K HK => h3 _ _ rfl fun h' o f _ => HK h' ?_ f⟩
 rw [zk5 _ _ _ _ hi] at o
 have e : (fun j => if j = i then Value.int .u16 x else Value.int .u16 (g j)) = fun j => Value.int .u16 (if j = i then x else g j) := by
  funext j; split <;> rfl
 rw [e] at o
 exact o
abbrev U16 (n : Int) : Prop := 0 ≤ n ∧ n ≤ 65535
theorem c_l9Draw {h : Heap} {Z : Nat → Prop} {v : Value} {l : List Int} {w hh c most : Int} (H : Rp.Sl rU Z h v l) (hw : U16 w) (hhh : U16 hh) (hc : U16 c) (hm : U16 most) (h16 : ∀ x ∈ l, U16 x) (hl : l.length ≤ 4611686018427387904) :
  FCall prog ziP #[.int .u16 w, .int .u16 hh, .int .u16 c, .int .u16 most, v] h fun r h' => zlH h h' r (drawP w hh c most l) := by
 apply zq0
 unfold zkZ
 rw [za8 _ _ _ _ (by omega), zaa, za8 _ _ _ _ (by omega)]
 simp only [go_sem]
 rw [za8 _ _ _ _ (by omega)]
 simp only [go_sem]
 rw [Int.tmod_eq_emod_of_nonneg hw.1, Int.tmod_eq_emod_of_nonneg hhh.1, Int.tmod_eq_emod_of_nonneg hc.1]
 rw [w64 (n := w % 20) (by omega) (by omega), w64 (n := hh % 20) (by omega) (by omega), w64 (n := c % 2) (by omega) (by omega), w64 (n := 2 * (c % 2)) (by omega) (by omega), w64 (n := 1 + 2 * (c % 2)) (by omega) (by omega), w64 (n := most) (by omega) (by omega),
  w64 (n := 1 + w % 20) (by omega) (by omega), w64 (n := 1 + hh % 20) (by omega) (by omega)]
 rw [za8 _ _ _ _ (by omega), zaa, Int.tmod_eq_emod_of_nonneg hm.1]
 simp only [go_sem]
 have hb := drawP_bd w hh c
 have h1 := ziz (a := 1 + w % 20) (A := 20) (b := 1 + hh % 20) (B := 20) (by omega) (by omega) (by omega) (by omega)
 rw [w64 (n := 1 + most % 65535) (by omega) (by omega), w64 (n := (1 + w % 20) * (1 + hh % 20)) (by omega) (by omega), w64 (n := (1 + w % 20) * (1 + hh % 20) * (1 + 2 * (c % 2))) (by omega) (by omega)]
 have PW := drawP_Wf w hh c most l
 obtain ⟨n, hn⟩ : ∃ n : Nat, (1 + w % 20) * (1 + hh % 20) * (1 + 2 * (c % 2)) = (n : Int) := ⟨((1 + w % 20) * (1 + hh % 20) * (1 + 2 * (c % 2))).toNat, by omega⟩
 have hpl : (drawP w hh c most l).l = (List.range n).map fun i => if 0 < l.length then (l.getD (i % l.length) 0 + ((i / l.length : Nat) : Int)) % (1 + most % 65535 + 1) else 0 := by unfold drawP; rw [hn]; rfl
 rw [hn]
 obtain ⟨top, htop⟩ : ∃ top, 1 + most % 65535 = top := ⟨_, rfl⟩
 rw [htop] at hpl ⊢
 have htb : 1 ≤ top ∧ top ≤ 65535 := by omega
 refine zl3 rfl (by omega) (by omega) fun u h2 o2 e2 n2 => ?_
 obtain ⟨au, cu, eu⟩ := o2.isSl
 have eu2 : zag u = some (.int .i64 (n : Int)) := by rw [eu]; rfl
 obtain ⟨al, cl, el⟩ := H.isSl
 have el2 : zag v = some (.int .i64 (l.length : Int)) := by rw [el]; rfl
 rw [eu2, zaa]
 have H := H.mono (Z' := fun c => c < h.size) fun c hc _ => hc
 generalize hg : (fun i : Nat => if 0 < l.length then (l.getD (i % l.length) 0 + ((i / l.length : Nat) : Int)) % (top + 1) else 0) = g at *
 have hgx : ∀ i, g i = if 0 < l.length then (l.getD (i % l.length) 0 + ((i / l.length : Nat) : Int)) % (top + 1) else 0 := fun i => by rw [← hg]
 refine zaD (α := Unit) n 0 (fun i _ => [.int .i64 (i : Int)]) (fun i _ h' => Ext h h' ∧ Own 1 h' u n ((List.range n).map fun j => Value.int .u16 (if j < i then g j else 0))) () rfl (Nat.zero_le _)
  ⟨e2, by
   have e : List.replicate n (Value.int .u16 0) = (List.range n).map fun j => Value.int .u16 (if j < 0 then g j else 0) := by apply List.ext_getElem <;> simp
   rw [← e]; exact o2⟩ fun i _ h3 again ρj _ hi ⟨E3, o3⟩ Hag => ?_
 simp only [go_sem]
 have stp : ∀ j, (if j = i then g i else if j < i then g j else 0) = if j < i + 1 then g j else 0 := fun j => by
  by_cases h1 : j = i
  ·subst h1; simp
  ·rw [if_neg h1]
   by_cases h2 : j < i
   ·rw [if_pos h2, if_pos (by omega)]
   ·rw [if_neg h2, if_neg (by omega)]
 refine zab (fun h4 => ?_) (fun h4 => ?_)
 ·have hi' : i < n := by omega
  rw [el2, zaa]
  simp only [go_sem]
  refine zab (fun h5 => ?_) (fun h5 => ?_)
  ·have hl0 : 0 < l.length := by omega
   refine zan (fun h' => h' = h3) rfl ?_
   refine zaf (.int .i64 (l.length : Int)) (fun h' e => by first | exact el2 | rfl) ?_
   rw [za8 _ _ _ _ (by omega), zaa, Int.tmod_eq_emod_of_nonneg (by omega), show (i : Int) % (l.length : Int) = ((i % l.length : Nat) : Int) by omega]
   have hil : i % l.length < l.length := Nat.mod_lt _ hl0
   obtain ⟨p, p1, p2⟩ := (H.ext E3).int_at (k' := .i64) hil
   rw [p1, zaa]
   refine zaf _ (fun h' e => by rw [e]; exact p2) ?_
   have hx := h16 _ (List.getElem_mem hil)
   simp only [go_sem]
   refine zaf (.int .i64 (l.length : Int)) (fun h' e => by first | exact el2 | rfl) ?_
   have hdl : i / l.length ≤ i := Nat.div_le_self _ _
   have hgi0 := hgx i
   rw [zek _ _ _ _ (by omega), zaa, Int.tdiv_eq_ediv_of_nonneg (by omega), show (i : Int) / (l.length : Int) = ((i / l.length : Nat) : Int) by omega]
   generalize i / l.length = dq at hdl hgi0 ⊢
   rw [w64 (n := (dq : Int)) (by omega) (by omega)]
   simp only [go_sem]
   rw [w64 (n := l[i % l.length]) (by omega) (by omega), w64 (n := l[i % l.length] + (dq : Int)) (by omega) (by omega), w64 (n := top + 1) (by omega) (by omega)]
   rw [za8 _ _ _ _ (by omega), zaa, Int.tmod_eq_emod_of_nonneg (by omega)]
   simp only [go_sem]
   have m1 := Int.emod_nonneg (l[i % l.length] + (dq : Int)) (show top + 1 ≠ 0 by omega)
   have m2 := Int.emod_lt_of_pos (l[i % l.length] + (dq : Int)) (show 0 < top + 1 by omega)
   rw [wu16 m1 (by omega)]
   have hgi : (l[i % l.length] + (dq : Int)) % (top + 1) = g i := by
    rw [hgi0, if_pos hl0]
    simp [List.getD_eq_getElem?_getD, hil]
   rw [hgi]
   obtain ⟨q, q1, q2⟩ := Own.at_mapU o3 (k := .i64) hi'
   rw [q1, zaa]
   refine q2 _ _ fun h6 o6 f6 => ?_
   rw [w64 (by omega) (by omega)]
   refine Hag () h6 hi' ⟨E3.then_fr f6 n2, ?_⟩
   simp only [stp] at o6
   exact o6
  ·rw [w64 (by omega) (by omega)]
   refine Hag () h3 hi' ⟨E3, ?_⟩
   have hg0 : g i = 0 := by rw [hgx, if_neg (by omega)]
   rw [← zaw (g := fun j => Value.int .u16 (if j < i then g j else 0)) fun j _ => by
    congr 1
    rw [← stp j, hg0]
    by_cases h1 : j = i
    ·rw [if_pos h1, if_neg (by omega)]
    ·rw [if_neg h1]]
   exact o3
 ·have hin : i = n := by omega
  subst hin
  have o4 : Own 1 h3 u (drawP w hh c most l).l.length (u16s (drawP w hh c most l).l) := by
   rw [hpl, List.length_map, List.length_range, u16s, List.map_map]
   rw [← zaw (g := fun j => Value.int .u16 (if j < i then g j else 0)) fun j hj => by rw [if_pos hj]; rfl]
   exact o3
  have hcode : imgC (1 + w % 20) (1 + hh % 20) (1 + 2 * (c % 2)) top = 0 := ziC.2 ⟨PW.fits, htb.1, htb.2⟩
  have hlen := PW.len
  refine (c_imgOf (zpI o4) hcode hlen fun x hx => by have := PW.smp x hx; rw [show (drawP w hh c most l).most = top from htop] at this; exact this).mono fun r h5 ⟨p, e, N⟩ => ?_
  subst e
  simp only [go_sem]
  have N2 : zlH h3 h5 p (drawP w hh c most l) := by
   have : drawP w hh c most l = ⟨1 + w % 20, 1 + hh % 20, 1 + 2 * (c % 2), top, (drawP w hh c most l).l⟩ := by rw [← htop]; rfl
   rw [this]; exact N
  obtain ⟨b, x, e1, e2', e3', e4', e5'⟩ := N2
  exact ⟨b, x, e1, e2', Nat.le_trans E3.1 e3', fun c hc => Nat.le_trans E3.1 (e4' c hc), E3.trans e5'⟩
theorem zk8 {k : IntKind} {h : Heap} {b : Nat} {t : TypeId} {l : List Int} {n : Nat} (hn : l.length = n) (hb : h[b]? = some (.cells (l.map fun n => Value.int k n).toArray t (0, 0))) : Rp.Sl (Rp.int k) (fun k => k = b) h (.slice (some ⟨b, 0, none⟩) n n) l := by
 subst hn
 refine ⟨l.map (Value.int k), ⟨by simp [Rp.int], _, _, rfl, .inr ⟨b, 0, rfl, fun j hj => ?_⟩⟩, fun _ k hk => hk, fun i hi => ?_⟩
 ·rw [Nat.zero_add, zac hb]
  simp at hj
  simp [hj]
 ·show Rp.el 1 _ i = [.int k l[i]]
  rw [Rp.el_one (by simpa using hi), List.getElem_map]
theorem c_l5Lives {h : Heap} (G : GlobB h) : FCall prog zhD #[] h fun r h' => r = .bool true ∧ Ext h h' := by
 apply zpi
 unfold zjL
 refine (c_rawRow G).mono fun w h1 ⟨u, e, N⟩ => ?_
 subst e
 have e1 : zbn 0 4 2 1 = 2 := by decide +kernel
 have e2 : za6 0 4 2 1 = [536870912, 536870912] := by decide +kernel
 rw [e1]
 rw [e2] at N
 obtain ⟨a, c, eu⟩ := N.isSl
 have e3 : zag u = some (.int .i64 2) := by rw [eu]; rfl
 obtain ⟨p, p1, p2⟩ := N.sl.int_at (k' := .i64) (i := 0) (by simp)
 obtain ⟨q, q1, q2⟩ := N.sl.int_at (k' := .i64) (i := 1) (by simp)
 have p1 : idxV 1 u (.int .i64 0) = some p := p1
 have q1 : idxV 1 u (.int .i64 1) = some q := q1
 have p2 : ldV h1 p = some (.int .i64 536870912) := p2
 have q2 : ldV h1 q = some (.int .i64 536870912) := q2
 simp only [go_sem, e3, p1, p2, q1, q2, eq_self, decide_true]
 refine (c_Keys (by omega) (by unfold I64; omega)).mono fun w h2 ⟨e, wq⟩ => ?_
 have wq := wq.symm
 subst e wq
 have k1 : keysZ 0 1 = 1073741824 := by decide +kernel
 have k2 : keysZ 1 2 = 603979776 := by decide +kernel
 rw [k1]
 simp only [go_sem, eq_self, decide_true]
 refine (c_Keys (by omega) (by unfold I64; omega)).mono fun w h2 ⟨e, wq⟩ => ?_
 have wq := wq.symm
 subst e wq
 rw [k2]
 simp only [go_sem, eq_self, decide_true]
 exact ⟨by simp, N.2.1⟩
theorem c_l6Lives {h : Heap} : FCall prog zhC #[] h fun r h' => r = .bool true ∧ Ext h h' := by
 apply zph
 unfold zjK
 refine zb5 (c' := #[.int .i64 536870912, .int .i64 536870912, .int .i64 536870912]) rfl fun b1 h1 r1 e1 n1 => ?_
 have S1 := zk8 (k := .i64) (l := [536870912, 536870912, 536870912]) (n := 3) rfl r1
 have w1 : ∀ x ∈ [(536870912 : Int), 536870912, 536870912], I64 x := by simp [I64]
 refine (zke S1 w1 (by simp)).mono fun w h2 ⟨u, e, N⟩ => ?_
 subst e
 have a1 : za0 [536870912, 536870912, 536870912] = 0 := by decide +kernel
 have a2 : zaF [536870912, 536870912, 536870912] = [5462, 5461, 5461] := by decide +kernel
 rw [a1]
 rw [a2] at N
 simp only [go_sem]
 refine (zp8 (by unfold I64; omega)).mono fun w h3 ⟨x, e, M⟩ => ?_
 subst e
 have b1' : zox 65536 = 0 := by decide +kernel
 have b2' : (zgk 65536).length = 7 := by decide +kernel
 rw [b1']
 obtain ⟨ax, cx, ex⟩ := M.isSl
 have ex2 : zag x = some (.int .i64 7) := by rw [ex, b2']; rfl
 simp only [go_sem, eq_self, decide_true]
 refine zb5 (c' := #[.int .i64 5462, .int .i64 5461, .int .i64 5461]) rfl fun b4 h4 r4 e4 n4 => ?_
 have S4 := zk8 (k := .i64) (l := [5462, 5461, 5461]) (n := 3) rfl r4
 refine (c_Same06 (N.sl.ext (M.2.1.trans e4)) S4 (by simp)).mono fun w h5 ⟨e, wq⟩ => ?_
 have wq := wq.symm
 subst e wq
 simp only [go_sem, eq_self, decide_true, ex2]
 exact ⟨by simp, e1.trans (N.2.1.trans (M.2.1.trans e4))⟩
theorem livesT_eq : zbG 0 4 2 = ⟨4, [(0, [8192, 8192]), (2, [8192, 8192])]⟩ := by
 have e : (zbG 0 4 2).lines = [(0, [8192, 8192]), (2, [8192, 8192])] := by decide +kernel
 show (⟨4, (zbG 0 4 2).lines⟩ : Tbl) = _
 rw [e]
theorem zom : (⟨4, [(0, [8192, 8192]), (2, [8192, 8192])]⟩ : Tbl).Wf := by
 constructor <;> simp
theorem c_l8Lives {h : Heap} (G : GlobB h) : FCall prog zhB #[] h fun r h' => r = .bool true ∧ Ext h h' := by
 apply zpg
 unfold zjJ
 refine (c_l5Lives G).mono fun w h1 ⟨e, e1⟩ => ?_
 subst e
 simp only [go_sem]
 refine c_l6Lives.mono fun w h2 ⟨e, e2⟩ => ?_
 subst e
 simp only [go_sem]
 refine (zrx (G.ext (e1.trans e2)) (by unfold I64; omega) (by unfold I64; omega) (by unfold I64; omega)).mono fun w h3 ⟨p, e, e3, _, s1⟩ => ?_
 subst e
 have a1 : zbd 0 4 2 = 0 := by decide +kernel
 have T := s1 a1
 rw [livesT_eq] at T
 rw [a1]
 obtain ⟨pb, _, _, hp, _⟩ := T
 have T := s1 a1
 rw [livesT_eq] at T
 have np : binV .p .eql p (.pointer none) = some (.bool false) := by rw [hp]; rfl
 simp only [go_sem, eq_self, decide_true, np]
 refine (zmY T zom).mono fun w h4 ⟨u, e, U, e4⟩ => ?_
 subst e
 have l1 : lineT ⟨4, [(0, [8192, 8192]), (2, [8192, 8192])]⟩ 1 = (2, [8192, 8192]) := by rfl
 rw [l1] at U ⊢
 refine za1 (cs := [.int .i64 2, u]) rfl (zad rfl (zad U.one zao)) rfl fun b5 h5 r5 e5 n5 => ?_
 refine (c_Reach (T.ext (e4.trans e5)) zom (by unfold I64; omega) (by unfold I64; omega)).mono fun w h6 ⟨e, e6⟩ => ?_
 subst e
 have l2 : zjR ⟨4, [(0, [8192, 8192]), (2, [8192, 8192])]⟩ 0 2 = (0, 4) := by decide +kernel
 rw [l2]
 simp only [go_sem]
 refine (zmY (T.ext (e4.trans (e5.trans e6))) zom).mono fun w h7 ⟨u2, e, U2, e7⟩ => ?_
 subst e
 have l0 : lineT ⟨4, [(0, [8192, 8192]), (2, [8192, 8192])]⟩ 0 = (0, [8192, 8192]) := by rfl
 rw [l0]
 have pv : partV false 1 0 (.agg #[.int .i64 0, u2]) = some (.int .i64 0) := rfl
 have r5' := (e6.trans e7).row r5
 simp only [go_sem, pv, eq_self, decide_true, zac r5']
 refine zb5 (c' := #[.int .i64 8192, .int .i64 8192]) rfl fun b8 h8 r8 e8 n8 => ?_
 have S8 := zk8 (k := .i64) (l := [8192, 8192]) (n := 2) rfl r8
 refine (c_Same06 (U.ext (e5.trans (e6.trans (e7.trans e8)))) S8 (by simp)).mono fun w h9 ⟨e, wq⟩ => ?_
 have wq := wq.symm
 subst e wq
 simp only [go_sem, eq_self, decide_true]
 exact ⟨by simp, e1.trans (e2.trans (e3.trans (e4.trans (e5.trans (e6.trans (e7.trans e8))))))⟩
theorem znh {Z : Nat → Prop} {h : Heap} {k b s r f w hh : Int} : rOp.R Z h [.int .i64 k, .int .i64 b, .int .i64 s, .int .i64 r, .slice none 0 0, .slice none 0 0, .int .i64 f, .int .i64 w, .int .i64 hh] ⟨k, b, s, r, [], [], f, w, hh⟩ := ⟨_, _, rfl, Rp.Sl.nil, Rp.Sl.nil⟩
theorem zng {k b s r f w hh : Int} (h : ∀ x ∈ [k, b, s, r, f, w, hh], I64 x) : OpD.Wf ⟨k, b, s, r, [], [], f, w, hh⟩ := by
 constructor <;> first | exact h _ (by simp) | simp
theorem zp3 {h : Heap} (G : GlobB h) : FCall prog ze8 #[] h fun r h' => r = .bool true ∧ Ext h h' := by
 apply zpd
 unfold zjG
 have hf : (fillL #[(.int .i64 0), (.int .i64 0), (.int .i64 0), (.int .i64 0), (.slice none 0 0), (.slice none 0 0), (.int .i64 0), (.int .i64 0), (.int .i64 0)] [(0, 1, (.int .i64 3)), (7, 1, (.int .i64 2)), (8, 1, (.int .i64 1)), (6, 1, (.int .i64 0))]) = some #[.int .i64 3, .int .i64 0, .int .i64 0, .int .i64 0, .slice none 0 0, .slice none 0 0, .int .i64 0, .int .i64 2, .int .i64 1] := rfl
 rw [hf, zaA, zaa]
 have wf : OpD.Wf ⟨3, 0, 0, 0, [], [], 0, 2, 1⟩ := zng (by simp [I64])
 refine (c_Make (Z := fun _ => True) G znh wf (by simp) (by simp) (by unfold I64; omega) (by unfold I64; omega)).mono fun w h1 ⟨sv, e, e1, _, s1⟩ => ?_
 subst e
 have a1 : makeC ⟨3, 0, 0, 0, [], [], 0, 2, 1⟩ 4 3 = 0 := by decide +kernel
 obtain ⟨p, q, rfl, tp, tq⟩ := s1 a1
 rw [a1]
 simp only [go_sem]
 refine za1 (cs := [p, q, .int .i64 _]) rfl (zad (zeI tp) (zad (zeI tq) (zad rfl zao))) rfl fun b2 h2 r2 e2 n2 => ?_
 refine (c_l8Lives (G.ext (e1.trans e2))).mono fun w h3 ⟨e, e3⟩ => ?_
 subst e
 have r2' := e3.row r2
 have tp3 := tp.ext (e2.trans e3)
 have tq3 := tq.ext (e2.trans e3)
 have np : binV .p .neq p (.pointer none) = some (.bool true) := by obtain ⟨_, _, _, hp, _⟩ := tp; rw [hp]; rfl
 have nq : binV .p .neq q (.pointer none) = some (.bool true) := by obtain ⟨_, _, _, hp, _⟩ := tq; rw [hp]; rfl
 simp only [go_sem, eq_self, decide_true, zac r2', np, nq]
 refine (c_From tp3).mono fun w h4 ⟨e, wq⟩ => ?_
 have wq := wq.symm
 subst e wq
 have t1 : (makeS ⟨3, 0, 0, 0, [], [], 0, 2, 1⟩ 4 3).x.n = 4 := rfl
 have t2 : ((makeS ⟨3, 0, 0, 0, [], [], 0, 2, 1⟩ 4 3).x.lines.length : Int) = 2 := by decide +kernel
 have t3 : (makeS ⟨3, 0, 0, 0, [], [], 0, 2, 1⟩ 4 3).y.n = 3 := rfl
 have t4 : ((makeS ⟨3, 0, 0, 0, [], [], 0, 2, 1⟩ 4 3).y.lines.length : Int) = 1 := by decide +kernel
 rw [t1]
 simp only [go_sem, eq_self, decide_true, zac r2', np, nq]
 refine (c_To tp3).mono fun w h4 ⟨e, wq⟩ => ?_
 have wq := wq.symm
 subst e wq
 rw [t2]
 simp only [go_sem, eq_self, decide_true, zac r2', np, nq]
 refine (c_From tq3).mono fun w h4 ⟨e, wq⟩ => ?_
 have wq := wq.symm
 subst e wq
 rw [t3]
 simp only [go_sem, eq_self, decide_true, zac r2', np, nq]
 refine (c_To tq3).mono fun w h4 ⟨e, wq⟩ => ?_
 have wq := wq.symm
 subst e wq
 rw [t4]
 simp only [go_sem, eq_self, decide_true]
 exact ⟨by simp, e1.trans (e2.trans e3)⟩
theorem c_l9Lives {h : Heap} : FCall prog zhz #[] h fun r h' => r = .bool true ∧ Ext h h' := by
 apply zpe
 unfold zjH
 refine zi4.mono fun w h1 ⟨p, e, e1, _, s1⟩ => ?_
 subst e
 have a1 : imgC 2 1 3 255 = 0 := by decide +kernel
 obtain ⟨b, v, rfl, I, nb, nv, _⟩ := s1 a1
 have W := zl5 a1
 rw [a1]
 have np : binV .p .neq (ptr b) (.pointer none) = some (.bool true) := rfl
 simp only [go_sem, eq_self, decide_true, np]
 refine (c_Samples I W).mono fun u h2 N => ?_
 obtain ⟨au, cu, eu⟩ := N.isSl
 have eu2 : zag u = some (.int .i64 6) := by rw [eu]; rfl
 simp only [go_sem, eq_self, decide_true, eu2]
 refine (c_Set (I.ext N.2.1) W (by omega) (by omega)).mono fun r h3 ⟨e, I3, f3, s3⟩ => ?_
 subst e
 have a2 : ¬ (inP (imgN 2 1 3 255) 1 0 2 ∧ (256 : Int) ≤ (imgN 2 1 3 255).most) := by decide +kernel
 rw [if_neg a2] at I3
 rw [decide_eq_false a2]
 simp only [go_sem]
 refine (c_Set I3 W (by omega) (by omega)).mono fun r h4 ⟨e, I4, f4, s4⟩ => ?_
 subst e
 have a3 : inP (imgN 2 1 3 255) 1 0 2 ∧ (255 : Int) ≤ (imgN 2 1 3 255).most := by decide +kernel
 rw [decide_eq_true a3]
 simp only [go_sem]
 exact ⟨by simp, ((e1.trans N.2.1).then_fr f3 nv).then_fr f4 nv⟩
def atZ (p j n : Int) : Int := if n < 1 ∨ 65536 < n then 0 else if p = 0 then max 0 (min j (n - 1)) else if p = 1 then min (j % (2 * n)) (2 * n - 1 - j % (2 * n)) else if p = 2 then j % n else 0
theorem zi5 {h : Heap} {p j n : Int} (hj : I64 j) : FCall prog zeg #[.int .i64 p, .int .i64 j, .int .i64 n] h fun r h' => r = .int .i64 (atZ p j n) ∧ h' = h := by
 apply ok_border_At
 unfold zmO atZ
 simp only [go_sem]
 refine zab (fun h0 => ?_) (fun h0 => ?_)
 ·rw [if_pos h0]; exact ⟨rfl, trivial⟩
 rw [if_neg h0]
 have a1 := Int.emod_nonneg j (show 2 * n ≠ 0 by omega)
 have a2 := Int.emod_lt_of_pos j (show 0 < 2 * n by omega)
 refine zab (fun h1 => ?_) (fun h1 => ?_)
 ·rw [if_pos h1, w64 (by omega) (by omega)]
  exact c_Clamp
 rw [if_neg h1]
 refine zab (fun h2 => ?_) (fun h2 => ?_)
 ·rw [if_pos h2, w64 (n := 2 * n) (by omega) (by omega)]
  refine (c_Mod hj (by unfold I64; omega) (by omega)).mono fun v h' ⟨e, w⟩ => ?_
  subst e
  simp only [go_sem]
  rw [w64 (n := 2 * n - 1) (by omega) (by omega), w64 (by omega) (by omega)]
  exact ⟨rfl, w⟩
 rw [if_neg h2]
 refine zab (fun h3 => ?_) (fun h3 => ?_)
 ·rw [if_pos h3]
  exact c_Mod hj (by unfold I64; omega) (by omega)
 ·rw [if_neg h3]; exact ⟨rfl, trivial⟩
theorem tmod_two (j b : Int) (hb : 0 < b) : (0 ≤ j.tmod b ∧ j.tmod b = j % b) ∨ (j.tmod b < 0 ∧ j.tmod b = j % b - b) := by
 have e := @Int.emod_eq_tmod j b
 have hl := Int.emod_nonneg j (show b ≠ 0 by omega)
 have hl2 := Int.emod_lt_of_pos j hb
 split at e
 ·left; omega
 ·by_cases h : j.tmod b < 0
  ·right; omega
  ·omega
theorem c_r7At {h : Heap} {p j n : Int} (hj : I64 j) : FCall prog zja #[.int .i64 p, .int .i64 j, .int .i64 n] h fun r h' => r = .int .i64 (atZ p j n) ∧ h' = h := by
 apply ok_ref07_At
 unfold znH atZ
 simp only [go_sem]
 refine zab (fun h0 => ?_) (fun h0 => ?_)
 ·refine ⟨?_, trivial⟩
  congr 1
  split
  ·rfl
  ·split
   ·omega
   ·split
    ·omega
    ·split
     ·omega
     ·rfl
 rw [if_neg (by omega)]
 have a1 := Int.emod_nonneg j (show 2 * n ≠ 0 by omega)
 have a2 := Int.emod_lt_of_pos j (show 0 < 2 * n by omega)
 have a3 := Int.emod_emod_of_dvd j (show n ∣ 2 * n from ⟨2, by omega⟩)
 refine zab (fun h1 => ?_) (fun h1 => ?_)
 ·refine ⟨?_, trivial⟩
  congr 1
  have e1 := Int.emod_eq_of_lt h1.1 (show j < 2 * n by omega)
  have e2 := Int.emod_eq_of_lt h1.1 h1.2
  rw [e1, e2]
  split
  ·omega
  ·split
   ·omega
   ·split <;> omega
 refine zab (fun h2 => ?_) (fun h2 => ?_)
 ·rw [if_pos h2]
  refine zab (fun h3 => ?_) (fun h3 => ?_)
  ·exact ⟨by congr 1; omega, trivial⟩
  ·rw [w64 (by omega) (by omega)]
   exact ⟨by congr 1; omega, trivial⟩
 rw [if_neg h2, w64 (n := 2 * n) (by omega) (by omega), za8 _ _ _ _ (by omega), zaa]
 have fin : ∀ r : Int, r = j % (2 * n) → iteK (.bool (decide (r < n))) (Value.int .i64 r = .int .i64 (if p = 1 then min (j % (2 * n)) (2 * n - 1 - j % (2 * n)) else if p = 2 then j % n else 0) ∧ True)
   (iteK (.bool (decide (p = 2))) (Value.int .i64 (IntKind.i64.wrap (r - n)) = .int .i64 (if p = 1 then min (j % (2 * n)) (2 * n - 1 - j % (2 * n)) else if p = 2 then j % n else 0) ∧ True)
    (Value.int .i64 (IntKind.i64.wrap (IntKind.i64.wrap (2 * n - 1) - r)) = .int .i64 (if p = 1 then min (j % (2 * n)) (2 * n - 1 - j % (2 * n)) else if p = 2 then j % n else 0) ∧ True)) := by
  intro r hr
  rw [← a3, ← hr]
  rw [← hr] at a1 a2
  refine zab (fun h3 => ?_) (fun h3 => ?_)
  ·have e := Int.emod_eq_of_lt a1 h3
   refine ⟨?_, trivial⟩
   congr 1
   rw [e]
   split
   ·omega
   ·split <;> omega
  ·have e : r % n = r - n := by
    rw [← Int.sub_emod_right]
    exact Int.emod_eq_of_lt (by omega) (by omega)
   refine zab (fun h4 => ?_) (fun h4 => ?_)
   ·rw [w64 (by omega) (by omega)]
    refine ⟨?_, trivial⟩
    congr 1
    rw [if_neg (by omega), if_pos h4, e]
   ·rw [w64 (n := 2 * n - 1) (by omega) (by omega), w64 (by omega) (by omega)]
    refine ⟨?_, trivial⟩
    congr 1
    rw [if_pos (by omega)]
    omega
 rcases tmod_two j (2 * n) (by omega) with ⟨t1, t2⟩ | ⟨t1, t2⟩
 ·refine zc2 (fun _ => [.int .i64 (j.tmod (2 * n))]) 0 0 rfl (Nat.le_refl _) fun k again ρj _ hk _ => ?_
  simp only [go_sem]
  refine zab (fun h3 => absurd h3 (by omega)) (fun h3 => ?_)
  exact fin _ t2
 ·refine zc2 (fun k => [.int .i64 (j.tmod (2 * n) + (k : Int) * (2 * n))]) 1 0 (by simp) (by omega) fun k again ρj _ hk H => ?_
  simp only [go_sem]
  refine zab (fun h3 => ?_) (fun h3 => ?_)
  ·have hk0 : k = 0 := by
    rcases Nat.eq_zero_or_pos k with h4 | h4
    ·exact h4
    ·have : k = 1 := by omega
     subst this
     omega
   subst hk0
   have H := H (by omega)
   rw [w64 (by omega) (by omega)]
   simpa using H
  ·have hk1 : k = 1 := by
    rcases Nat.eq_zero_or_pos k with h4 | h4
    ·subst h4; simp at h3; omega
    ·omega
   subst hk1
   have e : j.tmod (2 * n) + ((1 : Nat) : Int) * (2 * n) = j % (2 * n) := by omega
   rw [e]
   exact fin _ rfl
end Go.Proofs.YtdbebmafgpdfhaaGreatDoor
namespace Go.Crisp
open Go
def sumN (f : Nat → Int) : Nat → Int
 | 0 => 0
 | n + 1 => sumN f n + f n
theorem ziX {f g : Nat → Int} : ∀ {n : Nat}, (∀ i, i < n → f i = g i) → sumN f n = sumN g n
 | 0, _ => rfl
 | n + 1, h => by unfold sumN; rw [ziX fun i hi => h i (by omega), h n (by omega)]
theorem zqk (a : Int) (f : Nat → Int) : ∀ n, sumN (fun i => a * f i) n = a * sumN f n
 | 0 => by simp [sumN]
 | n + 1 => by unfold sumN; rw [zqk a f n, Int.mul_add]
theorem sumN_add (f g : Nat → Int) : ∀ n, sumN (fun i => f i + g i) n = sumN f n + sumN g n
 | 0 => by simp [sumN]
 | n + 1 => by unfold sumN; rw [sumN_add f g n]; omega
theorem sumN_zero : ∀ n, sumN (fun _ => 0) n = 0
 | 0 => rfl
 | n + 1 => by unfold sumN; rw [sumN_zero n]; rfl
theorem sumN_swap (f : Nat → Nat → Int) (m : Nat) : ∀ n, sumN (fun i => sumN (fun j => f i j) m) n = sumN (fun j => sumN (fun i => f i j) n) m
 | 0 => by simp only [sumN]; rw [sumN_zero]
 | n + 1 => by
  simp only [sumN]
  rw [sumN_swap f m n, ← sumN_add]
theorem zkr (A a v : Int) : IntKind.i64.wrap (IntKind.i64.wrap A + IntKind.i64.wrap (a * v)) = IntKind.i64.wrap (A + a * v) := by rw [zgG, zfb]
theorem wrap_step3 (A a b v : Int) : IntKind.i64.wrap (IntKind.i64.wrap A + IntKind.i64.wrap (IntKind.i64.wrap (a * b) * v)) = IntKind.i64.wrap (A + b * (a * v)) := by
 rw [ziV, zgG, zfb]
 congr 1
 rw [Int.mul_comm a b, Int.mul_assoc]
def zhU (s most : Int) : Int := max 0 (min (zfo s 28) (max 0 (min most 65535)))
theorem roundZ_bd (s : Int) {most : Int} (h : 0 ≤ most) : 0 ≤ zhU s most ∧ zhU s most ≤ 65535 ∧ zhU s most ≤ most := by unfold zhU; omega
end Go.Crisp
namespace Go.Proofs.YtdbebmafgpdfhaaGreatDoor
open Go Go.Crisp
attribute [local irreducible] FCall rowK newK stK iteK vK qK drawK gK joinK loopK mkK appK cpyK zni zla bsK clK
open _root_.Go.Proofs.Tryz
def zgy (m : Pic) (s : Stg) (x row c : Int) : Int := sumN (fun i => (lineT s.x x).2.getD i 0 * atP m (atZ s.border ((lineT s.x x).1 + i) m.w) row c) (lineT s.x x).2.length
def totZ (m : Pic) (s : Stg) (x y c : Int) : Int := sumN (fun k => (lineT s.y y).2.getD k 0 * zgy m s x (atZ s.border ((lineT s.y y).1 + k) m.h) c) (lineT s.y y).2.length
def pixZ (m : Pic) (s : Stg) (x y c : Int) : Int := zhU (IntKind.i64.wrap (totZ m s x y c)) m.most
structure Stg.Wf (s : Stg) : Prop where
 x : s.x.Wf
 y : s.y.Wf
def zh6 (m : Pic) (s : Stg) : Prop := s.x.n = m.w ∧ s.y.n = m.h ∧ 0 ≤ s.border ∧ s.border < 3
instance (m : Pic) (s : Stg) : Decidable (zh6 m s) := by unfold zh6; infer_instance
theorem c_Round {h : Heap} {n most : Int} (hn : I64 n) : FCall prog zes #[.int .i64 n, .int .i64 most] h fun r h' => r = .int .u16 (zhU n most) ∧ h' = h := by
 apply zoe
 unfold zin
 refine (zrw hn (by unfold I64; omega)).mono fun r h1 ⟨e, wq⟩ => ?_
 have wq := wq.symm
 subst e wq
 simp only [go_sem]
 refine c_Clamp.mono fun r h1 ⟨e, wq⟩ => ?_
 have wq := wq.symm
 subst e wq
 simp only [go_sem]
 rw [wu16 (by omega) (by omega)]
 exact ⟨rfl, trivial⟩
theorem zdB {Z : Nat → Prop} {h : Heap} {sv : Value} {s : Stg} (H : IsStg Z h sv s) : ∃ p q, sv = .agg #[p, q, .int .i64 s.border] ∧ IsTbl Z h p s.x ∧ IsTbl Z h q s.y ∧ (∀ v ∈ [p, q, Value.int .i64 s.border], zar v = true) := by
 obtain ⟨p, q, e, hp, hq⟩ := H
 exact ⟨p, q, e, hp, hq, zad (zeI hp) (zad (zeI hq) (zad rfl zao))⟩
theorem zps {Z : Nat → Prop} {h : Heap} {p : Value} {t : Tbl} (H : IsTbl Z h p t) : binV .p .neq p (.pointer none) = some (.bool true) ∧ binV .p .eql p (.pointer none) = some (.bool false) := by
 obtain ⟨_, _, _, hp, _⟩ := H
 rw [hp]
 exact ⟨rfl, rfl⟩
theorem c_Suits {h : Heap} (G : GlobB h) {Z : Nat → Prop} {b : Nat} {v sv : Value} {m : Pic} {s : Stg} (H : IsImg h b v m) (HS : IsStg Z h sv s) : FCall prog zdd #[ptr b, sv] h fun r h' => r = .bool (decide (zh6 m s)) ∧ Ext h h' := by
 apply zod
 unfold zim
 obtain ⟨p, q, rfl, hp, hq, ones⟩ := zdB HS
 simp only [zaG]
 refine zai fun b1 h1 r1 e1 n1 => ?_
 have np := (zps hp).1
 have nq := (zps hq).1
 have hp := hp.ext e1
 have hq := hq.ext e1
 have H := H.ext e1
 have q0 : zah h1 ⟨b1, 0, none⟩ = some p := zac r1
 have q1 : zah h1 ⟨b1, 1, none⟩ = some q := zac r1
 have q2 : zah h1 ⟨b1, 2, none⟩ = some (.int .i64 s.border) := zac r1
 simp only [go_sem, Nat.zero_add, q0, q1, q2, np, nq]
 refine (c_From hp).mono fun r h2 ⟨e, wq⟩ => ?_
 have wq := wq.symm
 subst e wq
 refine (zkc H).mono fun r h2 ⟨e, wq⟩ => ?_
 have wq := wq.symm
 subst e wq
 simp only [go_sem]
 by_cases h1' : s.x.n = m.w
 ·simp only [go_sem, h1', q1, q2]
  refine (c_From hq).mono fun r h2 ⟨e, wq⟩ => ?_
  have wq := wq.symm
  subst e wq
  refine (zhh H).mono fun r h2 ⟨e, wq⟩ => ?_
  have wq := wq.symm
  subst e wq
  simp only [go_sem]
  by_cases h2' : s.y.n = m.h
  ·simp only [go_sem, h2', q2]
   refine (zmX (G.ext e1)).mono fun r h2 ⟨e, wq⟩ => ?_
   have wq := wq.symm
   subst e wq
   try rw [S_nil, zrB]
   simp only [go_sem]
   refine ⟨?_, e1⟩
   congr 1
   have hb := bNameNil s.border
   by_cases hbn : bName s.border = []
   ·rw [decide_eq_false (by simpa using hbn), decide_eq_false]
    unfold zh6
    have := hb.1 hbn
    rintro ⟨_, _, a, b⟩
    exact this ⟨a, b⟩
   ·rw [decide_eq_true (by simpa using hbn), decide_eq_true]
    have := Decidable.of_not_not fun hh => hbn (hb.2 hh)
    exact ⟨h1', h2', this.1, this.2⟩
  ·simp only [go_sem, h2']
   refine ⟨?_, e1⟩
   rw [decide_eq_false]
   rintro ⟨_, a, _⟩
   exact h2' a
 ·simp only [go_sem, h1']
  refine ⟨?_, e1⟩
  rw [decide_eq_false]
  rintro ⟨a, _⟩
  exact h1' a
abbrev LV : Type := Option (Nat × Option Bool)
abbrev zeroL : Array Value := #[.int .i64 0, .slice none 0 0]
def lvAt (h : Heap) (Lx Ly : Int × List Int) (ux uy : Option Value) (b : Nat) : Option Bool → Prop
 | none => h[b]? = some (.cells zeroL 160 (0, 0))
 | some true => ∃ u, ux = some u ∧ Two h b 160 (.int .i64 Lx.1) u
 | some false => ∃ u, uy = some u ∧ Two h b 160 (.int .i64 Ly.1) u
theorem lvAt.row {h : Heap} {Lx Ly : Int × List Int} {ux uy : Option Value} {b : Nat} : ∀ {s : Option Bool}, lvAt h Lx Ly ux uy b s → b < h.size
 | none, H => zay H
 | some true, ⟨u, _, r⟩ => zay r
 | some false, ⟨u, _, r⟩ => zay r
theorem lvAt.up {h h' : Heap} {Lx Ly : Int × List Int} {ux uy ux' uy' : Option Value} {b : Nat} (e : h'[b]? = h[b]?) (kx : ∀ u, ux = some u → ux' = some u) (ky : ∀ u, uy = some u → uy' = some u) : ∀ {s : Option Bool}, lvAt h Lx Ly ux uy b s → lvAt h' Lx Ly ux' uy' b s
 | none, H => by show h'[b]? = _; rw [e]; exact H
 | some true, ⟨u, hu, r⟩ => ⟨u, kx u hu, by show h'[b]? = _; rw [e]; exact r⟩
 | some false, ⟨u, hu, r⟩ => ⟨u, ky u hu, by show h'[b]? = _; rw [e]; exact r⟩
def apart (v1 v2 : LV) (c : Nat) : Prop := (∀ p, v1 = some p → p.1 ≠ c) ∧ (∀ p, v2 = some p → p.1 ≠ c)
structure LnMk (h0 : Heap) (Lx Ly : Int × List Int) (ux uy : Option Value) (v1 v2 : LV) (h : Heap) : Prop where
 ext : Ext h0 h
 lx : ∀ u, ux = some u → SlI (apart v1 v2) h u Lx.2
 ly : ∀ u, uy = some u → SlI (apart v1 v2) h u Ly.2
 at1 : ∀ p, v1 = some p → h0.size ≤ p.1 ∧ lvAt h Lx Ly ux uy p.1 p.2
 at2 : ∀ p, v2 = some p → h0.size ≤ p.1 ∧ lvAt h Lx Ly ux uy p.1 p.2
 dis : ∀ p q, v1 = some p → v2 = some q → p.1 ≠ q.1
theorem LnMk.start (h : Heap) (Lx Ly : Int × List Int) : LnMk h Lx Ly none none none none h := ⟨Ext.refl _, by simp, by simp, by simp, by simp, by simp⟩
theorem LnMk.line_x {h0 h : Heap} {uy : Option Value} {v1 v2 : LV} {Ly : Int × List Int} {Z : Nat → Prop} {p : Value} {t : Tbl} {x : Int} {K : Value → Heap → Prop} (M : LnMk h0 (lineT t x) Ly none uy v1 v2 h) (T : IsTbl Z h0 p t) (W : t.Wf)
  (H : ∀ u h', LnMk h0 (lineT t x) Ly (some u) uy v1 v2 h' → K (.agg #[.int .i64 (lineT t x).1, u]) h') : FCall prog zak #[p, .int .i64 x] h K := by
 refine (zmY (T.ext M.ext) W (i := x)).mono fun r h' ⟨u, e, S, E⟩ => ?_
 subst e
 have hv : ∀ (v : LV), (∀ p, v = some p → h0.size ≤ p.1 ∧ lvAt h (lineT t x) Ly none uy p.1 p.2) → ∀ p, v = some p → h0.size ≤ p.1 ∧ lvAt h' (lineT t x) Ly (some u) uy p.1 p.2 := fun v a p hp =>
  ⟨(a p hp).1, (a p hp).2.up (E.2 _ (a p hp).2.row) (by simp) fun _ => id⟩
 refine H u h' ⟨M.ext.trans E, fun w hw => ?_, fun w hw => (M.ly w hw).ext E, hv _ M.at1, hv _ M.at2, M.dis⟩
 cases hw
 refine S.mono fun c _ hz => ⟨fun p hp he => ?_, fun p hp he => ?_⟩
 ·have := (M.at1 p hp).2.row; omega
 ·have := (M.at2 p hp).2.row; omega
theorem LnMk.line_y {h0 h : Heap} {ux : Option Value} {v1 v2 : LV} {Lx : Int × List Int} {Z : Nat → Prop} {p : Value} {t : Tbl} {x : Int} {K : Value → Heap → Prop} (M : LnMk h0 Lx (lineT t x) ux none v1 v2 h) (T : IsTbl Z h0 p t) (W : t.Wf)
  (H : ∀ u h', LnMk h0 Lx (lineT t x) ux (some u) v1 v2 h' → K (.agg #[.int .i64 (lineT t x).1, u]) h') : FCall prog zak #[p, .int .i64 x] h K := by
 refine (zmY (T.ext M.ext) W (i := x)).mono fun r h' ⟨u, e, S, E⟩ => ?_
 subst e
 have hv : ∀ (v : LV), (∀ p, v = some p → h0.size ≤ p.1 ∧ lvAt h Lx (lineT t x) ux none p.1 p.2) → ∀ p, v = some p → h0.size ≤ p.1 ∧ lvAt h' Lx (lineT t x) ux (some u) p.1 p.2 := fun v a p hp =>
  ⟨(a p hp).1, (a p hp).2.up (E.2 _ (a p hp).2.row) (fun _ => id) (by simp)⟩
 refine H u h' ⟨M.ext.trans E, fun w hw => (M.lx w hw).ext E, fun w hw => ?_, hv _ M.at1, hv _ M.at2, M.dis⟩
 cases hw
 refine S.mono fun c _ hz => ⟨fun p hp he => ?_, fun p hp he => ?_⟩
 ·have := (M.at1 p hp).2.row; omega
 ·have := (M.at2 p hp).2.row; omega
theorem LnMk.new_1 {h0 h : Heap} {Lx Ly : Int × List Int} {ux uy : Option Value} {K : Value → Heap → Prop} (M : LnMk h0 Lx Ly ux uy none none h)
  (H : ∀ b h', LnMk h0 Lx Ly ux uy (some (b, none)) none h' → K (ptr b) h') : newK zeroL 160 h K := by
 refine zai fun b h' r e n => H b h' ⟨M.ext.trans e, fun u hu => ?_, fun u hu => ?_, fun p hp => ?_, by simp, by simp⟩
 ·exact ((M.lx u hu).mono (Z' := apart (some (b, none)) none) fun c hc _ => ⟨fun p hp => by cases hp; show b ≠ c; omega, by simp⟩).ext e
 ·exact ((M.ly u hu).mono (Z' := apart (some (b, none)) none) fun c hc _ => ⟨fun p hp => by cases hp; show b ≠ c; omega, by simp⟩).ext e
 ·cases hp; exact ⟨Nat.le_trans M.ext.1 n, r⟩
theorem LnMk.new_2 {h0 h : Heap} {Lx Ly : Int × List Int} {ux uy : Option Value} {a : Nat} {K : Value → Heap → Prop} (M : LnMk h0 Lx Ly ux uy (some (a, none)) none h)
  (H : ∀ b h', LnMk h0 Lx Ly ux uy (some (a, none)) (some (b, none)) h' → K (ptr b) h') : newK zeroL 160 h K := by
 have a1 := M.at1 _ rfl
 have al : a < h.size := a1.2.row
 refine zai fun b h' r e n => H b h' ⟨M.ext.trans e, fun u hu => ?_, fun u hu => ?_, fun p hp => ?_, fun p hp => ?_, fun p q hp hq => ?_⟩
 ·exact ((M.lx u hu).mono (Z' := apart (some (a, none)) (some (b, none))) fun c hc hz => ⟨hz.1, fun p hp => by cases hp; show b ≠ c; omega⟩).ext e
 ·exact ((M.ly u hu).mono (Z' := apart (some (a, none)) (some (b, none))) fun c hc hz => ⟨hz.1, fun p hp => by cases hp; show b ≠ c; omega⟩).ext e
 ·cases hp; exact ⟨a1.1, a1.2.up (e.2 _ al) (fun _ => id) fun _ => id⟩
 ·cases hp; exact ⟨Nat.le_trans M.ext.1 n, r⟩
 ·cases hp; cases hq; show a ≠ b; omega
theorem LnMk.st {h0 h : Heap} {Lx Ly : Int × List Int} {ux uy : Option Value} {v1 v2 v1' v2' : LV} {b : Nat} {f : Bool} {l : List Value} {K : Value → Heap → Prop} (M : LnMk h0 Lx Ly ux uy v1 v2 h) (hr : h[b]? = some (.cells zeroL 160 (0, 0))) (hn : h0.size ≤ b)
  (hl : l.length = 2) (ho : ∀ v ∈ l, zar v = true) (hf : ∀ h', h'[b]? = some (.cells l.toArray 160 (0, 0)) → lvAt h' Lx Ly ux uy b (some f))
  (h1 : (v1 = some (b, none) ∧ v1' = some (b, some f) ∧ v2' = v2 ∧ ∀ q, v2 = some q → q.1 ≠ b) ∨ (v2 = some (b, none) ∧ v2' = some (b, some f) ∧ v1' = v1 ∧ ∀ q, v1 = some q → q.1 ≠ b))
  (H : ∀ h', LnMk h0 Lx Ly ux uy v1' v2' h' → K undef h') : stK 2 (ptr b) (.agg l.toArray) h K := by
 refine zb9 hr (by rw [hl]; rfl) ho hl fun h' r u => H h' ?_
 have E := M.ext.upd hn u
 have keep : ∀ {v : LV}, (∀ p, v = some p → h0.size ≤ p.1 ∧ lvAt h Lx Ly ux uy p.1 p.2) → (∀ q, v = some q → q.1 ≠ b) → ∀ p, v = some p → h0.size ≤ p.1 ∧ lvAt h' Lx Ly ux uy p.1 p.2 := fun a d p hp => ⟨(a p hp).1, (a p hp).2.up (u.2 _ (d p hp)) (fun _ => id) fun _ => id⟩
 rcases h1 with ⟨rfl, rfl, rfl, d⟩ | ⟨rfl, rfl, rfl, d⟩
 ·have za : ∀ c, apart (some (b, none)) v2' c → ¬ c = b := fun c hc he => hc.1 _ rfl he.symm
  have zb : ∀ c, apart (some (b, none)) v2' c → apart (some (b, some f)) v2' c := fun c hc => ⟨fun p hp => by cases hp; exact hc.1 (b, none) rfl, hc.2⟩
  refine ⟨E, fun w hw => ((M.lx w hw).fr u.fr fun c _ => za c).mono fun c _ => zb c, fun w hw => ((M.ly w hw).fr u.fr fun c _ => za c).mono fun c _ => zb c, fun p hp => ?_, keep M.at2 d, fun p q hp hq => ?_⟩
  ·cases hp; exact ⟨hn, hf h' r⟩
  ·cases hp; exact fun he => d q hq he.symm
 ·have za : ∀ c, apart v1' (some (b, none)) c → ¬ c = b := fun c hc he => hc.2 _ rfl he.symm
  have zb : ∀ c, apart v1' (some (b, none)) c → apart v1' (some (b, some f)) c := fun c hc => ⟨hc.1, fun p hp => by cases hp; exact hc.2 (b, none) rfl⟩
  refine ⟨E, fun w hw => ((M.lx w hw).fr u.fr fun c _ => za c).mono fun c _ => zb c, fun w hw => ((M.ly w hw).fr u.fr fun c _ => za c).mono fun c _ => zb c, keep M.at1 d, fun p hp => ?_, fun p q hp hq => ?_⟩
  ·cases hp; exact ⟨hn, hf h' r⟩
  ·cases hq; exact d p hp
theorem LnMk.st1x {h0 h : Heap} {Lx Ly : Int × List Int} {u : Value} {uy : Option Value} {v2 : LV} {b : Nat} {K : Value → Heap → Prop} (M : LnMk h0 Lx Ly (some u) uy (some (b, none)) v2 h)
  (H : ∀ h', LnMk h0 Lx Ly (some u) uy (some (b, some true)) v2 h' → K undef h') : stK 2 (ptr b) (.agg #[.int .i64 Lx.1, u]) h K :=
 M.st (f := true) (l := [.int .i64 Lx.1, u]) (M.at1 _ rfl).2 (M.at1 _ rfl).1 rfl (zad rfl (zad (M.lx u rfl).one zao)) (fun h' r => ⟨u, rfl, r⟩) (.inl ⟨rfl, rfl, rfl, fun q hq he => M.dis _ _ rfl hq he.symm⟩) H
theorem LnMk.st2x {h0 h : Heap} {Lx Ly : Int × List Int} {u : Value} {uy : Option Value} {v1 : LV} {b : Nat} {K : Value → Heap → Prop} (M : LnMk h0 Lx Ly (some u) uy v1 (some (b, none)) h)
  (H : ∀ h', LnMk h0 Lx Ly (some u) uy v1 (some (b, some true)) h' → K undef h') : stK 2 (ptr b) (.agg #[.int .i64 Lx.1, u]) h K :=
 M.st (f := true) (l := [.int .i64 Lx.1, u]) (M.at2 _ rfl).2 (M.at2 _ rfl).1 rfl (zad rfl (zad (M.lx u rfl).one zao)) (fun h' r => ⟨u, rfl, r⟩) (.inr ⟨rfl, rfl, rfl, fun q hq => M.dis _ _ hq rfl⟩) H
theorem LnMk.st1y {h0 h : Heap} {Lx Ly : Int × List Int} {u : Value} {ux : Option Value} {v2 : LV} {b : Nat} {K : Value → Heap → Prop} (M : LnMk h0 Lx Ly ux (some u) (some (b, none)) v2 h)
  (H : ∀ h', LnMk h0 Lx Ly ux (some u) (some (b, some false)) v2 h' → K undef h') : stK 2 (ptr b) (.agg #[.int .i64 Ly.1, u]) h K :=
 M.st (f := false) (l := [.int .i64 Ly.1, u]) (M.at1 _ rfl).2 (M.at1 _ rfl).1 rfl (zad rfl (zad (M.ly u rfl).one zao)) (fun h' r => ⟨u, rfl, r⟩) (.inl ⟨rfl, rfl, rfl, fun q hq he => M.dis _ _ rfl hq he.symm⟩) H
theorem LnMk.st2y {h0 h : Heap} {Lx Ly : Int × List Int} {u : Value} {ux : Option Value} {v1 : LV} {b : Nat} {K : Value → Heap → Prop} (M : LnMk h0 Lx Ly ux (some u) v1 (some (b, none)) h)
  (H : ∀ h', LnMk h0 Lx Ly ux (some u) v1 (some (b, some false)) h' → K undef h') : stK 2 (ptr b) (.agg #[.int .i64 Ly.1, u]) h K :=
 M.st (f := false) (l := [.int .i64 Ly.1, u]) (M.at2 _ rfl).2 (M.at2 _ rfl).1 rfl (zad rfl (zad (M.ly u rfl).one zao)) (fun h' r => ⟨u, rfl, r⟩) (.inr ⟨rfl, rfl, rfl, fun q hq => M.dis _ _ hq rfl⟩) H
def Both (h0 : Heap) (Lx Ly : Int × List Int) (xs : List Value) (h : Heap) : Prop := ∃ a b u w, xs = [ptr a, ptr b] ∧ Ext h0 h ∧ Two h a 160 (.int .i64 Lx.1) u ∧ Two h b 160 (.int .i64 Ly.1) w ∧ SlI (fun _ => True) h u Lx.2 ∧ SlI (fun _ => True) h w Ly.2
theorem LnMk.fin {h0 h : Heap} {Lx Ly : Int × List Int} {u w : Value} {a b : Nat} (M : LnMk h0 Lx Ly (some u) (some w) (some (a, some true)) (some (b, some false)) h) : Both h0 Lx Ly [ptr a, ptr b] h := by
 obtain ⟨_, u', e1, r1⟩ := M.at1 _ rfl
 obtain ⟨_, w', e2, r2⟩ := M.at2 _ rfl
 cases e1; cases e2
 exact ⟨a, b, u, w, rfl, M.ext, r1, r2, (M.lx u rfl).mono fun _ _ _ => trivial, (M.ly w rfl).mono fun _ _ _ => trivial⟩
theorem LnMk.fin2 {h0 h : Heap} {Lx Ly : Int × List Int} {u w : Value} {a b : Nat} (M : LnMk h0 Lx Ly (some u) (some w) (some (b, some false)) (some (a, some true)) h) : Both h0 Lx Ly [ptr a, ptr b] h := by
 obtain ⟨_, w', e2, r2⟩ := M.at1 _ rfl
 obtain ⟨_, u', e1, r1⟩ := M.at2 _ rfl
 cases e1; cases e2
 exact ⟨a, b, u, w, rfl, M.ext, r1, r2, (M.lx u rfl).mono fun _ _ _ => trivial, (M.ly w rfl).mono fun _ _ _ => trivial⟩
theorem zfG {t : Tbl} (W : t.Wf) (i : Int) : (lineT t i).2.length ≤ 1048576 ∧ -70368744177664 ≤ (lineT t i).1 ∧ (lineT t i).1 ≤ 70368744177664 := by
 unfold lineT
 split
 ·by_cases h : i.toNat < t.lines.length
  ·have e : t.lines.getD i.toNat (0, []) = t.lines[i.toNat] := by simp [List.getD_eq_getElem?_getD, h]
   rw [e]
   exact W.taps _ (List.getElem_mem h)
  ·have e : t.lines.getD i.toNat (0, []) = (0, []) := by simp [List.getD_eq_getElem?_getD, Nat.le_of_not_lt h]
   rw [e]; simp
 ·simp
theorem atP_bd {m : Pic} (W : m.Wf) (x y c : Int) : 0 ≤ atP m x y c ∧ atP m x y c ≤ m.most := by
 have := W.m1
 unfold atP
 split
 ·rename_i h
  by_cases hi : (posP m x y c).toNat < m.l.length
  ·have e : m.l.getD (posP m x y c).toNat 0 = m.l[(posP m x y c).toNat] := by simp [List.getD_eq_getElem?_getD, hi]
   rw [e]
   exact W.smp _ (List.getElem_mem hi)
  ·have e : m.l.getD (posP m x y c).toNat 0 = 0 := by simp [List.getD_eq_getElem?_getD, Nat.le_of_not_lt hi]
   rw [e]; omega
 ·omega
theorem c_Sum {h : Heap} (G : GlobB h) {Z : Nat → Prop} {b : Nat} {v sv : Value} {m : Pic} {s : Stg} (H : IsImg h b v m) (W : m.Wf) (HS : IsStg Z h sv s) (WS : s.Wf) (hs : zh6 m s) {x y c : Int} (hc : 0 ≤ c ∧ c < m.c) :
  FCall prog ziS #[ptr b, sv, .int .i64 x, .int .i64 y, .int .i64 c] h fun r h' => r = .int .i64 (IntKind.i64.wrap (totZ m s x y c)) ∧ Ext h h' := by
 apply zq5
 unfold zk4
 obtain ⟨p, q, rfl, hp, hq, ones⟩ := zdB HS
 simp only [zaG]
 refine zai fun b1 h1 r1 e1 n1 => ?_
 rw [zav (l := [p, q, .int .i64 s.border]) r1 3 rfl, zaa]
 refine (c_Suits (G.ext e1) (H.ext e1) (HS.ext e1)).mono fun r h2 ⟨e, e2⟩ => ?_
 subst e
 rw [decide_eq_true hs]
 have hcn : (c < 0) = False := eq_false (by omega)
 simp only [go_sem, hcn]
 have H2 := H.ext (e1.trans e2)
 refine (zbV H2).mono fun r h3 ⟨e, wq⟩ => ?_
 have wq := wq.symm
 subst e wq
 simp only [go_sem]
 rw [decide_eq_false (by omega), zbc]
 have r2 := e2.row r1
 have p2 := hp.ext (e1.trans e2)
 have q2 := hq.ext (e1.trans e2)
 refine zau (Both h2 (lineT s.x x) (lineT s.y y)) ?_ ?_
 ·try simp only [go_sem, Nat.zero_add]
  refine zan (Ext h2) (Ext.refl _) ?_
  refine zaf p (fun h' e => zac (e.row r2)) ?_
  refine zaf q (fun h' e => zac (e.row r2)) ?_
  have M0 := LnMk.start h2 (lineT s.x x) (lineT s.y y)
  have wx := WS.x
  have wy := WS.y
  repeat' first
   | exact LnMk.fin ‹LnMk _ _ _ _ _ _ _ _›
   | exact LnMk.fin2 ‹LnMk _ _ _ _ _ _ _ _›
   | exact LnMk.ext ‹LnMk _ _ _ _ _ _ _ _›
   | refine And.intro ?_ ?_
   | refine LnMk.line_x ‹LnMk _ _ _ _ _ _ _ _› p2 wx fun u' h' M => ?_
   | refine LnMk.line_y ‹LnMk _ _ _ _ _ _ _ _› q2 wy fun u' h' M => ?_
   | refine LnMk.new_1 ‹LnMk _ _ _ _ _ _ _ _› fun b' h' M => ?_
   | refine LnMk.new_2 ‹LnMk _ _ _ _ _ _ _ _› fun b' h' M => ?_
   | refine LnMk.st1x ‹LnMk _ _ _ _ _ _ _ _› fun h' M => ?_
   | refine LnMk.st2x ‹LnMk _ _ _ _ _ _ _ _› fun h' M => ?_
   | refine LnMk.st1y ‹LnMk _ _ _ _ _ _ _ _› fun h' M => ?_
   | refine LnMk.st2y ‹LnMk _ _ _ _ _ _ _ _› fun h' M => ?_
 rintro xs ρj h3 ⟨a, d, u, w, rfl, e3, ra, rd, Su, Sw⟩
 have bx := zfG WS.x x
 have by' := zfG WS.y y
 unfold totZ
 unfold zgy
 generalize lineT s.x x = Lx at *
 generalize lineT s.y y = Ly at *
 have hf := zbs W.fits
 have c1 : zah h3 ⟨d, 1, none⟩ = some w := zac rd
 obtain ⟨aw, cw, ew⟩ := Sw.isSl
 have ew2 : zag w = some (.int .i64 (Ly.2.length : Int)) := by rw [ew]; rfl
 obtain ⟨au, cu, eu⟩ := Su.isSl
 have eu2 : zag u = some (.int .i64 (Lx.2.length : Int)) := by rw [eu]; rfl
 simp only [go_sem, Nat.zero_add, c1, ew2]
 refine zc2 (fun k => [.int .i64 (IntKind.i64.wrap (sumN (fun k => Ly.2.getD k 0 * sumN (fun i => Lx.2.getD i 0 * atP m (atZ s.border (Lx.1 + i) m.w) (atZ s.border (Ly.1 + k) m.h) c) Lx.2.length) k)), .int .i64 (k : Int)]) Ly.2.length 0 rfl (Nat.zero_le _) fun k again ρk _ hk Hag => ?_
 simp only [go_sem]
 refine zab (fun h4 => ?_) (fun h4 => ?_)
 ·have hk' : k < Ly.2.length := by omega
  have Hag := Hag hk'
  obtain ⟨pk, k1, k2⟩ := Sw.int_at (k' := .i64) hk'
  have eb : Ly.2.getD k 0 = Ly.2[k] := by simp [List.getD_eq_getElem?_getD, hk']
  rw [k1, zaa, k2, zaa, ← eb]
  have rs := e3.row r2
  refine zan (fun h' => h' = h3) rfl ?_
  simp only [go_sem, Nat.zero_add]
  refine zaf (.int .i64 s.border) (fun h' e => by rw [e]; exact zac rs) ?_
  refine zaf (.int .i64 Ly.1) (fun h' e => by rw [e]; exact zac rd) ?_
  simp only [go_sem]
  rw [w64 (n := Ly.1 + (k : Int)) (by omega) (by omega)]
  have H3 := H2.ext e3
  refine (zhh H3).mono fun r h5 ⟨e, wq⟩ => ?_
  have wq := wq.symm
  subst e wq
  refine ⟨rfl, ?_⟩
  refine (zi5 (by unfold I64; omega)).mono fun r h5 ⟨e, wq⟩ => ?_
  have wq := wq.symm
  subst e wq
  have c2 : zah h3 ⟨a, 1, none⟩ = some u := zac ra
  simp only [go_sem, Nat.zero_add, c2, eu2]
  generalize hrow : atZ s.border (Ly.1 + (k : Int)) m.h = row at *
  generalize hA : sumN (fun k => Ly.2.getD k 0 * sumN (fun i => Lx.2.getD i 0 * atP m (atZ s.border (Lx.1 + i) m.w) (atZ s.border (Ly.1 + k) m.h) c) Lx.2.length) k = A at *
  have hA1 : sumN (fun k => Ly.2.getD k 0 * sumN (fun i => Lx.2.getD i 0 * atP m (atZ s.border (Lx.1 + i) m.w) (atZ s.border (Ly.1 + k) m.h) c) Lx.2.length) (k + 1) = A + Ly.2.getD k 0 * sumN (fun i => Lx.2.getD i 0 * atP m (atZ s.border (Lx.1 + i) m.w) row c) Lx.2.length := by
   simp only [sumN]
   rw [hA, hrow]
  rw [hA1] at Hag
  generalize Ly.2.getD k 0 = bk at *
  refine zc2 (fun i => [.int .i64 (IntKind.i64.wrap (A + bk * sumN (fun i => Lx.2.getD i 0 * atP m (atZ s.border (Lx.1 + i) m.w) row c) i)), .int .i64 (i : Int)]) Lx.2.length 0 (by simp [sumN]) (Nat.zero_le _) fun i again2 ρi _ hi Hag2 => ?_
  simp only [go_sem]
  refine zab (fun h5 => ?_) (fun h5 => ?_)
  ·have hi' : i < Lx.2.length := by omega
   have Hag2 := Hag2 hi'
   obtain ⟨pi, i1, i2⟩ := Su.int_at (k' := .i64) hi'
   have ea : Lx.2.getD i 0 = Lx.2[i] := by simp [List.getD_eq_getElem?_getD, hi']
   rw [i1, zaa, i2, zaa, ← ea]
   refine zan (fun h' => h' = h3) rfl ?_
   simp only [go_sem, Nat.zero_add]
   refine zaf (.int .i64 s.border) (fun h' e => by rw [e]; exact zac rs) ?_
   refine zaf (.int .i64 Lx.1) (fun h' e => by rw [e]; exact zac ra) ?_
   simp only [go_sem]
   rw [w64 (n := Lx.1 + (i : Int)) (by omega) (by omega)]
   refine (zkc H3).mono fun r h5 ⟨e, wq⟩ => ?_
   have wq := wq.symm
   subst e wq
   refine ⟨rfl, ?_⟩
   refine (zi5 (by unfold I64; omega)).mono fun r h5 ⟨e, wq⟩ => ?_
   have wq := wq.symm
   subst e wq
   try simp only [go_sem]
   refine (c_At H3 W).mono fun r h5 ⟨e, wq⟩ => ?_
   have wq := wq.symm
   subst e wq
   have hv := atP_bd W (atZ s.border (Lx.1 + (i : Int)) m.w) row c
   have hm := W.m2
   simp only [go_sem]
   rw [w64 (n := atP m (atZ s.border (Lx.1 + (i : Int)) m.w) row c) (by omega) (by omega), wrap_step3, w64 (n := (i : Int) + 1) (by omega) (by omega)]
   simp only [sumN, Int.mul_add] at Hag2
   rw [← Int.add_assoc] at Hag2
   exact Hag2
  ·have : i = Lx.2.length := by omega
   subst this
   rw [w64 (n := (k : Int) + 1) (by omega) (by omega)]
   exact Hag
 ·have : k = Ly.2.length := by omega
  subst this
  exact ⟨rfl, e1.trans (e2.trans e3)⟩
theorem zlK {A B C c d : Int} (h : A * C + c = B * C + d) (c0 : 0 ≤ c) (c1 : c < C) (d0 : 0 ≤ d) (d1 : d < C) : A = B ∧ c = d := by
 have e1 : (c + A * C) / C = A := by rw [Int.add_mul_ediv_right _ _ (by omega), Int.ediv_eq_zero_of_lt c0 c1]; omega
 have e2 : (d + B * C) / C = B := by rw [Int.add_mul_ediv_right _ _ (by omega), Int.ediv_eq_zero_of_lt d0 d1]; omega
 have e3 : c + A * C = d + B * C := by omega
 rw [e3, e2] at e1
 refine ⟨e1.symm, ?_⟩
 subst e1
 omega
theorem pos_inj {m : Pic} {x y c x' y' c' : Int} (h : inP m x y c) (h' : inP m x' y' c') (e : posP m x y c = posP m x' y' c') : x = x' ∧ y = y' ∧ c = c' := by
 obtain ⟨x0, x1, y0, y1, c0, c1⟩ := h
 obtain ⟨x0', x1', y0', y1', c0', c1'⟩ := h'
 unfold posP at e
 obtain ⟨e1, e2⟩ := zlK e c0 c1 c0' c1'
 obtain ⟨e3, e4⟩ := zlK e1 x0 x1 x0' x1'
 exact ⟨e4, e3, e2⟩
theorem atP_setP {m : Pic} (W : m.Wf) {x y c n x' y' c' : Int} (h : inP m x y c) : atP (setP m x y c n) x' y' c' = if x' = x ∧ y' = y ∧ c' = c then n else atP m x' y' c' := by
 have hp := zpG W h
 by_cases hi : inP m x' y' c'
 ·have hp' := zpG W hi
  have hi2 : inP (setP m x y c n) x' y' c' := hi
  unfold atP
  rw [if_pos hi2, if_pos hi]
  show (m.l.set (posP m x y c).toNat n).getD (posP m x' y' c').toNat 0 = _
  by_cases he : x' = x ∧ y' = y ∧ c' = c
  ·rw [if_pos he]
   obtain ⟨rfl, rfl, rfl⟩ := he
   have : (posP m x' y' c').toNat < m.l.length := by omega
   simp [List.getD_eq_getElem?_getD, this]
  ·rw [if_neg he]
   have hne : (posP m x y c).toNat ≠ (posP m x' y' c').toNat := fun hh => he (by
    obtain ⟨a, b, d⟩ := pos_inj hi h (by omega)
    exact ⟨a, b, d⟩)
   simp [List.getD_eq_getElem?_getD, List.getElem?_set_ne hne]
 ·have hi2 : ¬ inP (setP m x y c n) x' y' c' := hi
  have he : ¬ (x' = x ∧ y' = y ∧ c' = c) := by rintro ⟨rfl, rfl, rfl⟩; exact hi h
  unfold atP
  rw [if_neg hi2, if_neg hi, if_neg he]
def ahead (x y c x' y' c' : Int) : Prop := y' < y ∨ (y' = y ∧ (x' < x ∨ (x' = x ∧ c' < c)))
structure Made (h0 h : Heap) (b : Nat) (v : Value) (n : Pic) (w hh c most : Int) : Prop where
 img : IsImg h b v n
 wf : n.Wf
 pw : n.w = w
 ph : n.h = hh
 pc : n.c = c
 pm : n.most = most
 ext : Ext h0 h
 nb : h0.size ≤ b
 nv : ∀ c, blk v c → h0.size ≤ c
theorem Made.before {h1 h0 h : Heap} {b : Nat} {v : Value} {n : Pic} {w hh c most : Int} (M : Made h0 h b v n w hh c most) (e : Ext h1 h0) : Made h1 h b v n w hh c most :=
 ⟨M.img, M.wf, M.pw, M.ph, M.pc, M.pm, e.trans M.ext, Nat.le_trans e.1 M.nb, fun c hc => Nat.le_trans e.1 (M.nv c hc)⟩
theorem c_Apply {h : Heap} (G : GlobB h) {Z : Nat → Prop} {b : Nat} {v sv : Value} {m : Pic} {s : Stg} (H : IsImg h b v m) (W : m.Wf) (HS : IsStg Z h sv s) (WS : s.Wf) (hs : zh6 m s) (hfit : fitsZ s.x.lines.length s.y.lines.length m.c) :
  FCall prog zgF #[ptr b, sv] h fun r h' => ∃ b' v' n, r = .tuple #[ptr b', .int .i64 0] ∧ Made h h' b' v' n s.x.lines.length s.y.lines.length m.c m.most ∧ ∀ x y c, inP n x y c → atP n x y c = pixZ m s x y c := by
 apply zof
 unfold zio
 obtain ⟨p, q, rfl, hp, hq, ones⟩ := zdB HS
 simp only [zaG]
 refine zai fun b1 h1 r1 e1 n1 => ?_
 rw [zav (l := [p, q, .int .i64 s.border]) r1 3 rfl, zaa]
 refine (c_Suits (G.ext e1) (H.ext e1) (HS.ext e1)).mono fun r h2 ⟨e, e2⟩ => ?_
 subst e
 rw [decide_eq_true hs]
 simp only [go_sem, Nat.zero_add]
 have e12 := e1.trans e2
 have r2 := e2.row r1
 refine zan (Ext h2) (Ext.refl _) ?_
 refine zaf p (fun h' e => zac (e.row r2)) ?_
 refine zaf q (fun h' e => zac (e.row r2)) ?_
 refine (c_To (hp.ext e12)).mono fun r h3 ⟨e, wq⟩ => ?_
 have wq := wq.symm
 subst e wq
 refine ⟨Ext.refl _, ?_⟩
 refine (c_To (hq.ext e12)).mono fun r h3 ⟨e, wq⟩ => ?_
 have wq := wq.symm
 subst e wq
 refine (zbV (H.ext e12)).mono fun r h3 ⟨e, wq⟩ => ?_
 have wq := wq.symm
 subst e wq
 refine (zfJ (H.ext e12)).mono fun r h3 ⟨e, wq⟩ => ?_
 have wq := wq.symm
 subst e wq
 have hc0 : imgC s.x.lines.length s.y.lines.length m.c m.most = 0 := ziC.2 ⟨hfit, W.m1, W.m2⟩
 refine zi4.mono fun r h3 ⟨pp, e, e3, _, s3⟩ => ?_
 subst e
 obtain ⟨nb, nv, rfl, I, nbn, nvn, _⟩ := s3 hc0
 have hz : ((0 : Int) = 0) = True := eq_true rfl
 rw [hc0]
 simp only [go_sem, hz]
 refine (zhh I).mono fun r h4 ⟨e, wq⟩ => ?_
 have wq := wq.symm
 subst e wq
 have hm1 := W.m1
 have hm2 := W.m2
 have M0 : Made h2 h3 nb nv (imgN s.x.lines.length s.y.lines.length m.c m.most) s.x.lines.length s.y.lines.length m.c m.most := ⟨I, zl5 hc0, rfl, rfl, rfl, rfl, e3, nbn, nvn⟩
 obtain ⟨X, hX⟩ : ∃ X, X = s.x.lines.length := ⟨_, rfl⟩
 obtain ⟨Y, hY⟩ : ∃ Y, Y = s.y.lines.length := ⟨_, rfl⟩
 rw [← hX, ← hY] at M0 hfit ⊢
 have hf := zbs hfit
 obtain ⟨C, hC⟩ : ∃ C : Nat, m.c = (C : Int) := ⟨m.c.toNat, by omega⟩
 rw [show (imgN (X : Int) (Y : Int) m.c m.most).h = (Y : Int) from rfl]
 -- what holds at a place of the walk
 refine zaD (α := Pic) Y 0 (fun y _ => [.int .i64 (y : Int)]) (fun y n h' => Made h2 h' nb nv n X Y m.c m.most ∧ ∀ x' y' c', inP n x' y' c' → ahead 0 y 0 x' y' c' → atP n x' y' c' = pixZ m s x' y' c') _ rfl (Nat.zero_le _)
  ⟨M0, fun x' y' c' hi ha => by unfold ahead inP at *; omega⟩ fun y n h4 again ρ1 _ hy ⟨M, D⟩ Hag => ?_
 simp only [go_sem]
 refine zab (fun h5 => ?_) (fun h5 => ?_)
 ·refine (zkc M.img).mono fun r h5 ⟨e, wq⟩ => ?_
  have wq := wq.symm
  subst e wq
  rw [M.pw]
  refine zaD (α := Pic) X 0 (fun x _ => [.int .i64 (x : Int)]) (fun x n h' => Made h2 h' nb nv n X Y m.c m.most ∧ ∀ x' y' c', inP n x' y' c' → ahead x y 0 x' y' c' → atP n x' y' c' = pixZ m s x' y' c') n rfl (Nat.zero_le _)
   ⟨M, D⟩ fun x n h5 again2 ρ2 _ hx ⟨M, D⟩ Hag2 => ?_
  simp only [go_sem]
  refine zab (fun h6 => ?_) (fun h6 => ?_)
  ·refine (zbV M.img).mono fun r h6 ⟨e, wq⟩ => ?_
   have wq := wq.symm
   subst e wq
   rw [M.pc, hC]
   refine zaD (α := Pic) C 0 (fun c _ => [.int .i64 (c : Int)]) (fun c n h' => Made h2 h' nb nv n X Y m.c m.most ∧ ∀ x' y' c', inP n x' y' c' → ahead x y c x' y' c' → atP n x' y' c' = pixZ m s x' y' c') n rfl (Nat.zero_le _)
    ⟨M, D⟩ fun c n h6 again3 ρ3 _ hc ⟨M, D⟩ Hag3 => ?_
   simp only [go_sem]
   refine zab (fun h7 => ?_) (fun h7 => ?_)
   ·rw [zav (l := [p, q, .int .i64 s.border]) (M.ext.row r2) 3 rfl, zaa]
    have E0 := e12.trans M.ext
    refine (c_Sum (G.ext E0) (H.ext E0) W (HS.ext E0) WS hs (x := x) (y := y) (c := c) (by omega)).mono fun r h8 ⟨e, e8⟩ => ?_
    subst e
    have E8 := E0.trans e8
    refine (zfJ (H.ext E8)).mono fun r h9 ⟨e, wq⟩ => ?_
    have wq := wq.symm
    subst e wq
    refine (c_Round (zcN _)).mono fun r h9 ⟨e, wq⟩ => ?_
    have wq := wq.symm
    subst e wq
    have hr := roundZ_bd (IntKind.i64.wrap (totZ m s x y c)) (most := m.most) (by omega)
    have Mi := M.img.ext e8
    refine (c_Set Mi M.wf hr.1 hr.2.1).mono fun r h10 ⟨e, I10, f10, s10⟩ => ?_
    subst e
    have hin : inP n x y c := ⟨by omega, by rw [M.pw]; omega, by omega, by rw [M.ph]; omega, by omega, by rw [M.pc]; omega⟩
    have hset : inP n x y c ∧ zhU (IntKind.i64.wrap (totZ m s x y c)) m.most ≤ n.most := ⟨hin, by rw [M.pm]; omega⟩
    rw [if_pos hset] at I10
    have E10 : Ext h2 h10 := (M.ext.trans e8).then_fr f10 M.nv
    try simp only [go_sem]
    rw [w64 (by omega) (by omega)]
    refine Hag3 (setP n x y c (zhU (IntKind.i64.wrap (totZ m s x y c)) m.most)) h10 (by omega) ⟨⟨I10, setP_Wf M.wf hr.1 hset.2, M.pw, M.ph, M.pc, M.pm, E10, M.nb, M.nv⟩, fun x' y' c' hi ha => ?_⟩
    rw [atP_setP M.wf hin]
    by_cases he : x' = x ∧ y' = y ∧ c' = c
    ·rw [if_pos he, he.1, he.2.1, he.2.2]; rfl
    ·rw [if_neg he]
     exact D x' y' c' hi (by unfold ahead at *; omega)
   ·have : c = C := by omega
    subst this
    rw [w64 (by omega) (by omega)]
    refine Hag2 n h6 (by omega) ⟨M, fun x' y' c' hi ha => D x' y' c' hi ?_⟩
    have h1 := M.pc
    unfold ahead inP at *
    omega
  ·have : x = X := by omega
   subst this
   rw [w64 (by omega) (by omega)]
   refine Hag n h5 (by omega) ⟨M, fun x' y' c' hi ha => D x' y' c' hi ?_⟩
   have h1 := M.pw
   unfold ahead inP at *
   omega
 ·have : y = Y := by omega
  subst this
  refine ⟨nb, nv, n, rfl, M.before e12, fun x' y' c' hi => D x' y' c' hi ?_⟩
  have h1 := M.ph
  unfold ahead inP at *
  omega
theorem zpD (f n : Int) {m : Int} (hm : zaq m) : (zbG f n m).Wf := by
 unfold zaq at hm
 refine ⟨?_, fun x hx => ?_⟩
 ·show (List.map _ (List.range m.toNat)).length ≤ 65536
  rw [List.length_map, List.length_range]; omega
 ·obtain ⟨i, _, rfl⟩ := List.mem_map.1 hx
  have hb := zfh (zgT f n m i)
  refine ⟨hb.1, ?_⟩
  show _ ≤ zbn f n m i ∧ zbn f n m i ≤ _
  unfold zbn
  split
  ·rename_i h
   have := low_bd h
   omega
  ·omega
theorem zpT {l : List Int} (h64 : ∀ x ∈ l, I64 x) (hl : l.length ≤ 1024) {n : Int} (hn : zaq n) : (zdi l n).Wf := by
 unfold zaq at hn
 refine ⟨?_, fun x hx => ?_⟩
 ·show (List.map _ (List.range n.toNat)).length ≤ 65536
  rw [List.length_map, List.length_range]; omega
 ·obtain ⟨i, hi, rfl⟩ := List.mem_map.1 hx
  have hb := zfh h64
  have := List.mem_range.1 hi
  refine ⟨hb.1, ?_⟩
  show _ ≤ (i : Int) - (l.length / 2 : Nat) ∧ (i : Int) - (l.length / 2 : Nat) ≤ _
  omega
theorem zjW (o : OpD) : (zbi o).length ≤ 1024 ∧ (zaM o).length ≤ 1024 := by
 have := zl8 o.sigma
 have := zoL o.radius
 have := zh5 o.x
 have := zh5 o.y
 unfold zbi zaM
 constructor <;> split <;> (try split) <;> omega
theorem zi0 {o : OpD} {w h : Int} (hc : makeC o w h = 0) : (makeS o w h).Wf ∧ opMay o ∧ zaq w ∧ zaq h := by
 unfold makeC at hc
 split at hc
 ·cases hc
 ·rename_i hn
  have h1 : opMay o := Decidable.of_not_not fun hh => hn (.inl hh)
  have h2 : zaq w := Decidable.of_not_not fun hh => hn (.inr (.inl hh))
  have h3 : zaq h := Decidable.of_not_not fun hh => hn (.inr (.inr hh))
  refine ⟨⟨?_, ?_⟩, h1, h2, h3⟩
  ·show (zdV o w).Wf
   unfold zdV
   split
   ·rename_i hk; exact zpD _ _ (h1.2.2 hk).1
   ·exact zpT (zh4 o) (zjW o).1 h2
  ·show (zbP o h).Wf
   unfold zbP
   split
   ·rename_i hk; exact zpD _ _ (h1.2.2 hk).2.1
   ·exact zpT (zh3 o) (zjW o).2 h3
theorem zol {o : OpD} {w h : Int} (hc : makeC o w h = 0) : ((makeS o w h).x.lines.length : Int) = sizeW o w ∧ ((makeS o w h).y.lines.length : Int) = sizeH o h := by
 obtain ⟨_, hm, hw, hh⟩ := zi0 hc
 unfold zaq at hw hh
 constructor
 ·show ((zdV o w).lines.length : Int) = _
  unfold zdV sizeW
  split
  ·rename_i hk
   have := (hm.2.2 hk).1
   unfold zaq at this
   show ((List.map _ (List.range o.w.toNat)).length : Int) = _
   rw [List.length_map, List.length_range]; omega
  ·show ((List.map _ (List.range w.toNat)).length : Int) = _
   rw [List.length_map, List.length_range]; omega
 ·show ((zbP o h).lines.length : Int) = _
  unfold zbP sizeH
  split
  ·rename_i hk
   have := (hm.2.2 hk).2.1
   unfold zaq at this
   show ((List.map _ (List.range o.hh.toNat)).length : Int) = _
   rw [List.length_map, List.length_range]; omega
  ·show ((List.map _ (List.range h.toNat)).length : Int) = _
   rw [List.length_map, List.length_range]; omega
theorem makeS_n (o : OpD) (w h : Int) : (makeS o w h).x.n = w ∧ (makeS o w h).y.n = h := by
 constructor
 ·show (zdV o w).n = w
  unfold zdV; split <;> rfl
 ·show (zbP o h).n = h
  unfold zbP; split <;> rfl
theorem zok {o : OpD} {m : Pic} (hc : makeC o m.w m.h = 0) : zh6 m (makeS o m.w m.h) := by
 obtain ⟨_, hm, _, _⟩ := zi0 hc
 obtain ⟨h1, h2⟩ := makeS_n o m.w m.h
 exact ⟨h1, h2, hm.2.1.1, hm.2.1.2⟩
def pic15 : Pic := ⟨1, 1, 1, 255, [7]⟩
def op15 : OpD := ⟨1, 0, 0, 2, [], [], 0, 0, 0⟩
theorem c_l15Lives {h : Heap} (G : GlobB h) : FCall prog zhw #[] h fun r h' => r = .bool true ∧ Ext h h' := by
 apply zpb
 unfold zjE
 refine zb5 (c' := #[.int .u16 7]) rfl fun b1 h1 r1 e1 n1 => ?_
 have S1 := zk8 (k := .u16) (l := [7]) (n := 1) rfl r1
 have a0 : imgC 1 1 1 255 = 0 := by decide +kernel
 refine (c_imgOf S1 a0 (by decide) (by simp)).mono fun r h2 ⟨p, e, N⟩ => ?_
 subst e
 obtain ⟨b, v, rfl, I, nb, nv, e2⟩ := N
 have I : IsImg h2 b v pic15 := I
 have W : pic15.Wf := ⟨by decide +kernel, by decide, by decide, by decide, by simp [pic15]⟩
 have hf : (fillL #[(.int .i64 0), (.int .i64 0), (.int .i64 0), (.int .i64 0), (.slice none 0 0), (.slice none 0 0), (.int .i64 0), (.int .i64 0), (.int .i64 0)] [(0, 1, (.int .i64 1)), (3, 1, (.int .i64 2))]) = some #[.int .i64 1, .int .i64 0, .int .i64 0, .int .i64 2, .slice none 0 0, .slice none 0 0, .int .i64 0, .int .i64 0, .int .i64 0] := rfl
 simp only [go_sem]
 rw [hf, zaA, zaa]
 have wf : op15.Wf := zng (by simp [I64])
 have G2 := G.ext (e1.trans e2)
 refine (c_Make (Z := fun _ => True) (o := op15) G2 znh wf (by simp [op15]) (by simp [op15]) (by unfold I64; omega) (by unfold I64; omega)).mono fun w h3 ⟨sv, e, e3, _, s1⟩ => ?_
 subst e
 have a1 : makeC op15 1 1 = 0 := by decide +kernel
 have HS := s1 a1
 rw [a1]
 obtain ⟨p, q, rfl, hp, hq, ones⟩ := zdB HS
 simp only [go_sem]
 refine za1 (cs := [p, q, .int .i64 _]) rfl ones rfl fun b4 h4 r4 e4 n4 => ?_
 refine c_l9Lives.mono fun r h5 ⟨e, e5⟩ => ?_
 subst e
 simp only [go_sem]
 have E5 := (e1.trans e2).trans (e3.trans (e4.trans e5))
 refine (zp3 (G.ext E5)).mono fun r h6 ⟨e, e6⟩ => ?_
 subst e
 have z0 : ((0 : Int) = 0) = True := eq_true rfl
 have np : binV .p .eql (ptr b) (.pointer none) = some (.bool false) := rfl
 have np2 : ∀ b, binV .p .neq (ptr b) (.pointer none) = some (.bool true) := fun _ => rfl
 simp only [go_sem, z0, np, decide_true]
 have E6 := E5.trans e6
 have e36 := e3.trans (e4.trans (e5.trans e6))
 rw [zav (l := [p, q, .int .i64 _]) ((e5.trans e6).row r4) 3 rfl, zaa]
 have hs : zh6 pic15 (makeS op15 1 1) := zok (m := pic15) a1
 refine (c_Apply (G.ext E6) (I.ext e36) W (HS.ext (e4.trans (e5.trans e6))) (zi0 a1).1 hs (by decide +kernel)).mono fun r h7 ⟨b', v', n, e, M, hat⟩ => ?_
 subst e
 simp only [go_sem, z0, np2, decide_true]
 refine (c_At M.img M.wf).mono fun r h8 ⟨e, wq⟩ => ?_
 have wq := wq.symm
 subst e wq
 have hin : inP n 0 0 0 := ⟨by omega, by rw [M.pw]; decide +kernel, by omega, by rw [M.ph]; decide +kernel, by omega, by rw [M.pc]; decide⟩
 rw [hat 0 0 0 hin]
 have hv : pixZ pic15 (makeS op15 1 1) 0 0 0 = 7 := by decide +kernel
 rw [hv]
 simp only [go_sem, eq_self, decide_true]
 exact ⟨by simp, E6.trans M.ext⟩
structure PicA where
 w : Int
 h : Int
 c : Int
 most : Int
 l : List Int
structure PicA.Wf (a : PicA) : Prop where
 w : U16 a.w
 h : U16 a.h
 c : U16 a.c
 most : U16 a.most
 l : ∀ x ∈ a.l, U16 x
 len : a.l.length ≤ 4611686018427387904
def rPicA : Rp PicA where
 w := 5
 R := fun Z h cs a => ∃ u, cs = [.int .u16 a.w, .int .u16 a.h, .int .u16 a.c, .int .u16 a.most, u] ∧ Rp.Sl rU Z h u a.l
 len := by rintro _ _ _ _ ⟨x, rfl, _⟩; rfl
 one := by
  rintro _ _ _ _ ⟨x, rfl, H⟩
  exact zad rfl (zad rfl (zad rfl (zad rfl (zad H.one zao))))
 fr := by rintro _ _ _ _ _ _ ⟨x, rfl, H⟩ f q; exact ⟨x, rfl, H.fr f q⟩
 mono := by rintro _ _ _ _ _ ⟨x, rfl, H⟩ q; exact ⟨x, rfl, H.mono q⟩
def drawA (a : PicA) : Pic := drawP (a.w % 12) (a.h % 12) a.c a.most a.l
theorem zi2 (a : PicA) : (drawA a).Wf := drawP_Wf _ _ _ _ _
theorem zj9 (a : PicA) : 1 ≤ (drawA a).w ∧ (drawA a).w ≤ 12 ∧ 1 ≤ (drawA a).h ∧ (drawA a).h ≤ 12 := by
 show 1 ≤ 1 + a.w % 12 % 20 ∧ 1 + a.w % 12 % 20 ≤ 12 ∧ 1 ≤ 1 + a.h % 12 % 20 ∧ 1 + a.h % 12 % 20 ≤ 12
 omega
theorem zlH.before {h0 h h' : Heap} {p : Value} {m : Pic} (N : zlH h h' p m) (e : Ext h0 h) : zlH h0 h' p m := by
 obtain ⟨b, v, e1, I, nb, nv, E⟩ := N
 exact ⟨b, v, e1, I, Nat.le_trans e.1 nb, fun c hc => Nat.le_trans e.1 (nv c hc), e.trans E⟩
theorem c_l15Draw {Z : Nat → Prop} {h : Heap} {cs : List Value} {a : PicA} (H : rPicA.R Z h cs a) (W : a.Wf) : FCall prog zbx #[.agg cs.toArray] h fun r h' => zlH h h' r (drawA a) := by
 apply ziy
 unfold zex
 obtain ⟨u, rfl, Hu⟩ := H
 simp only [zaG]
 refine zai fun b1 h1 r1 e1 n1 => ?_
 have q0 : zah h1 ⟨b1, 0, none⟩ = some (.int .u16 a.w) := zac r1
 have q1 : zah h1 ⟨b1, 1, none⟩ = some (.int .u16 a.h) := zac r1
 have q2 : zah h1 ⟨b1, 2, none⟩ = some (.int .u16 a.c) := zac r1
 have q3 : zah h1 ⟨b1, 3, none⟩ = some (.int .u16 a.most) := zac r1
 have q4 : zah h1 ⟨b1, 4, none⟩ = some u := zac r1
 have w0 := W.w
 have w1 := W.h
 simp only [go_sem, Nat.zero_add, q0]
 rw [za8 _ _ _ _ (by omega), zaa]
 simp only [go_sem, Nat.zero_add, q1]
 rw [za8 _ _ _ _ (by omega), zaa]
 simp only [go_sem, Nat.zero_add, q2, q3, q4]
 rw [Int.tmod_eq_emod_of_nonneg w0.1, Int.tmod_eq_emod_of_nonneg w1.1]
 exact (c_l9Draw (Hu.ext e1) (by unfold U16; omega) (by unfold U16; omega) W.c W.most W.l W.len).mono fun r h' N => N.before e1
theorem NewR.since {α : Type} {e : Rp α} {h0 h h' : Heap} {v : Value} {l : List α} (H : NewR e h h' v l) (k : Ext h0 h) : Rp.Sl e (Since h0 h') h' v l := H.sl.mono fun c hc hz => ⟨Nat.le_trans k.1 hz.1, hc⟩
theorem c_Stages {Z : Nat → Prop} {h : Heap} (G : GlobB h) {v : Value} {l : List OpD} {b : Nat} {iv : Value} {m : Pic} (H : Rp.Sl rOp Z h v l) (few : l.length ≤ 4) (WO : OpsWf l) (I : IsImg h b iv m) (W : m.Wf) :
  FCall prog zdc #[v, ptr b] h fun r h' => Ext h h' ∧ ∃ sv rv ok, r = .tuple #[sv, rv, .bool ok] ∧ zar sv = true ∧ (ok = true ↔ zgW 12 l ∧ opsC l m.w m.h m.c = 0) ∧
   (ok = true → Rp.Sl rStgP (Since h h') h' sv (allS l m.w m.h) ∧ Rp.Sl rStg (Since h h') h' rv (allS l m.w m.h)) := by
 apply zob
 unfold zik
 obtain ⟨a, cap, e⟩ := H.isSl
 have e2 : zag v = some (.int .i64 (l.length : Int)) := by rw [e]; rfl
 have np : binV .p .eql (ptr b) (.pointer none) = some (.bool false) := rfl
 simp only [go_sem, e2, np]
 have h4 : ((4 : Int) < (l.length : Int)) = False := eq_false (by omega)
 simp only [go_sem, h4]
 refine (c_Little (side := 12) H (by omega)).mono fun r h1 ⟨e, e1⟩ => ?_
 subst e
 simp only [go_sem]
 refine zab (fun hl => ?_) (fun hl => ?_)
 ·exact ⟨e1, _, _, false, rfl, rfl, ⟨fun h => (by cases h), fun h => absurd h.1 hl⟩, fun h => (by cases h)⟩
 have hl : zgW 12 l := Decidable.of_not_not hl
 have hf := zbs W.fits
 have hW : I64 m.w := by unfold I64; omega
 have hH : I64 m.h := by unfold I64; omega
 have gets : ∀ (h2 : Heap) (E : Ext h h2) (K : Value → Value → Value → Heap → Prop), K (.int .i64 m.w) (.int .i64 m.h) (.int .i64 m.c) h2 →
   FCall prog zaB #[ptr b] h2 fun v11 h12 => FCall prog zaz #[ptr b] h12 fun v13 h14 => FCall prog zae #[ptr b] h14 fun v15 h16 => K v11 v13 v15 h16 := by
  intro h2 E K HK
  refine (zkc (I.ext E)).mono fun r h3 ⟨e, wq⟩ => ?_
  have wq := wq.symm
  subst e wq
  refine (zhh (I.ext E)).mono fun r h3 ⟨e, wq⟩ => ?_
  have wq := wq.symm
  subst e wq
  refine (zbV (I.ext E)).mono fun r h3 ⟨e, wq⟩ => ?_
  have wq := wq.symm
  subst e wq
  exact HK
 refine gets h1 e1 _ ?_
 refine (c_opAll (G.ext e1) (H.ext e1) WO hW hH (c := m.c)).mono fun r h2 ⟨sv, e, e2', s0, s1⟩ => ?_
 subst e
 simp only [go_sem]
 have E2 := e1.trans e2'
 refine (c_Refs (H.ext E2) (by omega)).mono fun lv h3 ⟨HR, e3⟩ => ?_
 have E3 := E2.trans e3
 refine gets h3 E3 _ ?_
 refine (c_r12All HR WO hW hH (c := m.c)).mono fun r h5 ⟨rv, e, e5, t0, t1⟩ => ?_
 subst e
 simp only [go_sem]
 have E5 := E3.trans e5
 by_cases hc : opsC l m.w m.h m.c = 0
 ·have S := (s1 hc).ext (e3.trans e5)
  have T := t1 hc
  obtain ⟨asv, csv, es⟩ := S.isSl
  obtain ⟨at_, ct, et⟩ := T.isSl
  have es2 : zag sv = some (.int .i64 ((allS l m.w m.h).length : Int)) := by rw [es]; rfl
  have et2 : zag rv = some (.int .i64 ((allS l m.w m.h).length : Int)) := by rw [et]; rfl
  simp only [go_sem, hc, es2, et2]
  refine ⟨E5, sv, rv, true, by simp, by rw [es]; rfl, ⟨fun _ => ⟨hl, trivial⟩, fun _ => rfl⟩, fun _ => ⟨?_, ?_⟩⟩
  ·exact S.since e1
  ·exact T.since E3
 ·simp only [go_sem, hc]
  exact ⟨E5, sv, rv, false, by simp, by rw [s0 hc]; rfl, ⟨fun h => (by cases h), fun h => h.2.elim⟩, fun h => (by cases h)⟩
end Go.Proofs.YtdbebmafgpdfhaaGreatDoor
namespace Go.Proofs.YtdbebmafgpdfhaaGreatDoor
open Go Go.Crisp
open _root_.Go.Proofs.Tryz
structure ListsB (L : List (String × DataW Unit)) : Prop where
 plain : (L.all fun x => x.2.handleName?.isNone) = true
 names : ("smalto/border.names", Rows.laid_smalto_border_names) ∈ L
 kinds : ("smalto/raw.kinds", Rows.laid_smalto_raw_kinds) ∈ L
theorem ListsB.glob {L : List (String × DataW Unit)} (l : ListsB L) {h : Heap} (H : zjU prog L h) : GlobB h := globB_of H l.plain l.names l.kinds
theorem u16_wf {n : Int} (h : (Lit.int .u16 n).wf = true) : 0 ≤ n ∧ n ≤ 65535 := by
 have h : (decide (IntKind.u16.min ≤ n) && decide (n ≤ IntKind.u16.max)) = true := h
 rw [Bool.and_eq_true, decide_eq_true_eq, decide_eq_true_eq] at h; exact h
abbrev tU16 : TS := .int .u16
abbrev tPic : TS := .pair tU16 (.pair tU16 (.pair tU16 (.pair tU16 (.pair (.sl tU16 2) .unit))))
def picOf (x : tPic.T) : PicA := ⟨x.1, x.2.1, x.2.2.1, x.2.2.2.1, x.2.2.2.2.1⟩
theorem slu_of_slc {h : Heap} {v : Value} {l : List Int} (H : SlC 1 h v l.length (l.map (Value.int .u16))) : Rp.Sl rU (fun _ => True) h v l :=
 ⟨_, H, fun _ _ _ => trivial, fun i hi => by
  show Rp.el 1 _ i = [.int .u16 l[i]]
  rw [Rp.el_one (by simpa using hi), List.getElem_map]⟩
theorem u16s_rd {h : Heap} {cs : List Value} {l : List Int} (H : Rd (.sl tU16 2) h cs l) : ∃ v, cs = [v] ∧ Rp.Sl rU (fun _ => True) h v l ∧ (∀ n ∈ l, U16 n) ∧ l.length * 2 ≤ 140737488351232 := by
 obtain ⟨v, rfl, h1, h2, h3⟩ := sl1_rd (e := tU16) (Value.int .u16) U16 rfl (fun ds x hr => ⟨hr.1, u16_wf hr.2⟩) H
 exact ⟨v, rfl, slu_of_slc h1, h2, h3⟩
theorem pic_rd {h : Heap} {cs : List Value} {x : tPic.T} (H : Rd tPic h cs x) : rPicA.R (fun _ => True) h cs (picOf x) ∧ (picOf x).Wf := by
 obtain ⟨_, _, rfl, ⟨rfl, a1⟩, _, _, rfl, ⟨rfl, a2⟩, _, _, rfl, ⟨rfl, a3⟩, _, _, rfl, ⟨rfl, a4⟩, _, _, rfl, a5, rfl⟩ := H
 obtain ⟨s, rfl, s1, s2, s3⟩ := u16s_rd a5
 have s3 : (picOf x).l.length * 2 ≤ 140737488351232 := s3
 exact ⟨⟨s, rfl, s1⟩, ⟨u16_wf a1, u16_wf a2, u16_wf a3, u16_wf a4, s2, by omega⟩⟩
theorem ops1_wf {h : Heap} {cs : List Value} {x : tOp.T} (H : Rd tOp h cs x) : OpsWf [opOf x] := by
 have h1 := (op_rd H).2
 have h2 := op_len H
 refine ⟨fun o ho => ?_, fun o ho => ?_, by simp⟩ <;> (rw [List.mem_singleton.1 ho])
 ·exact h1
 ·exact h2
end Go.Proofs.YtdbebmafgpdfhaaGreatDoor
namespace Go.Proofs.YtdbebmafgpdfhaaGreatDoor
open Go Go.Crisp
attribute [local irreducible] FCall rowK newK stK iteK vK qK drawK gK joinK loopK mkK appK cpyK zni zla bsK clK
open _root_.Go.Proofs.Tryz
theorem zmU (o : Nat) : ∀ (l : List Value) (c : Array Value) (k : Nat), (l.zipIdx k).foldl (fun cs (p : Value × Nat) => cs.setIfInBounds (o + p.2) p.1) c = wrL c (o + k) l
 | [], _, _ => rfl
 | v :: l, c, k => by
  simp only [List.zipIdx_cons, List.foldl_cons, wrL]
  exact zmU o l _ (k + 1)
theorem zdI {c : Array Value} {o n : Nat} {v : Value} {l : List Value} {rest : List (Nat × Nat × Value)} (hv : v.cells = l.toArray) (hl : l.length = n) (hb : o + n ≤ c.size) : fillL c ((o, n, v) :: rest) = fillL (wrL c o l) rest := by
 simp only [fillL, hv]
 rw [if_neg (by simp [hl]; omega)]
 congr 1
 rw [Array.zipIdx_toArray, List.foldl_toArray']
 ·exact zmU o l c 0
 ·simp
structure PlanD where
 s : Stg
 w : Int
 h : Int
def sideT (n : Int) : Prop := 1 ≤ n ∧ n ≤ 4096
instance (n : Int) : Decidable (sideT n) := by unfold sideT; infer_instance
structure PlanD.Wf (d : PlanD) : Prop where
 s : d.s.Wf
 w : sideT d.w
 h : sideT d.h
def PlanD.X (d : PlanD) : Int := d.s.x.lines.length
def PlanD.Y (d : PlanD) : Int := d.s.y.lines.length
structure zhV (Z : Nat → Prop) (h : Heap) (b : Nat) (d : PlanD) (p q : Value) : Prop where
 row : h[b]? = some (.cells #[p, q, .int .i64 d.s.border, .int .i64 d.w, .int .i64 d.h] 141 (0, 0))
 x : IsTbl Z h p d.s.x
 y : IsTbl Z h q d.s.y
theorem zhV.ext {Z : Nat → Prop} {h h' : Heap} {b : Nat} {d : PlanD} {p q : Value} (H : zhV Z h b d p q) (e : Ext h h') : zhV Z h' b d p q := ⟨e.row H.row, H.x.ext e, H.y.ext e⟩
def zbW (n size : Int) : Int := (n + size - 1) / size
def colsZ (d : PlanD) : Int := zbW d.X d.w
def zcc (d : PlanD) : Int := colsZ d * zbW d.Y d.h
def outX (d : PlanD) (i : Int) : Int := i % colsZ d * d.w
def outY (d : PlanD) (i : Int) : Int := i / colsZ d * d.h
def outW (d : PlanD) (i : Int) : Int := min d.w (d.X - outX d i)
def outH (d : PlanD) (i : Int) : Int := min d.h (d.Y - outY d i)
theorem zg6 {n size : Int} (hn : 0 ≤ n ∧ n ≤ 65536) (hs : sideT size) : 0 ≤ zbW n size ∧ zbW n size ≤ 65536 ∧ (1 ≤ n → 1 ≤ zbW n size) := by
 unfold sideT at hs
 unfold zbW
 refine ⟨Int.ediv_nonneg (by omega) (by omega), ?_, fun h => ?_⟩
 ·have := zgl (a := n + size - 1) (b := size) (L := 0) (U := 70000) (by omega) (by omega) (by omega) (by omega) (by omega)
  apply Int.le_of_lt_add_one
  rw [Int.ediv_lt_iff_lt_mul (by omega)]
  omega
 ·rw [Int.le_ediv_iff_mul_le (by omega)]; omega
theorem PlanD.bd {d : PlanD} (W : d.Wf) : (0 ≤ d.X ∧ d.X ≤ 65536) ∧ (0 ≤ d.Y ∧ d.Y ≤ 65536) := by
 have h1 := W.s.x.len
 have h2 := W.s.y.len
 unfold PlanD.X PlanD.Y
 omega
theorem c_parts {h : Heap} {n size : Int} (hn : 0 ≤ n ∧ n ≤ 65536) (hs : sideT size) : FCall prog zgt #[.int .i64 n, .int .i64 size] h fun r h' => r = .int .i64 (zbW n size) ∧ h' = h := by
 apply zqX
 unfold zkW
 have hb := zg6 hn hs
 unfold sideT at hs
 unfold zbW at *
 simp only [go_sem]
 rw [w64 (n := n + size) (by omega) (by omega), w64 (n := n + size - 1) (by omega) (by omega), zek _ _ _ _ (by omega), zaa, Int.tdiv_eq_ediv_of_nonneg (by omega), w64 (by omega) (by omega)]
 exact ⟨rfl, trivial⟩
theorem zoH {Z : Nat → Prop} {h : Heap} {b : Nat} {d : PlanD} {p q : Value} (H : zhV Z h b d p q) (W : d.Wf) : FCall prog zbL #[ptr b] h fun r h' => r = .int .i64 (colsZ d) ∧ h' = h := by
 apply zjj
 unfold zeV
 simp only [go_sem, Nat.zero_add]
 refine zan (fun h' => h' = h) rfl ?_
 refine zaf p (fun h' e => by rw [e]; exact zac H.row) ?_
 refine zaf (.int .i64 d.w) (fun h' e => by rw [e]; exact zac H.row) ?_
 refine (c_To H.x).mono fun r h1 ⟨e, wq⟩ => ?_
 have wq := wq.symm
 subst e wq
 exact ⟨rfl, c_parts (PlanD.bd W).1 W.w⟩
theorem zkd {Z : Nat → Prop} {h : Heap} {b : Nat} {d : PlanD} {p q : Value} (H : zhV Z h b d p q) (W : d.Wf) : FCall prog zaT #[ptr b] h fun r h' => r = .int .i64 (zcc d) ∧ h' = h := by
 apply zln
 unfold zga
 simp only [go_sem, Nat.zero_add]
 refine zan (fun h' => h' = h) rfl ?_
 refine zaf q (fun h' e => by rw [e]; exact zac H.row) ?_
 refine zaf (.int .i64 d.h) (fun h' e => by rw [e]; exact zac H.row) ?_
 refine (zoH H W).mono fun r h1 ⟨e, wq⟩ => ?_
 have wq := wq.symm
 subst e wq
 refine ⟨rfl, ?_⟩
 refine (c_To H.y).mono fun r h1 ⟨e, wq⟩ => ?_
 have wq := wq.symm
 subst e wq
 refine ⟨rfl, ?_⟩
 refine (c_parts (PlanD.bd W).2 W.h).mono fun r h1 ⟨e, wq⟩ => ?_
 have wq := wq.symm
 subst e wq
 simp only [go_sem]
 have h1 := zg6 (PlanD.bd W).1 W.w
 have h2 := zg6 (PlanD.bd W).2 W.h
 have h3 := ziz (a := colsZ d) (A := 65536) (b := zbW d.Y d.h) (B := 65536) h1.1 h1.2.1 h2.1 h2.2.1
 have e : colsZ d * zbW (d.s.y.lines.length : Int) d.h = zcc d := rfl
 have h3 : 0 ≤ colsZ d * zbW (d.s.y.lines.length : Int) d.h ∧ colsZ d * zbW (d.s.y.lines.length : Int) d.h ≤ 65536 * 65536 := h3
 rw [w64 (by omega) (by omega)]
 exact ⟨rfl, trivial⟩
theorem zp2 {h : Heap} {n : Int} : FCall prog zhu #[.int .i64 n] h fun r h' => r = .bool (decide (sideT n)) ∧ h' = h := by
 apply ok_plan_side
 unfold zmH
 simp only [go_sem]
 exact ⟨rfl, trivial⟩
theorem c_planNew {Z : Nat → Prop} {h : Heap} {sv : Value} {s : Stg} {w hh : Int} (HS : IsStg Z h sv s) : FCall prog zfj #[sv, .int .i64 w, .int .i64 hh] h fun r h' =>
  Ext h h' ∧ ((sideT w ∧ sideT hh) → ∃ b p q, r = .tuple #[ptr b, .int .i64 0] ∧ h.size ≤ b ∧ zhV Z h' b ⟨s, w, hh⟩ p q) ∧ (¬ (sideT w ∧ sideT hh) → r = .tuple #[.pointer none, .int .i64 9]) := by
 apply ok_plan_New
 unfold znM
 obtain ⟨p, q, rfl, hp, hq, ones⟩ := zdB HS
 simp only [zaG]
 refine zai fun b1 h1 r1 e1 n1 => ?_
 have np := (zps hp).2
 have nq := (zps hq).2
 have q0 : zah h1 ⟨b1, 0, none⟩ = some p := zac r1
 have q1 : zah h1 ⟨b1, 1, none⟩ = some q := zac r1
 simp only [go_sem, Nat.zero_add, q0, q1, np, nq]
 refine zp2.mono fun r h2 ⟨e, wq⟩ => ?_
 have wq := wq.symm
 subst e wq
 by_cases hw : sideT w
 ·simp only [go_sem, hw]
  refine zp2.mono fun r h2 ⟨e, wq⟩ => ?_
  have wq := wq.symm
  subst e wq
  by_cases hh' : sideT hh
  ·simp only [go_sem, hh']
   rw [zav (l := [p, q, .int .i64 s.border]) r1 3 rfl, zaa]
   have hf : fillL #[(.pointer none), (.pointer none), (.int .i64 0), (.int .i64 0), (.int .i64 0)] [(0, 3, .agg #[p, q, .int .i64 s.border]), (3, 1, .int .i64 w), (4, 1, .int .i64 hh)] = some #[p, q, .int .i64 s.border, .int .i64 w, .int .i64 hh] := rfl
   rw [hf, zaA, zaa]
   refine zai (c := #[p, q, .int .i64 s.border, .int .i64 w, .int .i64 hh]) fun b2 h2 r2 e2 n2 => ?_
   exact ⟨e1.trans e2, fun _ => ⟨b2, p, q, rfl, Nat.le_trans e1.1 n2, r2, hp.ext (e1.trans e2), hq.ext (e1.trans e2)⟩, fun hn => absurd ⟨trivial, trivial⟩ hn⟩
  ·simp only [go_sem, hh']
   exact ⟨e1, fun hn => hn.2.elim, fun _ => by simp⟩
 ·simp only [go_sem, hw]
  exact ⟨e1, fun hn => hn.1.elim, fun _ => by simp⟩
structure TileD where
 number : Int
 x : Int
 y : Int
 w : Int
 h : Int
 fx : Int
 fy : Int
 cx : Int
 cy : Int
 ring : Int
abbrev tileC (t : TileD) : List Value := [.int .i64 t.number, .int .i64 t.x, .int .i64 t.y, .int .i64 t.w, .int .i64 t.h, .int .i64 t.fx, .int .i64 t.fy, .int .i64 t.cx, .int .i64 t.cy, .int .i64 t.ring]
theorem zdA (t : TileD) : ∀ v ∈ tileC t, zar v = true := by
 intro v hv
 simp only [tileC, List.mem_cons, List.not_mem_nil, or_false] at hv
 rcases hv with rfl | rfl | rfl | rfl | rfl | rfl | rfl | rfl | rfl | rfl <;> rfl
theorem zqi {d : PlanD} (W : d.Wf) {i : Int} (h0 : 0 ≤ i) (h1 : i < zcc d) : 0 ≤ outX d i ∧ outX d i < d.X ∧ 0 ≤ outY d i ∧ outY d i < d.Y := by
 have hb := PlanD.bd W
 have hw := W.w
 have hh := W.h
 unfold sideT at hw hh
 have h2 := zg6 hb.1 W.w
 have h3 := zg6 hb.2 W.h
 have hc : 0 < colsZ d := by
  rcases Int.lt_or_le 0 (colsZ d) with h | h
  ·exact h
  ·have h4 : 0 ≤ colsZ d := h2.1
   have : colsZ d = 0 := by omega
   unfold zcc at h1
   rw [this, Int.zero_mul] at h1
   omega
 have m0 := Int.emod_nonneg i (show colsZ d ≠ 0 by omega)
 have m1 := Int.emod_lt_of_pos i hc
 have q0 := Int.ediv_nonneg h0 (show 0 ≤ colsZ d by omega)
 have q1 : i / colsZ d < zbW d.Y d.h := by
  rw [Int.ediv_lt_iff_lt_mul hc, Int.mul_comm]; exact h1
 have key : ∀ (n size k : Int), 0 ≤ n → 1 ≤ size → 0 ≤ k → k < zbW n size → 0 ≤ k * size ∧ k * size < n := by
  intro n size k hn hs hk hlt
  refine ⟨Int.mul_nonneg hk (by omega), ?_⟩
  have h5 : k + 1 ≤ (n + size - 1) / size := hlt
  rw [Int.le_ediv_iff_mul_le (by omega), Int.add_mul, Int.one_mul] at h5
  omega
 have k1 := key d.X d.w (i % colsZ d) hb.1.1 hw.1 m0 m1
 have k2 := key d.Y d.h (i / colsZ d) hb.2.1 hh.1 q0 q1
 exact ⟨k1.1, k1.2, k2.1, k2.2⟩
theorem c_planOut {Z : Nat → Prop} {h : Heap} {b : Nat} {d : PlanD} {p q : Value} (H : zhV Z h b d p q) (W : d.Wf) {i : Int} (h0 : 0 ≤ i) (h1 : i < zcc d) : FCall prog zdS #[ptr b, .int .i64 i] h fun r h' =>
  r = .agg #[.int .i64 (outX d i), .int .i64 (outY d i), .int .i64 (outW d i), .int .i64 (outH d i)] ∧ Ext h h' := by
 apply zm9
 unfold zhP
 have ti := zqi W h0 h1
 have hb := PlanD.bd W
 have hw := W.w
 have hh := W.h
 unfold sideT at hw hh
 have h2 := zg6 hb.1 W.w
 have h3 := zg6 hb.2 W.h
 have hcl : 0 ≤ colsZ d ∧ colsZ d ≤ 65536 := ⟨h2.1, h2.2.1⟩
 have hpr := ziz (a := colsZ d) (A := 65536) (b := zbW d.Y d.h) (B := 65536) h2.1 h2.2.1 h3.1 h3.2.1
 have hct : zcc d = colsZ d * zbW d.Y d.h := rfl
 have hc : 0 < colsZ d := by
  rcases Int.lt_or_le 0 (colsZ d) with h | h
  ·exact h
  ·have : colsZ d = 0 := by omega
   rw [hct, this, Int.zero_mul] at h1
   omega
 have hq := zgl (a := i) (b := colsZ d) (L := 0) (U := 4294967296) (by omega) (by omega) (by omega) (by omega) (by omega)
 refine zai fun b1 h2' r1 e1 n1 => ?_
 have H1 := H.ext e1
 simp only [go_sem, Nat.zero_add]
 refine zan (fun h' => h' = h2') rfl ?_
 refine zaf (.int .i64 d.w) (fun h' e => by rw [e]; exact zac H1.row) ?_
 refine zaf (.int .i64 d.h) (fun h' e => by rw [e]; exact zac H1.row) ?_
 refine (zoH H1 W).mono fun r h3 ⟨e, wq⟩ => ?_
 have wq := wq.symm
 subst e wq
 refine ⟨rfl, ?_⟩
 rw [za8 _ _ _ _ (by omega), zaa, Int.tmod_eq_emod_of_nonneg h0]
 simp only [go_sem]
 refine (zoH H1 W).mono fun r h3 ⟨e, wq⟩ => ?_
 have wq := wq.symm
 subst e wq
 refine ⟨rfl, ?_⟩
 rw [zek _ _ _ _ (by omega), zaa, Int.tdiv_eq_ediv_of_nonneg h0]
 simp only [go_sem]
 have ex : i % colsZ d * d.w = outX d i := rfl
 have ey : i / colsZ d * d.h = outY d i := rfl
 rw [w64 (n := i / colsZ d) (by omega) (by omega), ex, ey, w64 (n := outX d i) (by omega) (by omega), w64 (n := outY d i) (by omega) (by omega)]
 refine zan (fun h' => h' = h2') rfl ?_
 simp only [go_sem, Nat.zero_add]
 refine zaf (.int .i64 d.w) (fun h' e => by rw [e]; exact zac H1.row) ?_
 refine zaf p (fun h' e => by rw [e]; exact zac H1.row) ?_
 refine zaf (.int .i64 d.h) (fun h' e => by rw [e]; exact zac H1.row) ?_
 refine zaf q (fun h' e => by rw [e]; exact zac H1.row) ?_
 refine (c_To H1.x).mono fun r h3 ⟨e, wq⟩ => ?_
 have wq := wq.symm
 subst e wq
 refine ⟨rfl, ?_⟩
 simp only [go_sem]
 have eX : (d.s.x.lines.length : Int) = d.X := rfl
 have eY : (d.s.y.lines.length : Int) = d.Y := rfl
 rw [eX, w64 (n := d.X - outX d i) (by omega) (by omega)]
 refine zaf (.int .i64 (min d.w (d.X - outX d i))) (fun h' e => by first | exact znl _ _ _ | rfl) ?_
 refine (c_To H1.y).mono fun r h3 ⟨e, wq⟩ => ?_
 have wq := wq.symm
 subst e wq
 refine ⟨rfl, ?_⟩
 simp only [go_sem]
 rw [eY, w64 (n := d.Y - outY d i) (by omega) (by omega)]
 refine zaf (.int .i64 (min d.h (d.Y - outY d i))) (fun h' e => by first | exact znl _ _ _ | rfl) ?_
 have hf : fillL #[(.int .i64 0), (.int .i64 0), (.int .i64 0), (.int .i64 0)] [(0, 1, Value.int .i64 (outX d i)), (1, 1, Value.int .i64 (outY d i)), (2, 1, Value.int .i64 (min d.w (d.X - outX d i))), (3, 1, Value.int .i64 (min d.h (d.Y - outY d i)))] = some #[.int .i64 (outX d i), .int .i64 (outY d i), .int .i64 (outW d i), .int .i64 (outH d i)] := rfl
 rw [hf, zaA, zaa]
 refine zb9 (l := [.int .i64 (outX d i), .int .i64 (outY d i), .int .i64 (outW d i), .int .i64 (outH d i)]) r1 rfl (zad rfl (zad rfl (zad rfl (zad rfl zao)))) rfl fun h5 r5 u5 => ?_
 rw [zav r5 4 rfl, zaa]
 exact ⟨rfl, e1.upd n1 u5⟩
theorem fill_tile (a b c d e f : Int) : fillL #[(.int .i64 0), (.int .i64 0), (.int .i64 0), (.int .i64 0), (.int .i64 0), (.int .i64 0), (.int .i64 0), (.int .i64 0), (.int .i64 0), (.int .i64 0)] [(0, 1, Value.int .i64 a), (1, 4, .agg #[.int .i64 b, .int .i64 c, .int .i64 d, .int .i64 e]), (9, 1, .int .i64 f)] = some (tileC ⟨a, b, c, d, e, 0, 0, 0, 0, f⟩).toArray := by
 refine (zdI (n := 1) (l := [.int .i64 a]) rfl rfl (by simp)).trans ?_
 refine (zdI (n := 4) (l := [.int .i64 b, .int .i64 c, .int .i64 d, .int .i64 e]) rfl rfl (by simp [zeh])).trans ?_
 refine (zdI (n := 1) (l := [.int .i64 f]) rfl rfl (by simp [zeh])).trans ?_
 rw [zda]
 simp [wrL, tileC]
def zaC (d : PlanD) (i : Int) : TileD :=
 ⟨i, outX d i, outY d i, outW d i, outH d i, (zjR d.s.x (outX d i) (outX d i + outW d i)).1, (zjR d.s.y (outY d i) (outY d i + outH d i)).1,
  (zjR d.s.x (outX d i) (outX d i + outW d i)).2, (zjR d.s.y (outY d i) (outY d i + outH d i)).2, mostL d.s.y.lines⟩
theorem zmf {Z : Nat → Prop} {h : Heap} {b : Nat} {d : PlanD} {p q : Value} (H : zhV Z h b d p q) (W : d.Wf) {i : Int} (h0 : 0 ≤ i) (h1 : i < zcc d) : FCall prog zbv #[ptr b, .int .i64 i] h fun r h' =>
  r = .tuple #[.agg (tileC (zaC d i)).toArray, .bool true] ∧ Ext h h' := by
 apply zl0
 unfold zgR
 have ti := zqi W h0 h1
 have hb := PlanD.bd W
 have hw := W.w
 have hh := W.h
 unfold sideT at hw hh
 refine zai fun b1 h2 r1 e1 n1 => ?_
 have H1 := H.ext e1
 have hi : (i < 0) = False := eq_false (by omega)
 simp only [go_sem, hi]
 refine (zkd H1 W).mono fun r h3 ⟨e, wq⟩ => ?_
 have wq := wq.symm
 subst e wq
 simp only [go_sem]
 rw [decide_eq_false (by omega), zbc]
 have lb1 := zay r1
 refine zau (fun xs h' => ∃ b2, xs = [ptr b2] ∧ Ext h2 h' ∧ h2.size ≤ b2 ∧ h'[b2]? = some (.cells (tileC ⟨i, outX d i, outY d i, outW d i, outH d i, 0, 0, 0, 0, mostL d.s.y.lines⟩).toArray 84 (0, 0))) ?_ ?_
 ·simp only [go_sem, Nat.zero_add]
  refine zan (Ext h2) (Ext.refl _) ?_
  refine zaf q (fun h' e => zac (e.row H1.row)) ?_
  have hf : fillL #[(.int .i64 0), (.int .i64 0), (.int .i64 0), (.int .i64 0), (.int .i64 0), (.int .i64 0), (.int .i64 0), (.int .i64 0), (.int .i64 0), (.int .i64 0)] [(0, 1, Value.int .i64 i), (1, 4, .agg #[.int .i64 (outX d i), .int .i64 (outY d i), .int .i64 (outW d i), .int .i64 (outH d i)]), (9, 1, .int .i64 (mostL d.s.y.lines))] = some (tileC ⟨i, outX d i, outY d i, outW d i, outH d i, 0, 0, 0, 0, mostL d.s.y.lines⟩).toArray := fill_tile _ _ _ _ _ _
  refine ⟨?_, ?_⟩
  ·refine (c_planOut H1 W h0 h1).mono fun r h3 ⟨e, e3⟩ => ?_
   subst e
   refine ⟨e3, ?_, ?_⟩
   ·refine (c_Most (H1.y.ext e3)).mono fun r h4 ⟨e, wq⟩ => ?_
    have wq := wq.symm
    subst e wq
    refine ⟨e3, ?_⟩
    rw [hf, zaA, zaa]
    refine zai fun b4 h4 r4 e4 n4 => ⟨e3.trans e4, ?_⟩
    have n4' := Nat.le_trans e3.1 n4
    refine zb9 (l := tileC _) r4 rfl (zdA _) rfl fun h5 r5 u5 => ?_
    have E := (e3.trans e4).upd n4' u5
    exact ⟨E, b4, rfl, E, n4', r5⟩
   ·refine zai fun b4 h4 r4 e4 n4 => ⟨e3.trans e4, ?_⟩
    have n4' := Nat.le_trans e3.1 n4
    refine (c_Most (H1.y.ext (e3.trans e4))).mono fun r h5 ⟨e, wq⟩ => ?_
    have wq := wq.symm
    subst e wq
    refine ⟨e3.trans e4, ?_⟩
    rw [hf, zaA, zaa]
    refine zb9 (l := tileC _) r4 rfl (zdA _) rfl fun h5 r5 u5 => ?_
    have E := (e3.trans e4).upd n4' u5
    exact ⟨E, b4, rfl, E, n4', r5⟩
  ·refine zai fun b4 h4 r4 e4 n4 => ⟨e4, ?_⟩
   refine (c_planOut (H1.ext e4) W h0 h1).mono fun r h3 ⟨e, e3⟩ => ?_
   subst e
   refine ⟨e4.trans e3, ?_⟩
   refine (c_Most (H1.y.ext (e4.trans e3))).mono fun r h5 ⟨e, wq⟩ => ?_
   have wq := wq.symm
   subst e wq
   refine ⟨e4.trans e3, ?_⟩
   rw [hf, zaA, zaa]
   refine zb9 (l := tileC _) (e3.row r4) rfl (zdA _) rfl fun h5 r5 u5 => ?_
   have E := (e4.trans e3).upd n4 u5
   exact ⟨E, b4, rfl, E, n4, r5⟩
 rintro xs ρj h3 ⟨b2, rfl, E3, nb2, r3⟩
 have H3 := H1.ext E3
 have lb3 := H1.row
 have hbne : b ≠ b2 := by have := zay H1.row; omega
 have hb12 : b1 ≠ b2 := by omega
 have hW1 : 0 ≤ outX d i + outW d i ∧ outX d i + outW d i ≤ 65536 := by unfold outW; omega
 have hH1 : 0 ≤ outY d i + outH d i ∧ outY d i + outH d i ≤ 65536 := by unfold outH; omega
 refine zan (fun h' => h' = h3) rfl ?_
 simp only [go_sem, Nat.zero_add]
 refine zaf p (fun h' e => by rw [e]; exact zac H3.row) ?_
 refine zaf (.int .i64 (outX d i)) (fun h' e => by rw [e]; exact zac r3) ?_
 refine zaf (.int .i64 (outX d i)) (fun h' e => by rw [e]; exact zac r3) ?_
 refine zaf (.int .i64 (outW d i)) (fun h' e => by rw [e]; exact zac r3) ?_
 simp only [go_sem]
 rw [w64 (by omega) (by omega)]
 refine (c_Reach H3.x W.s.x (by unfold I64; omega) (by unfold I64; omega)).mono fun r h4 ⟨e, e4⟩ => ?_
 subst e
 simp only [go_sem, Nat.zero_add]
 refine zaO (e4.row r3) (by simp) rfl fun h5 r5 u5 => ?_
 refine zaO r5 (by simp) rfl fun h6 r6 u6 => ?_
 have E6 : Ext h2 h6 := ((E3.trans e4).upd nb2 u5).upd nb2 u6
 have H6 := H1.ext E6
 have r6 : h6[b2]? = some (.cells (tileC ⟨i, outX d i, outY d i, outW d i, outH d i, (zjR d.s.x (outX d i) (outX d i + outW d i)).1, 0, (zjR d.s.x (outX d i) (outX d i + outW d i)).2, 0, mostL d.s.y.lines⟩).toArray 84 (0, 0)) := r6
 refine zan (fun h' => h' = h6) rfl ?_
 try simp only [go_sem, Nat.zero_add]
 refine zaf q (fun h' e => by rw [e]; exact zac H6.row) ?_
 refine zaf (.int .i64 (outY d i)) (fun h' e => by rw [e]; exact zac r6) ?_
 refine zaf (.int .i64 (outY d i)) (fun h' e => by rw [e]; exact zac r6) ?_
 refine zaf (.int .i64 (outH d i)) (fun h' e => by rw [e]; exact zac r6) ?_
 simp only [go_sem]
 rw [w64 (by omega) (by omega)]
 refine (c_Reach H6.y W.s.y (by unfold I64; omega) (by unfold I64; omega)).mono fun r h7 ⟨e, e7⟩ => ?_
 subst e
 simp only [go_sem, Nat.zero_add]
 refine zaO (e7.row r6) (by simp) rfl fun h8 r8 u8 => ?_
 refine zaO r8 (by simp) rfl fun h9 r9 u9 => ?_
 have E9 : Ext h2 h9 := ((E6.trans e7).upd nb2 u8).upd nb2 u9
 have r9 : h9[b2]? = some (.cells (tileC (zaC d i)).toArray 84 (0, 0)) := r9
 rw [zav r9 10 rfl, zaa]
 refine zb9 (l := tileC (zaC d i)) (E9.row r1) rfl (zdA _) rfl fun h10 r10 u10 => ?_
 rw [zav r10 10 rfl, zaa]
 exact ⟨rfl, (e1.trans E9).upd n1 u10⟩
def op14 : OpD := ⟨3, 0, 0, 0, [], [], 0, 5, 3⟩
theorem c_l14Lives {h : Heap} (G : GlobB h) : FCall prog zhx #[] h fun r h' => r = .bool true ∧ Ext h h' := by
 apply zpc
 unfold zjF
 have hf : (fillL #[(.int .i64 0), (.int .i64 0), (.int .i64 0), (.int .i64 0), (.slice none 0 0), (.slice none 0 0), (.int .i64 0), (.int .i64 0), (.int .i64 0)] [(0, 1, (.int .i64 3)), (7, 1, (.int .i64 5)), (8, 1, (.int .i64 3)), (6, 1, (.int .i64 0))]) = some #[.int .i64 3, .int .i64 0, .int .i64 0, .int .i64 0, .slice none 0 0, .slice none 0 0, .int .i64 0, .int .i64 5, .int .i64 3] := rfl
 rw [hf, zaA, zaa]
 have wf : op14.Wf := zng (by simp [I64])
 refine (c_Make (Z := fun _ => True) (o := op14) G znh wf (by simp [op14]) (by simp [op14]) (by unfold I64; omega) (by unfold I64; omega)).mono fun w h1 ⟨sv, e, e1, _, s1⟩ => ?_
 subst e
 have a1 : makeC op14 9 9 = 0 := by decide +kernel
 have HS := s1 a1
 rw [a1]
 obtain ⟨p, q, rfl, hp, hq, ones⟩ := zdB HS
 simp only [go_sem]
 refine za1 (cs := [p, q, .int .i64 _]) rfl ones rfl fun b2 h2 r2 e2 n2 => ?_
 refine (zp3 (G.ext (e1.trans e2))).mono fun r h3 ⟨e, e3⟩ => ?_
 subst e
 have z0 : ((0 : Int) = 0) = True := eq_true rfl
 simp only [go_sem, z0, decide_true]
 rw [zav (l := [p, q, .int .i64 _]) (e3.row r2) 3 rfl, zaa]
 refine (c_planNew (HS.ext (e2.trans e3))).mono fun r h4 ⟨e4, hy, _⟩ => ?_
 obtain ⟨b4, p4, q4, e, nb4, P⟩ := hy ⟨by decide, by decide⟩
 subst e
 have np : binV .p .eql (ptr b4) (.pointer none) = some (.bool false) := rfl
 simp only [go_sem, z0, np, decide_true]
 have PW : PlanD.Wf ⟨makeS op14 9 9, 2, 2⟩ := ⟨(zi0 a1).1, by decide, by decide⟩
 have hcount : zcc ⟨makeS op14 9 9, 2, 2⟩ = 6 := by decide +kernel
 refine (zmf P PW (i := 5) (by omega) (by rw [hcount]; omega)).mono fun r h5 ⟨e, e5⟩ => ?_
 subst e
 simp only [go_sem]
 refine za1 (cs := tileC _) rfl (zdA _) rfl fun b6 h6 r6 e6 n6 => ?_
 refine (zkd (P.ext (e5.trans e6)) PW).mono fun r h7 ⟨e, wq⟩ => ?_
 have wq := wq.symm
 subst e wq
 rw [hcount]
 have t1 : outX ⟨makeS op14 9 9, 2, 2⟩ 5 = 4 := by decide +kernel
 have t2 : outY ⟨makeS op14 9 9, 2, 2⟩ 5 = 2 := by decide +kernel
 have t3 : outW ⟨makeS op14 9 9, 2, 2⟩ 5 = 1 := by decide +kernel
 have t4 : outH ⟨makeS op14 9 9, 2, 2⟩ 5 = 1 := by decide +kernel
 have ld4 : ldsV 4 h6 (.pointer (some ⟨b6, 1, none⟩)) = some (.agg #[.int .i64 4, .int .i64 2, .int .i64 1, .int .i64 1]) := by
  refine znn [.int .i64 4, .int .i64 2, .int .i64 1, .int .i64 1] 4 rfl fun j hj => ?_
  rw [zac r6]
  match j, hj with
  | 0, _ => exact congrArg (fun n => some (Value.int .i64 n)) t1
  | 1, _ => exact congrArg (fun n => some (Value.int .i64 n)) t2
  | 2, _ => exact congrArg (fun n => some (Value.int .i64 n)) t3
  | 3, _ => exact congrArg (fun n => some (Value.int .i64 n)) t4
 have hf4 : fillL #[(.int .i64 0), (.int .i64 0), (.int .i64 0), (.int .i64 0)] [(0, 1, (.int .i64 4)), (1, 1, (.int .i64 2)), (2, 1, (.int .i64 1)), (3, 1, (.int .i64 1))] = some #[.int .i64 4, .int .i64 2, .int .i64 1, .int .i64 1] := rfl
 have heq : binV (.st [(0, 1, .i), (1, 1, .i), (2, 1, .i), (3, 1, .i)]) .eql (.agg #[.int .i64 4, .int .i64 2, .int .i64 1, .int .i64 1]) (.agg #[.int .i64 4, .int .i64 2, .int .i64 1, .int .i64 1]) = some (.bool true) := rfl
 simp only [go_sem, eq_self, decide_true, Nat.zero_add, ld4, hf4, zaA, heq]
 exact ⟨by simp, e1.trans (e2.trans (e3.trans (e4.trans (e5.trans e6))))⟩
end Go.Proofs.YtdbebmafgpdfhaaGreatDoor
namespace Go.Crisp
open Go Go.MapKept
section
section
variable {α : Type}
def kGet (j : Int) : List (Int × α) → Option α
 | [] => none
 | (k, v) :: r => if k = j then some v else kGet j r
def kPut (j : Int) (v : α) : List (Int × α) → List (Int × α)
 | [] => [(j, v)]
 | (k, u) :: r => if k = j then (j, v) :: r else (k, u) :: kPut j v r
def kDel (j : Int) : List (Int × α) → List (Int × α)
 | [] => []
 | (k, u) :: r => if k = j then r else (k, u) :: kDel j r
def kFind (j : Int) : List (Int × α) → Nat → Option (Nat × α)
 | [], _ => none
 | (k, v) :: r, i => if k = j then some (i, v) else kFind j r (i + 1)
def kMap {β : Type} (f : α → β) (l : List (Int × α)) : List (Int × β) := l.map fun p => (p.1, f p.2)
theorem ziB {β : Type} (f : α → β) (l : List (Int × α)) : (kMap f l).map Prod.fst = l.map Prod.fst := by simp [kMap, List.map_map, Function.comp_def]
theorem zgj {β : Type} (f : α → β) (j : Int) : ∀ l : List (Int × α), kGet j (kMap f l) = (kGet j l).map f
 | [] => rfl
 | (k, v) :: r => by
  have ih := zgj f j r
  unfold kMap at ih ⊢
  simp only [List.map_cons, kGet]
  split
  ·rfl
  ·exact ih
theorem zrl {β : Type} (f : α → β) (j : Int) : ∀ l : List (Int × α), kDel j (kMap f l) = kMap f (kDel j l)
 | [] => rfl
 | (k, v) :: r => by
  have ih := zrl f j r
  unfold kMap at ih ⊢
  simp only [List.map_cons, kDel]
  split
  ·rfl
  ·simp [ih]
end
def esKv (es : List MapEntry) (kv : List (Int × Value)) : Prop := es.map (fun e => (e.key, e.val)) = kv.map fun p => (Value.int .i64 p.1, p.2)
def MapI (h : Heap) (b : Nat) (kv : List (Int × Value)) : Prop := ∃ es c, h[b]? = some (.map es c) ∧ Stamped es c ∧ esKv es.toList kv
theorem esKv.length {es : List MapEntry} {kv : List (Int × Value)} (H : esKv es kv) : es.length = kv.length := by
 have := congrArg List.length H
 simpa using this
theorem MapI.nodup {h : Heap} {b : Nat} {kv : List (Int × Value)} (H : MapI h b kv) : (kv.map Prod.fst).Nodup := by
 obtain ⟨es, c, _, hs, he⟩ := H
 have h1 : es.toList.map (·.key) = (kv.map Prod.fst).map (Value.int .i64) := by
  have := congrArg (List.map Prod.fst) he
  simpa [List.map_map, Function.comp_def] using this
 have h2 := hs.2.2
 rw [h1] at h2
 unfold List.Nodup at h2 ⊢
 rw [List.pairwise_map] at h2
 exact h2.imp fun h e => h (by rw [e])
theorem MapI.row {h h' : Heap} {b : Nat} {kv : List (Int × Value)} (H : MapI h b kv) (r : h'[b]? = h[b]?) : MapI h' b kv := by
 obtain ⟨es, c, h1, h2⟩ := H
 exact ⟨es, c, r.trans h1, h2⟩
theorem MapI.lt {h : Heap} {b : Nat} {kv : List (Int × Value)} (H : MapI h b kv) : b < h.size := by
 obtain ⟨es, c, h1, _⟩ := H
 exact zay h1
theorem MapI.fr {M : Nat → Prop} {h h' : Heap} {b : Nat} {kv : List (Int × Value)} (H : MapI h b kv) (f : Fr M h h') (hm : ¬ M b) : MapI h' b kv := H.row (f.2 b H.lt hm)
theorem MapI.ext {h h' : Heap} {b : Nat} {kv : List (Int × Value)} (H : MapI h b kv) (e : Ext h h') : MapI h' b kv := H.row (e.2 b H.lt)
theorem zoz (j : Int) : ∀ (es : List MapEntry) (kv : List (Int × Value)) (i : Nat), esKv es kv → Instr.findNow (.int .i64) (.int .i64 j) es i = some (kFind j kv i)
 | [], kv, i, H => by
  have : kv = [] := List.eq_nil_of_length_eq_zero (by rw [← esKv.length H]; rfl)
  subst this; rfl
 | e :: es, [], i, H => by have := esKv.length H; simp at this
 | e :: es, (k, v) :: kv, i, H => by
  unfold esKv at H
  simp only [List.map_cons, List.cons.injEq, Prod.mk.injEq] at H
  obtain ⟨⟨h1, h2⟩, H⟩ := H
  unfold Instr.findNow kFind
  rw [h1]
  have hs : Instr.sameNow (.int .i64) (.int .i64 j) (.int .i64 k) = some (j == k) := by simp [Instr.sameNow]
  rw [hs]
  by_cases hk : k = j
  ·subst hk
   simp [h2]
  ·have hk' : (j == k) = false := by simp; exact fun h => hk h.symm
   rw [hk', if_neg hk]
   exact zoz j es kv (i + 1) H
theorem zos {α : Type} (j : Int) : ∀ (kv : List (Int × α)) (i : Nat), (kFind j kv i).map Prod.snd = kGet j kv
 | [], _ => rfl
 | (k, v) :: r, i => by
  unfold kFind kGet
  split
  ·rfl
  ·exact zos j r (i + 1)
theorem zfH {α : Type} {j : Int} : ∀ {kv : List (Int × α)}, kGet j kv = none ↔ j ∉ kv.map Prod.fst
 | [] => by simp [kGet]
 | (k, v) :: r => by
  unfold kGet
  by_cases hk : k = j
  ·simp [hk]
  ·simp [hk, zfH (kv := r), Ne.symm hk]
theorem zpO {α : Type} {j : Int} {kv : List (Int × α)} {i : Nat} (h : kFind j kv i = none) : kGet j kv = none := by
 rw [← zos j kv i, h]; rfl
theorem zl4 {α : Type} {j : Int} : ∀ {kv : List (Int × α)} {i m : Nat} {v : α}, kFind j kv i = some (m, v) → i ≤ m ∧ kv[m - i]? = some (j, v) ∧ (∀ u, kPut j u kv = kv.set (m - i) (j, u)) ∧ kDel j kv = kv.eraseIdx (m - i)
 | [], _, _, _, h => by cases h
 | (k, v) :: r, i, m, u, h => by
  unfold kFind at h
  split at h
  ·rename_i hk
   cases h
   subst hk
   simp [kPut, kDel]
  ·rename_i hk
   obtain ⟨h1, h2, h3, h4⟩ := zl4 h
   have hm : m - i = (m - (i + 1)) + 1 := by omega
   refine ⟨by omega, ?_, fun u => ?_, ?_⟩
   ·rw [hm]; simpa using h2
   ·rw [hm]; simp [kPut, hk, h3 u]
   ·rw [hm]; simp [kDel, hk, h4]
theorem zot {α : Type} {j : Int} {v : α} : ∀ {kv : List (Int × α)}, kGet j kv = some v → kv.Perm ((j, v) :: kDel j kv)
 | (k, u) :: r, h => by
  unfold kGet at h
  unfold kDel
  split at h
  ·rename_i hk
   cases h; subst hk
   rw [if_pos rfl]
  ·rename_i hk
   rw [if_neg hk]
   exact ((zot h).cons (k, u)).trans (List.Perm.swap ..)
theorem zrj {α : Type} {j : Int} {v : α} : ∀ {kv : List (Int × α)}, kGet j kv = some v → (j, v) ∈ kv
 | (k, u) :: r, h => by
  unfold kGet at h
  split at h
  ·rename_i hk
   cases h; subst hk
   exact List.mem_cons_self ..
  ·exact List.mem_cons_of_mem _ (zrj h)
theorem zor {α : Type} {j : Int} {v : α} : ∀ {kv : List (Int × α)}, (kv.map Prod.fst).Nodup → (j, v) ∈ kv → kGet j kv = some v
 | (k, u) :: r, hn, h => by
  unfold kGet
  rw [List.map_cons, List.nodup_cons] at hn
  rcases List.mem_cons.1 h with h | h
  ·cases h; rw [if_pos rfl]
  ·rw [if_neg]
   ·exact zor hn.2 h
   ·rintro rfl
    exact hn.1 (List.mem_map.2 ⟨_, h, rfl⟩)
theorem zno {α : Type} {j i : Int} : ∀ {kv : List (Int × α)}, (kv.map Prod.fst).Nodup → kGet i (kDel j kv) = if i = j then none else kGet i kv
 | [], _ => by simp [kDel, kGet]
 | (k, u) :: r, hn => by
  rw [List.map_cons, List.nodup_cons] at hn
  unfold kDel
  by_cases hk : k = j
  ·subst hk
   rw [if_pos rfl]
   by_cases hi : i = k
   ·subst hi; rw [if_pos rfl]; exact zfH.2 hn.1
   ·rw [if_neg hi, kGet, if_neg (Ne.symm hi)]
  ·rw [if_neg hk]
   unfold kGet
   by_cases hki : k = i
   ·subst hki; rw [if_pos rfl, if_neg hk, if_pos rfl]
   ·rw [if_neg hki, if_neg hki]; exact zno hn.2
theorem zrk {α : Type} {j : Int} : ∀ {kv : List (Int × α)}, (kDel j kv).Sublist kv
 | [] => List.Sublist.refl _
 | (k, u) :: r => by
  unfold kDel
  split
  ·exact List.sublist_cons_self ..
  ·exact zrk.cons_cons _
def lookR (ok : Bool) (z : Value) : Option Value → Value
 | some v => bif ok then .tuple #[v, .bool true] else v
 | none => bif ok then .tuple #[z, .bool false] else z
theorem zrd {h : Heap} {b : Nat} {kv : List (Int × Value)} (H : MapI h b kv) (z : Value) (ok : Bool) (j : Int) : lookV (.int .i64) z ok h (.map (some b)) (.int .i64 j) = some (lookR ok z (kGet j kv)) := by
 obtain ⟨es, c, hb, _, he⟩ := H
 have hm : mapAt h (.map (some b)) = some (es, c) := by unfold mapAt; simp [hb]
 unfold lookV
 simp only [hm, zoz j es.toList kv 0 he]
 rw [← zos j kv 0]
 cases kFind j kv 0 with
 | none => rfl
 | some p => rfl
theorem len_map {h : Heap} {b : Nat} {kv : List (Int × Value)} (H : MapI h b kv) : lenmV h (.map (some b)) = some (.int .i64 (kv.length : Nat)) := by
 obtain ⟨es, c, hb, _, he⟩ := H
 unfold lenmV
 simp only [hb]
 rw [← he.length, Array.length_toList]
theorem zri {α : Type} {j : Int} {v : α} : ∀ {kv : List (Int × α)}, kGet j kv = none → kPut j v kv = kv ++ [(j, v)]
 | [], _ => rfl
 | (k, u) :: r, h => by
  unfold kGet at h
  split at h
  ·cases h
  ·rename_i hk
   simp [kPut, hk, zri h]
theorem kDel_none {α : Type} {j : Int} : ∀ {kv : List (Int × α)}, kGet j kv = none → kDel j kv = kv
 | [], _ => rfl
 | (k, u) :: r, h => by
  unfold kGet at h
  split at h
  ·cases h
  ·rename_i hk
   simp [kDel, hk, kDel_none h]
theorem put_map {h : Heap} {b : Nat} {kv : List (Int × Value)} {j : Int} {v : Value} {K : Value → Heap → Prop} (H : MapI h b kv) (HK : ∀ h', MapI h' b (kPut j v kv) → Upd b h h' → K undef h') :
  zhc (.int .i64) (.map (some b)) (.int .i64 j) v h K := by
 obtain ⟨es, c, hb, hs, he⟩ := H
 unfold zhc
 simp only [hb, zoz j es.toList kv 0 he]
 cases hf : kFind j kv 0 with
 | none =>
  have hg := zpO hf
  simp only
  refine HK _ ⟨_, _, zfx hb, stamped_push hs fun x hx hxk => ?_, ?_⟩ Upd.set
  ·have h1 : j ∈ kv.map Prod.fst := by
    have : (x.key, x.val) ∈ kv.map fun p => (Value.int .i64 p.1, p.2) := by rw [← he]; exact List.mem_map.2 ⟨x, hx, rfl⟩
    obtain ⟨p, hp, hpe⟩ := List.mem_map.1 this
    rw [hxk] at hpe
    have h2 := congrArg Prod.fst hpe
    simp at h2
    exact List.mem_map.2 ⟨p, hp, h2⟩
   exact zfH.1 hg h1
  ·unfold esKv at he ⊢
   rw [zri hg, Array.toList_push, List.map_append, he, List.map_append]
   rfl
 | some p =>
  obtain ⟨i, u⟩ := p
  obtain ⟨_, h2, h3, _⟩ := zl4 hf
  rw [Nat.sub_zero] at h2 h3
  have hi : i < kv.length := (List.getElem?_eq_some_iff.1 h2).1
  have hi' : i < es.size := by rw [← Array.length_toList, he.length]; exact hi
  have hkey : es[i].key = .int .i64 j := by
   have h4 := congrArg (fun l => (l[i]?).map Prod.fst) he
   simp only [List.getElem?_map, h2, Option.map_some, Array.getElem?_toList, Array.getElem?_eq_getElem hi'] at h4
   exact Option.some.inj h4
  simp only
  refine ⟨?_, HK _ ⟨_, _, zfx hb, stamped_modify hs i _ (fun e _ => rfl) (fun e _ hx => ?_), ?_⟩ Upd.set⟩
  ·rw [Array.getElem?_eq_getElem hi']
   simp only [Option.map_some, Option.getD_some, hkey]
   simp [Instr.sameBits]
  ·rw [Array.getElem?_eq_getElem hi'] at hx
   cases hx
   exact hkey.symm
  ·rw [h3]
   unfold esKv at he ⊢
   apply List.ext_getElem?
   intro m
   have hem := congrArg (fun l => l[m]?) he
   simp only [List.getElem?_map, Array.getElem?_toList] at hem ⊢
   rw [Array.getElem?_modify, List.getElem?_set]
   by_cases hm : i = m
   ·subst hm
    rw [if_pos rfl, if_pos rfl, if_pos hi, Array.getElem?_eq_getElem hi']
    rfl
   ·rw [if_neg hm, if_neg hm]
    exact hem
theorem zoh {α β : Type} (f : α → β) : ∀ (l : List α) (i : Nat), (l.eraseIdx i).map f = (l.map f).eraseIdx i
 | [], _ => rfl
 | a :: l, 0 => rfl
 | a :: l, i + 1 => by simp [zoh f l i]
theorem esKv.key {es : List MapEntry} {kv : List (Int × Value)} (H : esKv es kv) {e : MapEntry} (he : e ∈ es) : ∃ j, e.key = .int .i64 j ∧ (j, e.val) ∈ kv := by
 have : (e.key, e.val) ∈ kv.map fun p => (Value.int .i64 p.1, p.2) := by rw [← H]; exact List.mem_map.2 ⟨e, he, rfl⟩
 obtain ⟨p, hp, hpe⟩ := List.mem_map.1 this
 have h1 := congrArg Prod.fst hpe
 have h2 := congrArg Prod.snd hpe
 simp only at h1 h2
 exact ⟨p.1, h1.symm, by rw [← h2]; exact hp⟩
theorem del_map' {h : Heap} {b : Nat} {kv : List (Int × Value)} {j : Int} {K : Value → Heap → Prop} (H : MapI h b kv)
  (HK : ∀ h', MapI h' b (kDel j kv) → Upd b h h' → (∀ es c, h[b]? = some (.map es c) → ∃ es', h'[b]? = some (.map es' c) ∧ ∀ e ∈ es', e ∈ es ∧ e.key ≠ .int .i64 j) → K (.tuple #[]) h') :
  zfF (.int .i64) (.map (some b)) (.int .i64 j) h K := by
 have H0 := H
 have hnd := H.nodup
 obtain ⟨es, c, hb, hs, he⟩ := H
 have sub : ∃ h', MapI h' b (kDel j kv) ∧ Upd b h h' ∧ (∃ es', h'[b]? = some (.map es' c) ∧ (∀ e ∈ es', e ∈ es) ∧ esKv es'.toList (kDel j kv)) ∧ ∀ K : Value → Heap → Prop, K (.tuple #[]) h' → zfF (.int .i64) (.map (some b)) (.int .i64 j) h K := by
  cases hf : kFind j kv 0 with
  | none =>
   have hk : esKv es.toList (kDel j kv) := by rw [kDel_none (zpO hf)]; exact he
   refine ⟨_, ⟨es, c, zfx hb, hs, hk⟩, Upd.set, ⟨es, zfx hb, fun e h => h, hk⟩, fun K hK => ?_⟩
   unfold zfF
   simp only [hb, zoz j es.toList kv 0 he, hf]
   exact hK
  | some p =>
   obtain ⟨i, u⟩ := p
   obtain ⟨_, h2, _, h4⟩ := zl4 hf
   rw [Nat.sub_zero] at h2 h4
   have hi : i < kv.length := (List.getElem?_eq_some_iff.1 h2).1
   have hi' : i < es.size := by rw [← Array.length_toList, he.length]; exact hi
   have hk : esKv (es.eraseIdxIfInBounds i).toList (kDel j kv) := by
    rw [h4]
    unfold esKv at he ⊢
    rw [Array.eraseIdxIfInBounds, dif_pos hi']
    have : (es.eraseIdx i hi').toList = es.toList.eraseIdx i := by simp
    rw [this, zoh, he, ← zoh]
   refine ⟨_, ⟨_, _, zfx hb, stamped_erase hs i, hk⟩, Upd.set, ⟨_, zfx hb, fun e h => ?_, hk⟩, fun K hK => ?_⟩
   ·rw [Array.eraseIdxIfInBounds, dif_pos hi', ← Array.mem_toList_iff, Array.toList_eraseIdx] at h
    rw [← Array.mem_toList_iff]
    exact (List.eraseIdx_sublist ..).subset h
   ·unfold zfF
    simp only [hb, zoz j es.toList kv 0 he, hf]
    exact hK
 obtain ⟨h', m', u', ⟨es', hb', hsub, hkv⟩, hK⟩ := sub
 refine hK K (HK h' m' u' fun es0 c0 h0 => ?_)
 rw [hb] at h0
 cases h0
 refine ⟨es', hb', fun e h => ⟨hsub e h, fun hkey => ?_⟩⟩
 obtain ⟨i, hi, hm⟩ := hkv.key (Array.mem_toList_iff.2 h)
 rw [hkey] at hi
 cases hi
 have h1 := zor m'.nodup hm
 rw [zno hnd, if_pos rfl] at h1
 cases h1
theorem new_map {h : Heap} {K : Value → Heap → Prop} (HK : ∀ b h', MapI h' b [] → Ext h h' → h.size ≤ b → K (.map (some b)) h') : newmK h K :=
 HK h.size _ ⟨#[], 0, ziY, stamped_empty 0, rfl⟩ (Ext.push h _) (Nat.le_refl _)
end
end Go.Crisp
namespace Go.Proofs.YtdbebmafgpdfhaaGreatDoor
open Go Go.Crisp
open _root_.Go.Proofs.Tryz
def zlQ : Go.Shelf.Ren := ⟨fun n => match n with | 8 => 162 | 11 => 188 | n => n, fun n => match n with | 0 => 0 | 24 => 50 | 26 => 2 | 28 => 252 | 33 => 230 | n => n, fun n => n⟩
theorem zrh : Go.Proofs.SlLaysZI.n8 prog zlQ where
 mixed := by kernel_rfl
 f8 := ⟨"slices.Collect[int64]", by kernel_rfl, by kernel_rfl⟩
 f11 := ⟨"slices.AppendSeq[[]int64,int64]", by kernel_rfl, by kernel_rfl⟩
 t0 := by kernel_rfl
 a0 := fun w => zaE (by kernel_rfl)
 z0 := fun w => zap (by kernel_rfl)
 v0 := fun w => zam (by kernel_rfl)
 t24 := by kernel_rfl
 a24 := fun w => zaE (by kernel_rfl)
 z24 := fun w => zap (by kernel_rfl)
 v24 := fun w => zam (by kernel_rfl)
 t26 := by kernel_rfl
 a26 := fun w => zaE (by kernel_rfl)
 z26 := fun w => zap (by kernel_rfl)
 v26 := fun w => zam (by kernel_rfl)
 t28 := by kernel_rfl
 a28 := fun w => zaE (by kernel_rfl)
 z28 := fun w => zap (by kernel_rfl)
 v28 := fun w => zam (by kernel_rfl)
 i26 := by kernel_rfl
def zjQ : Go.Shelf.Ren := ⟨fun n => match n with | 10 => 189 | n => n, fun n => match n with | 0 => 0 | 3 => 50 | 4 => 4 | 23 => 180 | 26 => 2 | 33 => 230 | n => n, fun n => n⟩
theorem zpN : Go.Proofs.SlLaysZI.n10 prog zjQ where
 mixed := by kernel_rfl
 f10 := ⟨"maps.Keys[map[int64][]int64,int64,[]int64]$1", by kernel_rfl, by kernel_rfl⟩
 t0 := by kernel_rfl
 a0 := fun w => zaE (by kernel_rfl)
 z0 := fun w => zap (by kernel_rfl)
 v0 := fun w => zam (by kernel_rfl)
 t4 := by kernel_rfl
 a4 := fun w => zaE (by kernel_rfl)
 z4 := fun w => zap (by kernel_rfl)
 v4 := fun w => zam (by kernel_rfl)
 t23 := by kernel_rfl
 a23 := fun w => zaE (by kernel_rfl)
 z23 := fun w => zap (by kernel_rfl)
 v23 := fun w => zam (by kernel_rfl)
 t26 := by kernel_rfl
 a26 := fun w => zaE (by kernel_rfl)
 z26 := fun w => zap (by kernel_rfl)
 v26 := fun w => zam (by kernel_rfl)
 t33 := by kernel_rfl
 a33 := fun w => zaE (by kernel_rfl)
 z33 := fun w => zap (by kernel_rfl)
 v33 := fun w => zam (by kernel_rfl)
end Go.Proofs.YtdbebmafgpdfhaaGreatDoor
namespace Go.Proofs.YtdbebmafgpdfhaaGreatDoor
open Go Go.Crisp
def vi (x : Int) : Value := .int .i64 x
def Ints (h : Heap) (v : Value) (l : List Int) : Prop :=
 ∃ a cap, v = .slice a l.length cap ∧ (l = [] ∨ ∃ b o, a = some ⟨b, o, none⟩ ∧ ∀ i (hi : i < l.length), zah h ⟨b, o + i, none⟩ = some (vi l[i]))
theorem Ints.ext {h h' : Heap} {v : Value} {l : List Int} (H : Ints h v l) (e : Ext h h') : Ints h' v l := by
 obtain ⟨a, cap, rfl, hl⟩ := H
 refine ⟨a, cap, rfl, hl.imp id ?_⟩
 rintro ⟨b, o, rfl, hc⟩
 exact ⟨b, o, rfl, fun i hi => e.cell (hc i hi)⟩
end Go.Proofs.YtdbebmafgpdfhaaGreatDoor
namespace Go.Proofs.YtdbebmafgpdfhaaGreatDoor
open Go Go.Crisp
attribute [local irreducible] FCall rowK newK stK iteK vK qK drawK gK joinK loopK mkK appK cpyK
def OwnI (h : Heap) (v : Value) (l : List Int) : Prop := Own 1 h v l.length (l.map vi)
theorem Ints.sl {h : Heap} {v : Value} {l : List Int} (H : Ints h v l) : SlC 1 h v l.length (l.map vi) := by
 obtain ⟨a, cap, rfl, H⟩ := H
 refine ⟨by simp, a, cap, rfl, ?_⟩
 rcases H with rfl | ⟨b, o, rfl, H⟩
 ·exact .inl rfl
 ·exact .inr ⟨b, o, rfl, fun j hj => by rw [List.getElem_map]; exact H j (by simpa using hj)⟩
theorem ints_sl {h : Heap} {v : Value} {l : List Int} (H : SlC 1 h v l.length (l.map vi)) : Ints h v l := by
 obtain ⟨_, a, cap, rfl, H⟩ := H
 refine ⟨a, cap, rfl, ?_⟩
 rcases H with H | ⟨b, o, rfl, H⟩
 ·exact .inl (by simpa using H)
 ·refine .inr ⟨b, o, rfl, fun j hj => ?_⟩
  have := H j (by simpa using hj)
  rw [List.getElem_map] at this
  exact this
theorem OwnI.ints {h : Heap} {v : Value} {l : List Int} (H : OwnI h v l) : Ints h v l := ints_sl (Own.sl H)
theorem vi_one {l : List Int} : ∀ v ∈ l.map vi, zar v = true := by
 intro v hv
 obtain ⟨x, _, rfl⟩ := List.mem_map.1 hv
 rfl
end Go.Proofs.YtdbebmafgpdfhaaGreatDoor
namespace Go.Proofs.YtdbebmafgpdfhaaGreatDoor
open Go Go.Crisp Go.MapKept Go.RowKit
attribute [local irreducible] rowK newK stK iteK vK qK drawK gK joinK loopK mkK appK cpyK
open _root_.Go.Proofs.Tryz
theorem own_of_row {w : World} {base : Nat} {e : TypeId} {v : Value} {xs : List Int} (H : w.ownsRow base e 1 v xs.length (xs.map encZ)) : OwnI w.heap v xs ∧ ∀ b, blk v b → base ≤ b := by
 obtain ⟨_, H⟩ := H
 rcases H with ⟨rfl, hn⟩ | ⟨g, cap, cur, rfl, hb, hg, hc, _, hs, ht⟩
 ·have : xs = [] := List.eq_nil_of_length_eq_zero hn
  subst this
  exact ⟨.inl ⟨rfl, rfl, rfl⟩, fun b hb => hb.elim⟩
 ·refine ⟨.inr ⟨g, cap, cur.toList.drop xs.length, e, rfl, hc, by simp, ?_, ?_⟩, fun b h => by rw [show b = g from h]; exact hb⟩
  ·rw [Nat.mul_one] at ht
   rw [show xs.map vi = xs.map encZ from rfl, ← ht, List.take_append_drop, Array.length_toList]; exact hs
  ·rw [Nat.mul_one] at ht
   rw [show xs.map vi = xs.map encZ from rfl, ← ht, List.take_append_drop, Array.toArray_toList]; exact hg
theorem below_ext {w w' : World} (H : Below w.heap.size w w') : Same w w' ∧ Ext w.heap w'.heap := ⟨⟨H.os, H.tape, H.output⟩, H.size, fun b hb => H.block b hb⟩
def noR : Value → Option (DataW Unit × List MemPlace) := fun _ => some (.nil, [])
theorem zov (x : Lit × DataW Unit) : ∀ l : List (Lit × DataW Unit), (DataW.insert x l).Perm (x :: l)
 | [] => List.Perm.refl _
 | y :: r => by
  unfold DataW.insert
  split
  ·exact List.Perm.refl _
  ·exact ((zov x r).cons y).trans (List.Perm.swap x y r)
theorem zl9 : ∀ l : List (Lit × DataW Unit), (l.foldr DataW.insert []).Perm l
 | [] => List.Perm.refl _
 | x :: l => by
  rw [List.foldr_cons]
  exact (zov x _).trans ((zl9 l).cons x)
theorem owns_map {P : Program} {k : TypeId} {w : World} {b : Nat} {kv : List (Int × Value)} (hk : P.underlying k = some (.int .i64)) (H : MapI w.heap b kv) (hw : ∀ p ∈ kv, (Lit.int .i64 p.1).wf = true) (hl : kv.length ≤ maxLen) :
  ∃ D : DataW Unit, w.ownsMap P k noR b kv.length D ∧ (intKeys D).Perm (kv.map Prod.fst) ∧ Go.Maps.size D = kv.length := by
 obtain ⟨es, c, hb, hs, he⟩ := H
 have hlen := he.length
 have hmem : ∀ x ∈ es.toList, ∃ j, x.key = .int .i64 j ∧ (Lit.int .i64 j).wf = true := fun x hx => by
  have : (x.key, x.val) ∈ kv.map fun p => (Value.int .i64 p.1, p.2) := by rw [← he]; exact List.mem_map.2 ⟨x, hx, rfl⟩
  obtain ⟨p, hp, hpe⟩ := List.mem_map.1 this
  exact ⟨p.1, (congrArg Prod.fst hpe).symm, hw p hp⟩
 have hrd : ∀ x ∈ es.toList, ∀ j, x.key = .int .i64 j → (Lit.int .i64 j).wf = true → WideElems.rd P k noR x = some (.int .i64 j, .nil) := fun x hx j hj hwf => by
  unfold WideElems.rd
  rw [hj]
  simp [keyOf, hk, mapKey, hwf, noR]
 refine ⟨.map ((es.toList.map (WideElems.rg P k noR)).foldr DataW.insert []), ⟨es, c, hb, ⟨by rw [← Array.length_toList, hlen]; exact hl, hs, fun x hx => ?_⟩, by rw [← Array.length_toList, hlen]; exact Nat.le_refl _, rfl⟩, ?_, ?_⟩
 ·obtain ⟨j, hj, hwf⟩ := hmem x hx
  exact ⟨_, hrd x hx j hj hwf⟩
 ·have h1 : (es.toList.map (WideElems.rg P k noR)).map (fun p => _root_.Go.intOf p.1) = kv.map Prod.fst := by
   have h2 : kv.map Prod.fst = (kv.map fun p => (Value.int .i64 p.1, p.2)).map fun q => match q.1 with | .int _ n => n | _ => 0 := by simp [List.map_map, Function.comp_def]
   rw [h2, ← he, List.map_map, List.map_map]
   refine List.map_congr_left fun x hx => ?_
   obtain ⟨j, hj, hwf⟩ := hmem x hx
   simp only [Function.comp_def]
   rw [WideElems.rg_of (hrd x hx j hj hwf), hj]
   rfl
  rw [← h1]
  exact (zl9 _).map _
 ·show (List.foldr DataW.insert [] _).length = _
  rw [(zl9 _).length_eq, List.length_map, hlen]
theorem calls_wide {P : Program} {f : FuncId} {args : Array Value} {w : World} {n : Nat} {R R' : Ending → World → Prop} (H : CallsIn Fence.wide n P f args w R) (hr : ∀ e w', R e w' → R' e w') : Calls P f args w R' := (callsIn_wide.1 H).mono hr
theorem c_Collect64 {h : Heap} {b1 b : Nat} {t : TypeId} {kv : List (Int × Value)} (r1 : h[b1]? = some (.cells #[.map (some b)] t (0, 0))) (hm : MapI h b kv) (hw : ∀ p ∈ kv, (Lit.int .i64 p.1).wf = true) (hl : kv.length ≤ 1000000) :
  FCall prog zd3 #[.func (.func zaU) #[] #[.pointer (some ⟨b1, 0, none⟩)]] h fun r h' => ∃ ss : List Int, ss.Perm (kv.map Prod.fst) ∧ OwnI h' r ss ∧ Ext h h' ∧ ∀ k, blk r k → h.size ≤ k := by
 refine FCall.ofCalls (by kernel_rfl) fun w hh => ?_
 subst hh
 obtain ⟨D, hD, hp, hs⟩ := owns_map (P := prog) (k := (zjQ).t 26) zpN.t26 hm hw (by unfold maxLen; omega)
 have seq := AnyZI.keys_gives zpN Fence.wide 3 trivial rfl (by omega) b1 b kv.length D w (zay r1) (show zah w.heap ⟨b1, 0, none⟩ = _ from by rw [zac r1]; rfl) hD
 have := AnyZI.collect_in zrh Fence.wide 5 trivial trivial rfl (by omega) _ #[.pointer (some ⟨b1, 0, none⟩)] trivial (fun args w => zir (by kernel_rfl)) _ _ (by rw [hs]; unfold maxLen; omega) (by rw [hs]; omega) w seq
 refine calls_wide this ?_
 rintro e w' ⟨v, ss, rfl, hS, hrow, _, hB⟩
 obtain ⟨o, n⟩ := own_of_row hrow
 obtain ⟨s, e⟩ := below_ext hB
 exact ⟨v, rfl, s, ss, hS.trans hp, o, e, n⟩
end Go.Proofs.YtdbebmafgpdfhaaGreatDoor
namespace Go.Proofs.YtdbebmafgpdfhaaGreatDoor
open Go Go.Crisp
attribute [local irreducible] FCall rowK newK stK iteK vK qK drawK gK joinK loopK mkK appK cpyK
theorem own_nil {h : Heap} : OwnI h (.slice none 0 0) [] := .inl ⟨rfl, rfl, rfl⟩
theorem eql_nil_some (a : Addr) (n c n' c' : Nat) : binV .sl .eql (.slice (some a) n c) (.slice none n' c') = some (.bool false) := Eq.trans rfl rfl
theorem eql_nil_none (n c n' c' : Nat) : binV .sl .eql (.slice none n c) (.slice none n' c') = some (.bool true) := Eq.trans rfl rfl
theorem clone_own {e : TypeId} {h : Heap} {v : Value} {l : List Int} {K : Value → Heap → Prop} (hv : Ints h v l) (hl : l.length ≤ 4398046511104)
  (H : ∀ r h', OwnI h' r l → Ext h h' → (∀ b, blk r b → h.size ≤ b) → K r h') : rowK #[] e 0 [] h fun v2 h3 => appK (.int .i64 0) e 1 8 v2 v h3 K := by
 refine zb5 (c' := #[]) (by kernel_rfl) fun b h1 r1 e1 n1 => ?_
 refine zlF (n := 0) (cs := []) (.inr ⟨b, 0, [], e, rfl, Nat.le_refl _, rfl, rfl, r1⟩) (hv.ext e1).sl vi_one rfl (by omega) (by omega) fun s' h2 o2 f2 n2 => ?_
 rw [Nat.zero_add, List.nil_append] at o2
 refine H s' h2 o2 (e1.then_fr f2 fun i hi => by rw [show i = b from hi]; exact n1) fun k hk => ?_
 rcases n2 k hk with h3 | h3
 ·rw [show k = b from h3]; exact n1
 ·exact Nat.le_trans e1.1 h3
theorem own_one {h : Heap} {v : Value} {l : List Int} (o : OwnI h v l) : zar v = true := by
 rcases o with ⟨rfl, _⟩ | ⟨b, cap, r, e, rfl, _⟩ <;> rfl
end Go.Proofs.YtdbebmafgpdfhaaGreatDoor
namespace Go.Proofs.YtdbebmafgpdfhaaGreatDoor
open Go Go.Crisp
attribute [local irreducible] FCall rowK newK stK iteK vK qK drawK gK joinK loopK mkK appK cpyK zhc zfF newmK
open _root_.Go.Proofs.Tryz
section
structure Bag (M : Nat → Prop) (h : Heap) (bx bm : Nat) (fr : Value) (w : Nat) (all : List (Value × List Int)) : Prop where
 own : ∀ p ∈ all, OwnI h p.1 p.2 ∧ p.2.length = w ∧ ∀ k, blk p.1 k → k ≠ bx ∧ k ≠ bm ∧ ¬ blk fr k ∧ M k
 apart : all.Pairwise fun a b => ∀ k, blk a.1 k → ¬ blk b.1 k
theorem Bag.perm {M : Nat → Prop} {h : Heap} {bx bm : Nat} {fr : Value} {w : Nat} {all all' : List (Value × List Int)} (B : Bag M h bx bm fr w all) (p : all'.Perm all) : Bag M h bx bm fr w all' where
 own := fun q hq => B.own q (p.mem_iff.1 hq)
 apart := (p.pairwise_iff (fun {x y} hxy k hk hk' => hxy k hk' hk)).2 B.apart
theorem Bag.fr {M Q : Nat → Prop} {h h' : Heap} {bx bm : Nat} {fr : Value} {w : Nat} {all : List (Value × List Int)} (B : Bag M h bx bm fr w all) (f : Fr Q h h') (q : ∀ p ∈ all, ∀ k, blk p.1 k → ¬ Q k) : Bag M h' bx bm fr w all where
 own := fun p hp => ⟨(B.own p hp).1.fr f (q p hp), (B.own p hp).2⟩
 apart := B.apart
theorem Bag.ext {M : Nat → Prop} {h h' : Heap} {bx bm : Nat} {fr : Value} {w : Nat} {all : List (Value × List Int)} (B : Bag M h bx bm fr w all) (e : Ext h h') : Bag M h' bx bm fr w all := B.fr (Q := fun _ => False) e.fr fun _ _ _ _ => id
theorem Bag.mono {M M' : Nat → Prop} {h : Heap} {bx bm : Nat} {fr fr' : Value} {w : Nat} {all : List (Value × List Int)} (B : Bag M h bx bm fr w all) (hM : ∀ k, M k → M' k) (hf : ∀ p ∈ all, ∀ k, blk p.1 k → ¬ blk fr' k) : Bag M' h bx bm fr' w all where
 own := fun p hp => ⟨(B.own p hp).1, (B.own p hp).2.1, fun k hk => ⟨((B.own p hp).2.2 k hk).1, ((B.own p hp).2.2 k hk).2.1, hf p hp k hk, hM k ((B.own p hp).2.2 k hk).2.2.2⟩⟩
 apart := B.apart
structure zlG (M : Nat → Prop) (h : Heap) (bx bm : Nat) (fr : Value) (t : TypeId) (room w : Nat) (es : List (Int × (Value × List Int))) (fv xs : List (Value × List Int)) : Prop where
 var : h[bx]? = some (.cells #[.int .i64 room, .int .i64 w, .map (some bm), fr] t (0, 0))
 map : MapI h bm (kMap Prod.fst es)
 free : Own 1 h fr fv.length (fv.map Prod.fst)
 bag : Bag M h bx bm fr w (es.map Prod.snd ++ fv ++ xs)
 ap : bx ≠ bm ∧ ¬ blk fr bx ∧ ¬ blk fr bm
 inM : M bx ∧ M bm ∧ ∀ k, blk fr k → M k
 lt : ∀ k, M k → k < h.size
 nums : 1 ≤ room ∧ room ≤ 65536 ∧ w ≤ 262144
 keys : ∀ e ∈ es, (Lit.int .i64 e.1).wf = true
 len : es.length ≤ room
 tot : es.length + fv.length + xs.length ≤ room + 1
def zcI (M : Nat → Prop) (h : Heap) (v : Value) (room w : Nat) (rs : List (Int × List Int)) : Prop :=
 ∃ bx bm fr t es fv, v = .pointer (some ⟨bx, 0, none⟩) ∧ zlG M h bx bm fr t room w es fv [] ∧ rs = kMap Prod.snd es ∧ es.length + fv.length ≤ room
theorem zlG.fr {M Q : Nat → Prop} {h h' : Heap} {bx bm : Nat} {fr : Value} {t : TypeId} {room w : Nat} {es : List (Int × (Value × List Int))} {fv xs : List (Value × List Int)} (R : zlG M h bx bm fr t room w es fv xs) (f : Fr Q h h') (q : ∀ b, b < h.size → M b → ¬ Q b) : zlG M h' bx bm fr t room w es fv xs :=
 { R with
  var := f.row R.var (q bx (R.lt _ R.inM.1) R.inM.1)
  map := R.map.fr f (q bm (R.lt _ R.inM.2.1) R.inM.2.1)
  free := R.free.fr f fun k hk => q k (R.lt _ (R.inM.2.2 k hk)) (R.inM.2.2 k hk)
  bag := R.bag.fr f fun p hp k hk => q k (R.lt _ ((R.bag.own p hp).2.2 k hk).2.2.2) ((R.bag.own p hp).2.2 k hk).2.2.2
  lt := fun k hk => Nat.lt_of_lt_of_le (R.lt k hk) f.1 }
theorem zcI.fr {M Q : Nat → Prop} {h h' : Heap} {v : Value} {room w : Nat} {rs : List (Int × List Int)} (H : zcI M h v room w rs) (f : Fr Q h h') (q : ∀ b, b < h.size → M b → ¬ Q b) : zcI M h' v room w rs := by
 obtain ⟨bx, bm, fr, t, es, fv, rfl, R, h1, h2⟩ := H
 exact ⟨bx, bm, fr, t, es, fv, rfl, R.fr f q, h1, h2⟩
theorem zcI.ext {M : Nat → Prop} {h h' : Heap} {v : Value} {room w : Nat} {rs : List (Int × List Int)} (H : zcI M h v room w rs) (e : Ext h h') : zcI M h' v room w rs := H.fr (Q := fun _ => False) e.fr fun _ _ _ => id
theorem zcI.lt {M : Nat → Prop} {h : Heap} {v : Value} {room w : Nat} {rs : List (Int × List Int)} (H : zcI M h v room w rs) {b : Nat} (hb : M b) : b < h.size := by
 obtain ⟨bx, bm, fr, t, es, fv, rfl, R, h1, h2⟩ := H
 exact R.lt b hb
theorem zcI.nodup {M : Nat → Prop} {h : Heap} {v : Value} {room w : Nat} {rs : List (Int × List Int)} (H : zcI M h v room w rs) : (rs.map Prod.fst).Nodup := by
 obtain ⟨bx, bm, fr, t, es, fv, rfl, R, rfl, h2⟩ := H
 rw [ziB, ← ziB Prod.fst]
 exact R.map.nodup
theorem zcI.nums {M : Nat → Prop} {h : Heap} {v : Value} {room w : Nat} {rs : List (Int × List Int)} (H : zcI M h v room w rs) : 1 ≤ room ∧ room ≤ 65536 ∧ w ≤ 262144 ∧ rs.length ≤ room ∧ (∀ p ∈ rs, p.2.length = w ∧ (Lit.int .i64 p.1).wf = true) := by
 obtain ⟨bx, bm, fr, t, es, fv, rfl, R, rfl, h2⟩ := H
 refine ⟨R.nums.1, R.nums.2.1, R.nums.2.2, by simpa [kMap] using R.len, fun p hp => ?_⟩
 obtain ⟨e, he, rfl⟩ := List.mem_map.1 hp
 exact ⟨(R.bag.own e.2 (by simp; exact .inl ⟨e.1, he⟩)).2.1, R.keys e he⟩
def roomN (a : Int) : Nat := (min (max 1 a) 65536).toNat
def zcy (a : Int) : Nat := (min (max 0 a) 262144).toNat
theorem c_RNew {h : Heap} (a b : Int) : FCall prog zmj #[.int .i64 a, .int .i64 b] h fun r h' => ∃ M, zcI M h' r (roomN a) (zcy b) [] ∧ Ext h h' ∧ ∀ k, M k → h.size ≤ k := by
 apply ok_ring_New
 unfold znE
 have ha : min (max 1 a) 65536 = ((roomN a : Nat) : Int) := by unfold roomN; omega
 have hb : min (max 0 b) 262144 = ((zcy b : Nat) : Int) := by unfold zcy; omega
 have h1 : 1 ≤ roomN a ∧ roomN a ≤ 65536 := by unfold roomN; omega
 have h2 : zcy b ≤ 262144 := by unfold zcy; omega
 simp only [go_sem, ha, hb]
 generalize roomN a = room at h1
 generalize zcy b = w at h2
 refine new_map fun bm h3 m3 e3 n3 => ?_
 rw [vK_map _ #[.int .i64 room, .int .i64 w, .map (some bm), .slice none 0 0] (by kernel_rfl)]
 refine zai (c := #[.int .i64 room, .int .i64 w, .map (some bm), .slice none 0 0]) fun bx h4 r4' e4 n4 => ?_
 obtain ⟨t, r4⟩ : ∃ t, h4[bx]? = some (.cells #[.int .i64 room, .int .i64 w, .map (some bm), .slice none 0 0] t (0, 0)) := ⟨_, r4'⟩
 have lm := m3.lt
 refine ⟨fun k => k = bx ∨ k = bm, ⟨bx, bm, .slice none 0 0, t, [], [], rfl, ?_, rfl, by simp⟩, e3.trans e4, ?_⟩
 ·exact {
   var := r4, map := m3.ext e4, free := .inl ⟨rfl, rfl, rfl⟩, bag := ⟨fun p hp => absurd hp (by simp), List.Pairwise.nil⟩
   ap := ⟨by omega, fun h => h.elim, fun h => h.elim⟩, inM := ⟨.inl rfl, .inr rfl, fun k hk => hk.elim⟩
   lt := fun k hk => by
    rcases hk with rfl | rfl
    ·exact zay r4
    ·exact (m3.ext e4).lt
   nums := ⟨h1.1, h1.2, h2⟩, keys := fun e he => absurd he (by simp), len := by simp, tot := by simp }
 ·rintro k (rfl | rfl)
  ·exact Nat.le_trans e3.1 n4
  ·exact n3
section
variable {M : Nat → Prop} {h : Heap} {v : Value} {room w : Nat} {rs : List (Int × List Int)}
theorem c_RWidth (H : zcI M h v room w rs) : FCall prog zec #[v] h fun r h' => r = .int .i64 (w : Nat) ∧ h' = h := by
 obtain ⟨bx, bm, fr, t, es, fv, rfl, R, rfl, h2⟩ := H
 apply zlj
 unfold zf6
 simp only [go_sem, zac R.var]
 exact ⟨trivial, trivial⟩
theorem c_RWords (H : zcI M h v room w rs) : FCall prog zeb #[v] h fun r h' => r = .int .i64 ((room : Int) * w) ∧ h' = h := by
 obtain ⟨bx, bm, fr, t, es, fv, rfl, R, rfl, h2⟩ := H
 apply zli
 unfold zf5
 have hn := R.nums
 have hm : room * w ≤ 65536 * 262144 := Nat.mul_le_mul hn.2.1 hn.2.2
 have hm' : ((room * w : Nat) : Int) = (room : Int) * w := Int.natCast_mul ..
 simp only [go_sem, zac R.var]
 rw [w64 (by omega) (by omega)]
 exact ⟨rfl, trivial⟩
theorem c_RHas (H : zcI M h v room w rs) (j : Int) : FCall prog zdQ #[v, .int .i64 j] h fun r h' => r = .bool (kGet j rs).isSome ∧ h' = h := by
 obtain ⟨bx, bm, fr, t, es, fv, rfl, R, rfl, h2⟩ := H
 apply zm6
 unfold zhM
 simp only [go_sem, zac R.var, zrd R.map]
 rw [zgj, zgj]
 cases kGet j es with
 | none => simp only [Option.map_none, lookR, cond_true, go_sem]; exact ⟨rfl, trivial⟩
 | some p => simp only [Option.map_some, lookR, cond_true, go_sem]; exact ⟨rfl, trivial⟩
theorem zp9 {h : Heap} {v : Value} {l : List Int} (hv : Ints h v l) (hl : l.length ≤ 4398046511104) :
  FCall prog zaL #[v] h fun r h' => OwnI h' r l ∧ Ext h h' ∧ ∀ b, blk r b → h.size ≤ b := by
 apply zck
 unfold zbk
 have hv0 := hv
 obtain ⟨a, cap, rfl, hv⟩ := hv
 cases a with
 | none =>
  simp only [eql_nil_none, go_sem]
  rcases hv with rfl | ⟨b, o, h1, _⟩
  ·exact ⟨own_nil, Ext.refl h, fun b hb => hb.elim⟩
  ·cases h1
 | some a =>
  simp only [eql_nil_some, go_sem]
  exact clone_own hv0 hl fun r h' o e n => ⟨o, e, n⟩
theorem c_RRow (H : zcI M h v room w rs) (j : Int) : FCall prog zfP #[v, .int .i64 j] h fun r h' => ∃ u, r = .tuple #[u, .bool (kGet j rs).isSome] ∧ OwnI h' u ((kGet j rs).getD []) ∧ Ext h h' ∧ ∀ b, blk u b → h.size ≤ b := by
 have hnum := H.nums
 obtain ⟨bx, bm, fr, t, es, fv, rfl, R, rfl, h2⟩ := H
 apply zm4
 unfold zhK
 simp only [go_sem, zac R.var, zrd R.map]
 rw [zgj, zgj]
 cases hg : kGet j es with
 | none =>
  simp only [Option.map_none, lookR, cond_true, go_sem]
  refine (zp9 (v := .slice none 0 0) (l := []) ⟨none, 0, rfl, .inl rfl⟩ (by simp)).mono ?_
  rintro u h1 ⟨o, e, n⟩
  exact ⟨u, rfl, o, e, n⟩
 | some p =>
  simp only [Option.map_some, lookR, cond_true, go_sem]
  have hp := R.bag.own p (by simp; exact .inl ⟨j, zrj hg⟩)
  refine (zp9 hp.1.ints (by rw [hp.2.1]; omega)).mono ?_
  rintro u h1 ⟨o, e, n⟩
  exact ⟨u, rfl, o, e, n⟩
def minL : List Int → Int
 | [] => 0
 | x :: l => l.foldl min x
theorem minL_perm {a b : List Int} (h : a.Perm b) : minL a = minL b := by
 have key : ∀ (l : List Int) (x : Int), (∀ y ∈ x :: l, l.foldl min x ≤ y) ∧ l.foldl min x ∈ x :: l := by
  intro l
  induction l with
  | nil => intro x; simp
  | cons z l ih =>
   intro x
   rw [List.foldl_cons]
   obtain ⟨h1, h2⟩ := ih (min x z)
   have h3 := h1 (min x z) (List.mem_cons_self ..)
   refine ⟨fun y hy => ?_, ?_⟩
   ·rcases List.mem_cons.1 hy with rfl | hy
    ·omega
    ·rcases List.mem_cons.1 hy with rfl | hy
     ·omega
     ·exact h1 y (List.mem_cons_of_mem _ hy)
   ·rcases List.mem_cons.1 h2 with h2 | h2
    ·rw [h2]
     rcases Int.le_total x z with hxz | hxz
     ·rw [Int.min_eq_left hxz]; simp
     ·rw [Int.min_eq_right hxz]; simp
    ·exact List.mem_cons_of_mem _ (List.mem_cons_of_mem _ h2)
 cases a with
 | nil => have := h.nil_eq; subst this; rfl
 | cons x l =>
  cases b with
  | nil => have := h.symm.nil_eq; cases this
  | cons y m =>
   obtain ⟨a1, a2⟩ := key l x
   obtain ⟨b1, b2⟩ := key m y
   exact Int.le_antisymm (a1 _ (h.mem_iff.2 b2)) (b1 _ (h.mem_iff.1 a2))
theorem minL_push {l : List Int} (h : l ≠ []) (x : Int) : minL (l ++ [x]) = min (minL l) x := by
 cases l with
 | nil => exact absurd rfl h
 | cons y l => simp [minL]
theorem c_Min64 {h : Heap} {v : Value} {l : List Int} (hv : Ints h v l) (h0 : l ≠ []) (hl : l.length ≤ 4398046511104) :
  FCall prog zbK #[v] h fun r h' => r = .int .i64 (minL l) ∧ h' = h := by
 apply zeZ
 unfold zcw
 have hp : 0 < l.length := List.length_pos_iff.2 h0
 have hs := hv.sl
 obtain ⟨a, cap, rfl, _⟩ := hv
 refine zau (fun xs h' => xs = [] ∧ h' = h) ?_ ?_
 ·simp only [go_sem]
  refine zab (fun h1 => by omega) (fun _ => ⟨trivial, trivial⟩)
 ·rintro _ ρj h' ⟨rfl, hh⟩
  subst hh
  obtain ⟨p, hp0, hq0⟩ := hs.at1 (k := .i64) (i := 0) hp
  rw [List.getElem_map] at hq0
  rw [show ((0 : Nat) : Int) = 0 from rfl] at hp0
  simp only [go_sem, hp0, hq0]
  refine zbl (fun d xs h'' => h'' = h' ∧ ∃ (k : Nat), 1 ≤ k ∧ k ≤ l.length ∧ d = l.length - k ∧ xs = [.int .i64 (minL (l.take k)), .int .i64 (k : Int)]) (l.length - 1)
   ⟨rfl, 1, by omega, by omega, rfl, ?_⟩ ?_
  ·cases l with
   | nil => exact absurd rfl h0
   | cons x l => rfl
  ·rintro d _ ρj _ again ⟨rfl, k, h1, hk, rfl, rfl⟩ hag
   simp only [go_sem]
   refine zab (fun hlt => ?_) (fun hge => ?_)
   ·have hk' : k < l.length := by omega
    obtain ⟨p, hp1, hq1⟩ := hs.at1 (k := .i64) hk'
    rw [List.getElem_map] at hq1
    simp only [go_sem, hp1, hq1, vi]
    rw [w64 (by omega) (by omega)]
    refine hag _ _ (l.length - (k + 1)) (by omega) ⟨rfl, k + 1, by omega, by omega, rfl, ?_⟩
    have hne : l.take k ≠ [] := fun h => by
     have h9 := congrArg List.length h
     rw [List.length_take, List.length_nil] at h9
     omega
    rw [List.take_succ_eq_append_getElem hk', minL_push hne]
    rfl
   ·rw [List.take_of_length_le (by omega)]
    exact ⟨rfl, trivial⟩
theorem c_RFirst (H : zcI M h v room w rs) : FCall prog zed #[v] h fun r h' => r = .tuple #[.int .i64 (minL (rs.map Prod.fst)), .bool (!decide (rs = []))] ∧ Ext h h' := by
 have hnum := H.nums
 obtain ⟨bx, bm, fr, t, es, fv, rfl, R, rfl, h2⟩ := H
 apply zlk
 unfold zf7
 by_cases h0 : es = []
 ·subst h0
  simp only [go_sem, zac R.var, len_map R.map, kMap, List.map_nil, List.length_nil, Int.natCast_zero]
  exact ⟨rfl, Ext.refl h⟩
 ·have hl : ¬ (((kMap Prod.fst es).length : Nat) : Int) = 0 := by
   simp only [kMap, List.length_map]
   have := List.length_pos_iff.2 h0
   omega
  simp only [go_sem, zac R.var, len_map R.map, hl]
  apply zb4
  unfold zaY
  refine zai fun b1 h1 r1 e1 n1 => ?_
  have hlen : (kMap Prod.fst es).length ≤ 1000000 := by
   have := R.len; have := R.nums
   simp only [kMap, List.length_map]; omega
  refine (c_Collect64 r1 (R.map.ext e1) (fun p hp => ?_) hlen).mono ?_
  ·obtain ⟨e, he, rfl⟩ := List.mem_map.1 hp
   exact R.keys e he
  rintro u h3 ⟨ss, hperm, o3, e3, n3⟩
  have hsl : ss.length = es.length := by rw [hperm.length_eq]; simp [kMap]
  refine (c_Min64 o3.ints (by intro h; subst h; simp at hsl; exact h0 (List.eq_nil_of_length_eq_zero hsl.symm)) (by have := R.len; have := R.nums; omega)).mono ?_
  rintro _ h4 ⟨rfl, rfl⟩
  refine ⟨?_, e1.trans e3⟩
  rw [minL_perm hperm, ziB, ziB]
  have : ¬ kMap Prod.snd es = [] := by simpa [kMap] using h0
  simp [this]
end
end
theorem znp {α : Type} {j : Int} {p : α} {es : List (Int × α)} (hg : kGet j es = some p) : (kDel j es).length + 1 = es.length := by
 have := (zot hg).length_eq
 simpa using this.symm
theorem c_drop {M : Nat → Prop} {h : Heap} {bx bm : Nat} {fr : Value} {t : TypeId} {room w : Nat} {es : List (Int × (Value × List Int))} {fv : List (Value × List Int)} (R : zlG M h bx bm fr t room w es fv []) {j : Int} {p : Value × List Int} (hg : kGet j es = some p) :
  FCall prog zeL #[.pointer (some ⟨bx, 0, none⟩), .int .i64 j] h fun _ h' => ∃ M' fr', zlG M' h' bx bm fr' t room w (kDel j es) (fv ++ [p]) [] ∧ Fr M h h' ∧ (∀ k, M' k → M k ∨ h.size ≤ k) ∧
   ∀ es0 c, h[bm]? = some (.map es0 c) → ∃ es1, h'[bm]? = some (.map es1 c) ∧ ∀ e ∈ es1, e ∈ es0 ∧ e.key ≠ .int .i64 j := by
 apply zlV
 unfold zgM
 refine zan (fun hh => hh[bx]? = some (.cells #[.int .i64 room, .int .i64 w, .map (some bm), fr] t (0, 0)) ∧ hh[bm]? = h[bm]?) ⟨R.var, rfl⟩ ?_
 try simp only [go_sem]
 refine zaf fr (fun hh S => by rw [zac S.1]; rfl) ?_
 refine zaf (.map (some bm)) (fun hh S => by rw [zac S.1]; rfl) ?_
 refine zaf p.1 (fun hh S => by rw [zrd (R.map.row S.2), zgj, hg]; rfl) ?_
 have hmem : p ∈ es.map Prod.snd ++ fv ++ [] := by simp; exact .inl ⟨j, zrj hg⟩
 have hp := R.bag.own p hmem
 have hp1 := own_one hp.1
 refine zb5 (Rp.fill_one hp1) fun b1 h1 r1 e1 n1 => ?_
 have lbx := zay R.var
 have lbm := R.map.lt
 refine ⟨⟨e1.row R.var, e1.2 bm lbm⟩, ?_⟩
 have S1 := Rp.SlC.single (cs := [p.1]) r1
 have hnum := R.nums
 have htot := R.tot
 simp only [List.length_nil, Nat.add_zero] at htot
 refine zlF (R.free.fr (M := fun _ => False) e1.fr fun _ _ => id) S1 (zad hp1 zao) rfl (by omega) (by omega) fun fr' h2 o2 f2 n2 => ?_
 have v2 := f2.row (e1.row R.var) R.ap.2.1
 have m2 : h2[bm]? = h[bm]? := (f2.2 bm (Nat.lt_of_lt_of_le lbm e1.1) R.ap.2.2).trans (e1.2 bm lbm)
 refine ⟨⟨v2, m2⟩, ?_⟩
 have frbx : ∀ k, blk fr' k → k ≠ bx ∧ k ≠ bm := fun k hk => by
  rcases n2 k hk with h3 | h3
  ·exact ⟨fun h4 => R.ap.2.1 (h4 ▸ h3), fun h4 => R.ap.2.2 (h4 ▸ h3)⟩
  ·have := e1.1; exact ⟨by omega, by omega⟩
 obtain ⟨fa, fc, rfl⟩ : ∃ a c, fr' = .slice a (fv.length + 1) c := o2.isSl
 try simp only [go_sem]
 refine zaO (o := 3) v2 (by simp) rfl fun h3 r3 u3 => ?_
 have r3 : h3[bx]? = some (.cells #[.int .i64 room, .int .i64 w, .map (some bm), .slice fa (fv.length + 1) fc] t (0, 0)) := r3
 have m3 : h3[bm]? = h[bm]? := (u3.2 bm (Ne.symm R.ap.1)).trans m2
 simp only [go_sem, zac r3]
 refine del_map' (R.map.row m3) fun h4 m4 u4 d4 => ?_
 have f04 : Fr (fun k => M k) h h4 := ((e1.fr.trans (f2.mono fun k _ hk => R.inM.2.2 k hk)).trans (u3.fr.mono fun k _ hk => by rw [show k = bx from hk]; exact R.inM.1)).trans (u4.fr.mono fun k _ hk => by rw [show k = bm from hk]; exact R.inM.2.1)
 have fbx : ∀ k, M k → k < h.size := R.lt
 have hperm : (((kDel j es).map Prod.snd ++ (fv ++ [p])) ++ []).Perm (es.map Prod.snd ++ fv ++ []) := by
  have h5 := (zot hg).map Prod.snd
  rw [List.map_cons] at h5
  rw [List.append_nil, List.append_nil, ← List.append_assoc]
  exact (List.perm_append_comm (l₁ := (kDel j es).map Prod.snd ++ fv) (l₂ := [p])).trans (h5.symm.append_right fv)
 have hblk : ∀ q ∈ es.map Prod.snd ++ fv ++ [], ∀ k, blk q.1 k → k ≠ bx ∧ k ≠ bm ∧ ¬ blk fr k ∧ M k := fun q hq => (R.bag.own q hq).2.2
 have bag4 : Bag M h4 bx bm fr w (es.map Prod.snd ++ fv ++ []) := by
  refine (((R.bag.ext e1).fr f2 fun q hq k hk => (hblk q hq k hk).2.2.1).fr u3.fr fun q hq k hk => (hblk q hq k hk).1).fr u4.fr fun q hq k hk => (hblk q hq k hk).2.1
 refine ⟨fun k => M k ∨ blk (.slice fa (fv.length + 1) fc) k, .slice fa (fv.length + 1) fc, ?_, f04, fun k hk => ?_, ?_⟩
 ·exact {
   var := u4.row (fun h => R.ap.1 h) r3
   map := by rw [zrl] at m4; exact m4
   free := by
    have := (o2.fr u3.fr fun k hk => (frbx k hk).1).fr u4.fr fun k hk => (frbx k hk).2
    rw [List.length_append, List.map_append]
    exact this
   bag := (bag4.mono (fun k hk => .inl hk) fun q hq k hk hk' => by
    rcases n2 k hk' with h5 | h5
    ·exact (hblk q hq k hk).2.2.1 h5
    ·have := R.lt k (hblk q hq k hk).2.2.2; have := e1.1; omega).perm hperm
   ap := ⟨R.ap.1, fun hk => (frbx _ hk).1 rfl, fun hk => (frbx _ hk).2 rfl⟩
   inM := ⟨.inl R.inM.1, .inl R.inM.2.1, fun k hk => .inr hk⟩
   lt := fun k hk => by
    rcases hk with hk | hk
    ·exact Nat.lt_of_lt_of_le (R.lt k hk) f04.1
    ·have := o2.lt hk; have := u3.1; have := u4.1; omega
   nums := R.nums
   keys := fun e he => R.keys e (zrk.subset he)
   len := by have := znp hg; have := R.len; omega
   tot := by have := znp hg; simp; omega }
 ·rcases hk with hk | hk
  ·exact .inl hk
  ·rcases n2 k hk with h5 | h5
   ·exact .inl (R.inM.2.2 k h5)
   ·exact .inr (Nat.le_trans e1.1 h5)
 ·intro es0 c hb0
  exact d4 es0 c (m3.trans hb0)
theorem Own.shrink {h : Heap} {v : Value} {n : Nat} {cs : List Value} (H : Own 1 h v n cs) (hn : 0 < n) : ∃ v', slcV 1 v none (some (.int .i64 ((n - 1 : Nat) : Int))) = some v' ∧ Own 1 h v' (n - 1) cs.dropLast ∧ (∀ k, blk v' k → blk v k) := by
 rcases H with ⟨rfl, rfl, rfl⟩ | ⟨b, cap, r, e, rfl, hc, hl, hr, hb⟩
 ·omega
 ·have hne : cs ≠ [] := fun h0 => by rw [h0] at hl; simp at hl; omega
  refine ⟨.slice (some ⟨b, 0, none⟩) (n - 1) cap, ?_, .inr ⟨b, cap, cs.getLast hne :: r, e, rfl, by omega, by simp; omega, ?_, ?_⟩, fun k hk => hk⟩
  ·have h1 : (0 : Int) ≤ ((n - 1 : Nat) : Int) ∧ ((n - 1 : Nat) : Int) ≤ (cap : Int) := by omega
   have h2 : ¬ cap = 0 := by omega
   simp only [slcV, bdV, if_pos h1, Int.toNat_natCast, if_neg h2, Option.map_some, zfL, Nat.sub_zero, Nat.zero_mul, Nat.add_zero]
  ·rw [← hr]
   conv => rhs; rw [← List.dropLast_concat_getLast hne]
   simp
  ·rw [hb]
   conv => lhs; rw [← List.dropLast_concat_getLast hne]
   simp
theorem Bag.last {M : Nat → Prop} {h h' : Heap} {bx bm : Nat} {fr : Value} {w : Nat} {all : List (Value × List Int)} {u : Value} {l0 l : List Int} (B : Bag M h bx bm fr w (all ++ [(u, l0)])) (f : Fr (blk u) h h') (o : OwnI h' u l) (hl : l.length = w) : Bag M h' bx bm fr w (all ++ [(u, l)]) where
 own := fun p hp => by
  rcases List.mem_append.1 hp with hp | hp
  ·have h1 := B.own p (List.mem_append_left _ hp)
   have h2 := (List.pairwise_append.1 B.apart).2.2 p hp (u, l0) (by simp)
   exact ⟨h1.1.fr f fun k hk => h2 k hk, h1.2⟩
  ·rw [List.mem_singleton.1 hp]
   exact ⟨o, hl, (B.own (u, l0) (by simp)).2.2⟩
 apart := by
  have h1 := List.pairwise_append.1 B.apart
  refine List.pairwise_append.2 ⟨h1.1, by simp, fun a ha b hb => ?_⟩
  rw [List.mem_singleton.1 hb]
  exact h1.2.2 a ha (u, l0) (by simp)
theorem c_space {M : Nat → Prop} {h : Heap} {bx bm : Nat} {fr : Value} {t : TypeId} {room w : Nat} {es : List (Int × (Value × List Int))} {fv : List (Value × List Int)} (R : zlG M h bx bm fr t room w es fv []) (h1 : es.length < room) (h2 : es.length + fv.length ≤ room) :
  FCall prog zea #[.pointer (some ⟨bx, 0, none⟩)] h fun u h' => ∃ M' fr' fv' l0, zlG M' h' bx bm fr' t room w es fv' [(u, l0)] ∧ Fr M h h' ∧ (∀ k, M' k → M k ∨ h.size ≤ k) ∧ es.length + 1 + fv'.length ≤ room := by
 apply zlh
 unfold zf4
 have hnum := R.nums
 obtain ⟨fa, fc, rfl⟩ := R.free.isSl
 simp only [go_sem, zac R.var]
 refine zab (fun hp => ?_) (fun hz => ?_)
 ·have hp : 0 < fv.length := by omega
  have hsub : IntKind.i64.wrap ((fv.length : Int) - 1) = ((fv.length - 1 : Nat) : Int) := by rw [w64 (by omega) (by omega)]; omega
  obtain ⟨p, hp1, hq1⟩ := R.free.sl.at1 (k := .i64) (i := fv.length - 1) (by omega)
  obtain ⟨v', hv', ov', bv'⟩ := Own.shrink R.free hp
  rw [hsub, hp1, zaa, hq1, zaa, hv', zaa]
  have hne : fv ≠ [] := List.length_pos_iff.1 hp
  have hlast : (fv.map Prod.fst)[fv.length - 1]'(by simp; omega) = (fv.getLast hne).1 := by
   rw [List.getElem_map]; congr 1
   rw [List.getLast_eq_getElem]
  rw [hlast]
  refine zaO (o := 3) R.var (by simp) (by obtain ⟨_, _, rfl⟩ := ov'.isSl; rfl) fun h3 r3 u3 => ?_
  have r3 : h3[bx]? = some (.cells #[.int .i64 room, .int .i64 w, .map (some bm), v'] t (0, 0)) := r3
  have hdl : fv.dropLast.map Prod.fst = (fv.map Prod.fst).dropLast := by simp
  refine ⟨M, v', fv.dropLast, (fv.getLast hne).2, ?_, u3.fr.mono fun k _ hk => by rw [show k = bx from hk]; exact R.inM.1, fun k hk => .inl hk, by simp; omega⟩
  have hbx : ∀ k, blk v' k → k ≠ bx := fun k hk hkb => R.ap.2.1 (hkb ▸ bv' k hk)
  have hperm : (es.map Prod.snd ++ fv.dropLast ++ [fv.getLast hne]).Perm (es.map Prod.snd ++ fv ++ []) := by
   rw [List.append_assoc, List.dropLast_concat_getLast hne, List.append_nil]
  exact {
   var := r3
   map := R.map.row (u3.2 bm (Ne.symm R.ap.1))
   free := by rw [List.length_dropLast, hdl]; exact ov'.fr u3.fr fun k hk => hbx k hk
   bag := ((R.bag.fr u3.fr fun q hq k hk => ((R.bag.own q hq).2.2 k hk).1).mono (fun k hk => hk) fun q hq k hk hk' => ((R.bag.own q hq).2.2 k hk).2.2.1 (bv' k hk')).perm hperm
   ap := ⟨R.ap.1, fun hk => R.ap.2.1 (bv' _ hk), fun hk => R.ap.2.2 (bv' _ hk)⟩
   inM := ⟨R.inM.1, R.inM.2.1, fun k hk => R.inM.2.2 k (bv' k hk)⟩
   lt := fun k hk => by rw [u3.1]; exact R.lt k hk
   nums := R.nums, keys := R.keys, len := R.len
   tot := by simp; omega }
 ·have hfv : fv = [] := List.eq_nil_of_length_eq_zero (by omega)
  subst hfv
  refine zl3 rfl (by omega) (by omega) fun u h3 o3 e3 n3 => ?_
  have o3' : OwnI h3 u (List.replicate w 0) := by
   unfold OwnI; rw [List.length_replicate, List.map_replicate]; exact o3
  have R3 := R.fr (Q := fun _ => False) e3.fr fun _ _ _ => id
  refine ⟨fun k => M k ∨ blk u k, .slice fa ([] : List (Value × List Int)).length fc, [], List.replicate w 0, ?_, e3.fr, fun k hk => hk.imp id (n3 k), by simp; omega⟩
  have hu : ∀ k, blk u k → ¬ M k := fun k hk hm => by have := R.lt k hm; have := n3 k hk; omega
  exact { R3 with
   bag := by
    refine ⟨fun q hq => ?_, ?_⟩
    ·rcases List.mem_append.1 hq with hq | hq
     ·have h5 := R3.bag.own q (by simpa using hq)
      exact ⟨h5.1, h5.2.1, fun k hk => ⟨(h5.2.2 k hk).1, (h5.2.2 k hk).2.1, (h5.2.2 k hk).2.2.1, .inl (h5.2.2 k hk).2.2.2⟩⟩
     ·rw [List.mem_singleton.1 hq]
      exact ⟨o3', by simp, fun k hk => ⟨fun h => hu k hk (h ▸ R.inM.1), fun h => hu k hk (h ▸ R.inM.2.1), fun h => hu k hk (R.inM.2.2 k h), .inr hk⟩⟩
    ·refine List.pairwise_append.2 ⟨by simpa using R3.bag.apart, by simp, fun a ha b hb k hk hk' => ?_⟩
     rw [List.mem_singleton.1 hb] at hk'
     exact hu k hk' ((R3.bag.own a (by simpa using ha)).2.2 k hk).2.2.2
   inM := ⟨.inl R.inM.1, .inl R.inM.2.1, fun k hk => .inl (R.inM.2.2 k hk)⟩
   lt := fun k hk => by
    rcases hk with hk | hk
    ·exact R3.lt k hk
    ·exact o3.lt hk
   tot := by simp; omega }
def fullB (room : Nat) (rs : List (Int × List Int)) : Bool := decide (room ≤ rs.length)
def putOk (room w : Nat) (rs : List (Int × List Int)) (j : Int) (l : List Int) : Bool := decide (l.length = w) && ((kGet j rs).isNone && !(fullB room rs && decide (j < minL (rs.map Prod.fst))))
def zeH (room : Nat) (rs : List (Int × List Int)) : List (Int × List Int) := if fullB room rs = true then kDel (minL (rs.map Prod.fst)) rs else rs
def putR (room w : Nat) (rs : List (Int × List Int)) (j : Int) (l : List Int) : List (Int × List Int) := if putOk room w rs j l = true then zeH room rs ++ [(j, l)] else rs
theorem minL_mem {l : List Int} (h : l ≠ []) : minL l ∈ l := by
 have key : ∀ (l : List Int) (x : Int), l.foldl min x ∈ x :: l := by
  intro l
  induction l with
  | nil => intro x; simp
  | cons z l ih =>
   intro x
   rw [List.foldl_cons]
   rcases List.mem_cons.1 (ih (min x z)) with h2 | h2
   ·rw [h2]
    rcases Int.le_total x z with hxz | hxz
    ·rw [Int.min_eq_left hxz]; simp
    ·rw [Int.min_eq_right hxz]; simp
   ·exact List.mem_cons_of_mem _ (List.mem_cons_of_mem _ h2)
 cases l with
 | nil => exact absurd rfl h
 | cons x l => exact key l x
theorem c_RPut {M : Nat → Prop} {h : Heap} {v u : Value} {room w : Nat} {rs : List (Int × List Int)} (H : zcI M h v room w rs) {j : Int} (hj : (Lit.int .i64 j).wf = true) {l : List Int} (hu : Ints h u l) (hul : l.length ≤ 9223372036854775807) (hn : ∀ b, blk u b → ¬ M b) :
  FCall prog zfQ #[v, .int .i64 j, u] h fun r h' => r = .bool (putOk room w rs j l) ∧ ∃ M', zcI M' h' v room w (putR room w rs j l) ∧ Fr M h h' ∧ ∀ k, M' k → M k ∨ h.size ≤ k := by
 have H0 := H
 have hnd := H.nodup
 have hnum := H.nums
 have hfirst := fun h' (e : Ext h h') => c_RFirst (H.ext e)
 obtain ⟨bx, bm, fr, t, es, fv, rfl, R, hrs, hlen⟩ := H
 apply zm5
 unfold zhL
 have hu0 := hu
 obtain ⟨ua, uc, rfl, _⟩ := hu
 have no : putOk room w rs j l = false → ∀ h', Ext h h' → ∃ M', zcI M' h' (.pointer (some ⟨bx, 0, none⟩)) room w (putR room w rs j l) ∧ Fr M h h' ∧ ∀ k, M' k → M k ∨ h.size ≤ k := fun hp h' e =>
  ⟨M, by unfold putR; rw [hp]; exact H0.ext e, e.fr, fun k hk => .inl hk⟩
 by_cases hw : l.length = w
 ·have hw' : (l.length : Int) = (w : Int) := by omega
  simp only [go_sem, zac R.var, hw']
  refine (c_RHas H0 j).mono ?_
  rintro _ h1 ⟨rfl, hh⟩
  subst hh
  try simp only [go_sem]
  cases hg : kGet j rs with
  | some q =>
   simp only [Option.isSome_some, go_sem]
   have hp : putOk room w rs j l = false := by simp [putOk, hg]
   exact ⟨by rw [hp], no hp _ (Ext.refl _)⟩
  | none =>
   simp only [Option.isSome_none, go_sem]
   refine zau (fun xs h' => xs = [] ∧ putOk room w rs j l = true ∧ ∃ M' fr' es' fv', zlG M' h' bx bm fr' t room w es' fv' [] ∧ es'.length < room ∧ es'.length + fv'.length ≤ room ∧ kMap Prod.snd es' = zeH room rs ∧ Fr M h1 h' ∧ ∀ k, M' k → M k ∨ h1.size ≤ k) ?_ ?_
   ·refine (c_RFirst H0).mono ?_
    rintro _ h2 ⟨rfl, e2⟩
    have R2 := R.fr (Q := fun _ => False) e2.fr fun _ _ _ => id
    have hll : (kMap Prod.fst es).length = rs.length := by rw [hrs]; simp [kMap]
    simp only [go_sem, zac R2.var, len_map R2.map, hll]
    refine zab (fun hfull => ?_) (fun hnot => ?_)
    ·have hfull : room ≤ rs.length := by omega
     have hf : fullB room rs = true := by simp [fullB, hfull]
     refine zab (fun hlt => ?_) (fun hge => ?_)
     ·have hp : putOk room w rs j l = false := by simp [putOk, hf, hlt]
      exact ⟨by rw [hp], no hp _ e2⟩
     ·have hp : putOk room w rs j l = true := by simp [putOk, hf, hge, hg, hw]
      have hne : rs.map Prod.fst ≠ [] := fun h0 => by
       have := congrArg List.length h0
       simp at this
       rw [this] at hfull; simp at hfull; omega
      have hmem := minL_mem hne
      generalize hm : minL (rs.map Prod.fst) = m at hmem
      have hk : ∃ p, kGet m es = some p := by
       cases hc : kGet m es with
       | some p => exact ⟨p, rfl⟩
       | none =>
        have := zfH.1 hc
        rw [hrs, ziB] at hmem
        exact absurd hmem this
      obtain ⟨p, hk⟩ := hk
      refine (c_drop R2 hk).mono ?_
      rintro _ h3 ⟨M', fr', R3, f3, n3, _⟩
      have hdl := znp hk
      have hel : es.length = rs.length := by rw [hrs]; simp [kMap]
      refine ⟨trivial, hp, M', fr', kDel m es, fv ++ [p], R3, by have := R.len; omega, by simp; omega, ?_, e2.fr.trans f3, fun k hk => (n3 k hk).imp id fun h5 => Nat.le_trans e2.1 h5⟩
      unfold zeH
      rw [if_pos hf, hm, hrs, zrl]
    ·have hnot : ¬ room ≤ rs.length := by omega
     have hf : fullB room rs = false := by simp [fullB]; omega
     have hel : es.length = rs.length := by rw [hrs]; simp [kMap]
     refine ⟨trivial, by simp [putOk, hf, hg, hw], M, fr, es, fv, R2, by omega, hlen, ?_, e2.fr, fun k hk => .inl hk⟩
     unfold zeH
     rw [hf]; exact hrs.symm
   ·rintro _ ρj h2 ⟨rfl, hp, M2, fr2, es2, fv2, R2, l2, t2, hk2, f2, n2⟩
    refine (c_space R2 l2 t2).mono ?_
    rintro x h3 ⟨M3, fr3, fv3, l0, R3, f3, n3, t3⟩
    have hxo := R3.bag.own (x, l0) (by simp)
    have f13 : Fr (fun k => M k ∨ h1.size ≤ k) h1 h3 := (f2.mono fun k _ hk => .inl hk).trans (f3.mono fun k _ hk => n2 k hk)
    have f13' : Fr M h1 h3 := ⟨f13.1, fun b hb hm => f13.2 b hb fun hc => hc.elim hm fun h5 => by omega⟩
    have us : SlC 1 h3 (.slice ua l.length uc) l.length (l.map vi) := hu0.sl.fr f13' fun b _ hb => hn b hb
    have xo : Own 1 h3 x w (l0.map vi) := by
     have h5 := hxo.1
     unfold OwnI at h5
     rw [hxo.2.1] at h5
     exact h5
    have xl : (l0.map vi).length = w := by rw [List.length_map]; exact hxo.2.1
    refine zrr xo us vi_one fun h4 o4 f4 s4 => ?_
    have o4' : OwnI h4 x l := by
     have h6 : (l.map vi).take w ++ (l0.map vi).drop l.length = l.map vi := by
      rw [List.take_of_length_le (by rw [List.length_map]; omega), List.drop_eq_nil_of_le (by omega), List.append_nil]
     rw [h6] at o4
     unfold OwnI
     rw [hw]
     exact o4
    have bag4 := R3.bag.last (l := l) f4 o4' hw
    have hxx := hxo.2.2
    have v4 := f4.row R3.var fun hb => (hxx _ hb).1 rfl
    have m4 := R3.map.fr f4 fun hb => (hxx _ hb).2.1 rfl
    have fr4 := R3.free.fr f4 fun k hk hk' => (hxx k hk').2.2.1 hk
    simp only [go_sem, zac v4]
    refine put_map m4 fun h5 m5 u5 => ?_
    have hnone : kGet j es2 = none := by
     cases hc : kGet j es2 with
     | none => rfl
     | some p =>
      exfalso
      have h6 : kGet j (zeH room rs) = some p.2 := by rw [← hk2, zgj, hc]; rfl
      unfold zeH at h6
      split at h6
      ·rw [zno hnd, hg] at h6
       split at h6 <;> cases h6
      ·rw [hg] at h6; cases h6
    have hnew : kPut j x (kMap Prod.fst es2) = kMap Prod.fst (es2 ++ [(j, (x, l))]) := by
     rw [zri (by rw [zgj, hnone]; rfl)]
     simp [kMap]
    rw [hnew] at m5
    have f35 : Fr M3 h3 h5 := (f4.mono fun k _ hk => (hxx k hk).2.2.2).trans (u5.fr.mono fun k _ hk => by rw [show k = bm from hk]; exact R3.inM.2.1)
    have f15 : Fr M h1 h5 := by
     have h7 : Fr (fun k => M k ∨ h1.size ≤ k) h1 h5 := f13.trans (f35.mono fun k _ hk => (n3 k hk).elim (n2 k) fun h8 => .inr (Nat.le_trans f2.1 h8))
     exact ⟨h7.1, fun b hb hm => h7.2 b hb fun hc => hc.elim hm fun h5 => by omega⟩
    refine ⟨by rw [hp], M3, ⟨bx, bm, fr3, t, es2 ++ [(j, (x, l))], fv3, rfl, ?_, ?_, by simp; omega⟩, f15, fun k hk => (n3 k hk).elim (n2 k) fun h8 => .inr (Nat.le_trans f2.1 h8)⟩
    ·have hb5 : Bag M3 h5 bx bm fr3 w (es2.map Prod.snd ++ fv3 ++ [(x, l)]) := bag4.fr u5.fr fun q hq k hk => ((bag4.own q hq).2.2 k hk).2.1
     exact {
      var := u5.row (fun h => R3.ap.1 h) v4
      map := m5
      free := fr4.fr u5.fr fun k hk hk' => R3.ap.2.2 (hk' ▸ hk)
      bag := hb5.perm (by
       rw [List.append_nil, List.map_append, List.append_assoc, List.append_assoc]
       exact (List.perm_append_comm (l₁ := [(x, l)])).append_left _)
      ap := R3.ap, inM := R3.inM
      lt := fun k hk => Nat.lt_of_lt_of_le (R3.lt k hk) f35.1
      nums := R3.nums
      keys := fun e he => by
       rcases List.mem_append.1 he with he | he
       ·exact R3.keys e he
       ·rw [List.mem_singleton.1 he]; exact hj
      len := by simp; omega
      tot := by simp; omega }
    ·unfold putR
     rw [if_pos hp, ← hk2]
     simp [kMap]
 ·have hw' : ¬ (l.length : Int) = (w : Int) := by omega
  have hp : putOk room w rs j l = false := by simp [putOk, hw]
  simp only [go_sem, zac R.var, hw']
  exact ⟨by rw [hp], no hp _ (Ext.refl _)⟩
def zqf (rs : List (Int × List Int)) (a b n : Int) (is : Bool) : Prop :=
 (is = true ∧ a ≤ n ∧ n < b ∧ kGet n rs = none ∧ ∀ i, a ≤ i → i < n → (kGet i rs).isSome = true) ∨ (is = false ∧ n = 0 ∧ ∀ i, a ≤ i → i < b → (kGet i rs).isSome = true)
theorem c_RNext {M : Nat → Prop} {h : Heap} {v : Value} {room w : Nat} {rs : List (Int × List Int)} (H : zcI M h v room w rs) {a b : Int} (ha : -9223372036854775808 ≤ a) (hb : b ≤ 9223372036854775807) :
  FCall prog zeM #[v, .int .i64 a, .int .i64 b] h fun r h' => (∃ n is, r = .tuple #[.int .i64 n, .bool is] ∧ zqf rs a b n is) ∧ h' = h := by
 apply zlW
 unfold zgN
 refine zbl (fun d xs h' => h' = h ∧ ∃ j, a ≤ j ∧ d = (b - j).toNat ∧ xs = [.int .i64 j] ∧ ∀ i, a ≤ i → i < j → (kGet i rs).isSome = true) (b - a).toNat ⟨rfl, a, by omega, rfl, rfl, fun i h1 h2 => by omega⟩ ?_
 rintro d _ ρj h1 again ⟨hh, j, haj, rfl, rfl, hall⟩ hag
 subst hh
 simp only [go_sem]
 refine zab (fun hlt => ?_) (fun hge => ?_)
 ·refine (c_RHas H j).mono ?_
  rintro _ h2 ⟨rfl, hh⟩
  subst hh
  try simp only [go_sem]
  cases hg : kGet j rs with
  | none =>
   simp only [Option.isSome_none, go_sem]
   exact ⟨⟨j, true, rfl, .inl ⟨rfl, haj, hlt, hg, hall⟩⟩, trivial⟩
  | some p =>
   simp only [Option.isSome_some, go_sem]
   rw [w64 (by omega) (by omega)]
   refine hag _ _ (b - (j + 1)).toNat (by omega) ⟨rfl, j + 1, by omega, rfl, rfl, fun i h1 h2 => ?_⟩
   by_cases hi : i = j
   ·rw [hi, hg]; rfl
   ·exact hall i h1 (by omega)
 ·exact ⟨⟨0, false, rfl, .inr ⟨rfl, rfl, fun i h1 h2 => hall i h1 (by omega)⟩⟩, trivial⟩
theorem wf64 {n : Int} (h1 : -9223372036854775808 ≤ n) (h2 : n ≤ 9223372036854775807) : (Lit.int .i64 n).wf = true := by
 show (decide (IntKind.i64.min ≤ n) && decide (n ≤ IntKind.i64.max)) = true
 rw [Bool.and_eq_true, decide_eq_true_eq, decide_eq_true_eq]
 exact ⟨h1, h2⟩
end Go.Proofs.YtdbebmafgpdfhaaGreatDoor
namespace Go.Proofs.YtdbebmafgpdfhaaGreatDoor
open Go Go.Crisp
attribute [local irreducible] FCall rowK newK stK iteK vK qK drawK gK joinK loopK mkK appK cpyK zni zla bsK clK zhc zfF newmK
open _root_.Go.Proofs.Tryz
section
structure JobD where
 m : Pic
 s : Stg
 t : TileD
structure JobD.Wf (d : JobD) : Prop where
 m : d.m.Wf
 s : d.s.Wf
 su : zh6 d.m d.s
 w1 : 1 ≤ d.t.w
 h1 : 1 ≤ d.t.h
 x0 : 0 ≤ d.t.x
 y0 : 0 ≤ d.t.y
 xw : d.t.x + d.t.w ≤ d.s.x.lines.length
 yh : d.t.y + d.t.h ≤ d.s.y.lines.length
abbrev jobC (bf bt : Nat) (p q rv : Value) (d : JobD) (y : Int) : List Value := [ptr bf, ptr bt, p, q, .int .i64 d.s.border] ++ tileC d.t ++ [rv, .int .i64 y]
structure JobAt (Z M : Nat → Prop) (h : Heap) (bj bf : Nat) (vf : Value) (bt : Nat) (vt p q rv : Value) (d : JobD) (y : Int) (n : Pic) (room w : Nat) (rs : List (Int × List Int)) : Prop where
 row : h[bj]? = some (.cells (jobC bf bt p q rv d y).toArray 156 (0, 0))
 src : IsImg h bf vf d.m
 tx : IsTbl Z h p d.s.x
 ty : IsTbl Z h q d.s.y
 ring : zcI M h rv room w rs
 out : IsImg h bt vt n
 zf : Z bf ∧ ∀ c, blk vf c → Z c
 zz : ∀ c, Z c → ¬ M c ∧ c ≠ bj ∧ ¬ blk vt c
 mj : ¬ M bj ∧ ¬ M bt ∧ (∀ c, blk vt c → ¬ M c)
 jt : bj ≠ bt ∧ ¬ blk vt bj
 y0 : d.t.y ≤ y
 y1 : y ≤ d.t.y + d.t.h
 zl : ∀ c, Z c → c < h.size
section
variable {Z M : Nat → Prop} {h : Heap} {bj bf : Nat} {vf : Value} {bt : Nat} {vt p q rv : Value} {d : JobD} {y : Int} {n : Pic} {room w : Nat} {rs : List (Int × List Int)}
theorem JobAt.ext {h' : Heap} (J : JobAt Z M h bj bf vf bt vt p q rv d y n room w rs) (e : Ext h h') : JobAt Z M h' bj bf vf bt vt p q rv d y n room w rs :=
 ⟨e.row J.row, J.src.ext e, J.tx.ext e, J.ty.ext e, J.ring.ext e, J.out.ext e, J.zf, J.zz, J.mj, J.jt, J.y0, J.y1, fun c hc => Nat.lt_of_lt_of_le (J.zl c hc) e.1⟩
theorem JobD.bd (W : d.Wf) : d.t.x + d.t.w ≤ 65536 ∧ d.t.y + d.t.h ≤ 65536 := by
 have := W.s.x.len
 have := W.s.y.len
 have := W.xw
 have := W.yh
 omega
theorem c_over (J : JobAt Z M h bj bf vf bt vt p q rv d y n room w rs) (W : d.Wf) : FCall prog zd9 #[ptr bj] h fun r h' => r = .bool (decide (d.t.y + d.t.h ≤ y)) ∧ h' = h := by
 apply zlc
 unfold zfZ
 have hb := JobD.bd W
 have h1 := W.y0
 have h2 := W.h1
 simp only [go_sem, Nat.zero_add, zac J.row]
 simp only [jobC, tileC, List.cons_append, List.nil_append, List.getElem?_toArray, List.getElem?_cons_succ, List.getElem?_cons_zero, go_sem]
 rw [w64 (n := d.t.y + d.t.h) (by omega) (by omega)]
 exact ⟨rfl, trivial⟩
theorem JobAt.c2 {h' : Heap} (J : JobAt Z M h bj bf vf bt vt p q rv d y n room w rs) (e : Ext h h') : zah h' ⟨bj, 2, none⟩ = some p := by rw [zac (e.row J.row)]; rfl
theorem JobAt.c3 {h' : Heap} (J : JobAt Z M h bj bf vf bt vt p q rv d y n room w rs) (e : Ext h h') : zah h' ⟨bj, 3, none⟩ = some q := by rw [zac (e.row J.row)]; rfl
theorem JobAt.c4 {h' : Heap} (J : JobAt Z M h bj bf vf bt vt p q rv d y n room w rs) (e : Ext h h') : zah h' ⟨bj, 4, none⟩ = some (.int .i64 d.s.border) := by rw [zac (e.row J.row)]; rfl
theorem JobAt.c0 {h' : Heap} (J : JobAt Z M h bj bf vf bt vt p q rv d y n room w rs) (e : Ext h h') : zah h' ⟨bj, 0, none⟩ = some (ptr bf) := by rw [zac (e.row J.row)]; rfl
theorem JobAt.c1 {h' : Heap} (J : JobAt Z M h bj bf vf bt vt p q rv d y n room w rs) (e : Ext h h') : zah h' ⟨bj, 1, none⟩ = some (ptr bt) := by rw [zac (e.row J.row)]; rfl
theorem JobAt.c6 {h' : Heap} (J : JobAt Z M h bj bf vf bt vt p q rv d y n room w rs) (e : Ext h h') : zah h' ⟨bj, 6, none⟩ = some (.int .i64 d.t.x) := by rw [zac (e.row J.row)]; rfl
theorem JobAt.c8 {h' : Heap} (J : JobAt Z M h bj bf vf bt vt p q rv d y n room w rs) (e : Ext h h') : zah h' ⟨bj, 8, none⟩ = some (.int .i64 d.t.w) := by rw [zac (e.row J.row)]; rfl
theorem JobAt.c15 {h' : Heap} (J : JobAt Z M h bj bf vf bt vt p q rv d y n room w rs) (e : Ext h h') : zah h' ⟨bj, 15, none⟩ = some rv := by rw [zac (e.row J.row)]; rfl
theorem JobAt.c16 {h' : Heap} (J : JobAt Z M h bj bf vf bt vt p q rv d y n room w rs) (e : Ext h h') : zah h' ⟨bj, 16, none⟩ = some (.int .i64 y) := by rw [zac (e.row J.row)]; rfl
theorem c_jobLine (J : JobAt Z M h bj bf vf bt vt p q rv d y n room w rs) (W : d.Wf) : FCall prog zcR #[ptr bj] h fun r h' =>
  ∃ u, r = .agg #[.int .i64 (lineT d.s.y y).1, u] ∧ SlI (Since h h') h' u (lineT d.s.y y).2 ∧ Ext h h' := by
 apply zld
 unfold zf0
 refine zai fun b1 h1 r1 e1 n1 => ?_
 have l1 := zay r1
 simp only [go_sem, Nat.zero_add]
 refine zan (fun h' => h' = h1) rfl ?_
 refine zaf q (fun h' e => by rw [e]; exact J.c3 e1) ?_
 refine zaf (.int .i64 y) (fun h' e => by rw [e]; exact J.c16 e1) ?_
 refine (zmY (J.ty.ext e1) W.s.y).mono fun r h2 ⟨u, e, S, e2⟩ => ?_
 subst e
 refine zb9 (l := [.int .i64 (lineT d.s.y y).1, u]) (e2.row r1) rfl (zad rfl (zad S.one zao)) rfl fun h3 r3 u3 => ?_
 rw [zav r3 2 rfl, zaa]
 refine ⟨u, rfl, ?_, (e1.trans e2).upd n1 u3⟩
 refine (S.fr u3.fr fun c _ hz he => ?_).mono fun c hc hz => ⟨Nat.le_trans e1.1 hz.1, hc⟩
 have := hz.1
 omega
abbrev moveV (k j : Int) : Value := .agg #[.int .i64 k, .int .i64 j]
def NextZ (d : JobD) (y : Int) (rs : List (Int × List Int)) (k j : Int) : Prop :=
 if d.t.y + d.t.h ≤ y then k = 0 ∧ j = 0 else
  (k = 1 ∧ zqf rs (lineT d.s.y y).1 ((lineT d.s.y y).1 + ((lineT d.s.y y).2.length : Int)) j true) ∨ (k = 2 ∧ j = y ∧ zqf rs (lineT d.s.y y).1 ((lineT d.s.y y).1 + ((lineT d.s.y y).2.length : Int)) 0 false)
theorem c_jobNext (J : JobAt Z M h bj bf vf bt vt p q rv d y n room w rs) (W : d.Wf) : FCall prog zce #[ptr bj] h fun r h' => ∃ k j, r = moveV k j ∧ NextZ d y rs k j ∧ Ext h h' := by
 apply zlf
 unfold zf2
 refine zai fun b1 h1 r1 e1 n1 => ?_
 have l1 := zay r1
 have J1 := J.ext e1
 refine (c_over J1 W).mono fun r h2 ⟨e, wq⟩ => ?_
 have wq := wq.symm
 subst e wq
 refine zab (fun h2 => ?_) (fun h2 => ?_)
 ·rw [zda, zaA, zaa]
  refine zb9 (l := [.int .i64 0, .int .i64 0]) r1 rfl (zad rfl (zad rfl zao)) rfl fun h3 r3 u3 => ?_
  rw [zav r3 2 rfl, zaa]
  exact ⟨0, 0, rfl, by unfold NextZ; rw [if_pos h2]; exact ⟨rfl, rfl⟩, e1.upd n1 u3⟩
 refine (c_jobLine J1 W).mono fun r h3 ⟨u, e, S, e3⟩ => ?_
 subst e
 refine za1 (cs := [.int .i64 (lineT d.s.y y).1, u]) rfl (zad rfl (zad S.one zao)) rfl fun b4 h4 r4 e4 n4 => ?_
 have E4 := e3.trans e4
 have J4 := J1.ext E4
 have hl := zfG W.s.y y
 obtain ⟨au, cu, eu⟩ := S.isSl
 have eu2 : zag u = some (.int .i64 ((lineT d.s.y y).2.length : Int)) := by rw [eu]; rfl
 have hN : ∀ k j, NextZ d y rs k j ↔ ((k = 1 ∧ zqf rs (lineT d.s.y y).1 ((lineT d.s.y y).1 + ((lineT d.s.y y).2.length : Int)) j true) ∨ (k = 2 ∧ j = y ∧ zqf rs (lineT d.s.y y).1 ((lineT d.s.y y).1 + ((lineT d.s.y y).2.length : Int)) 0 false)) := fun k j => by unfold NextZ; rw [if_neg h2]
 generalize lineT d.s.y y = L at *
 refine zan (fun h' => h' = h4) rfl ?_
 simp only [go_sem, Nat.zero_add]
 refine zaf rv (fun h' e => by rw [e]; exact J1.c15 E4) ?_
 refine zaf (.int .i64 L.1) (fun h' e => by rw [e]; exact zac r4) ?_
 refine zaf (.int .i64 L.1) (fun h' e => by rw [e]; exact zac r4) ?_
 refine zaf u (fun h' e => by rw [e]; exact zac r4) ?_
 refine zaf (.int .i64 (L.2.length : Int)) (fun h' e => eu2) ?_
 simp only [go_sem]
 rw [w64 (n := L.1 + (L.2.length : Int)) (by omega) (by omega)]
 refine (c_RNext J4.ring (a := L.1) (b := L.1 + (L.2.length : Int)) (by omega) (by omega)).mono fun r h5 ⟨⟨j, is, e, hn⟩, wq⟩ => ?_
 have wq := wq.symm
 subst e wq
 simp only [go_sem]
 have r1' := E4.row r1
 refine zff (fun hi => ?_) (fun hi => ?_)
 ·subst hi
  have hf : fillL #[(.int .i64 0), (.int .i64 0)] [(0, 1, Value.int .i64 1), (1, 1, Value.int .i64 j)] = some #[.int .i64 1, .int .i64 j] := zoA rfl rfl
  rw [hf, zaA, zaa]
  refine zb9 (l := [.int .i64 1, .int .i64 j]) r1' rfl (zad rfl (zad rfl zao)) rfl fun h6 r6 u6 => ?_
  rw [zav r6 2 rfl, zaa]
  exact ⟨1, j, rfl, (hN 1 j).2 (.inl ⟨rfl, hn⟩), (e1.trans E4).upd n1 u6⟩
 ·subst hi
  have hj : j = 0 := by rcases hn with ⟨hh, _⟩ | ⟨_, hh, _⟩; cases hh; exact hh
  subst hj
  rw [J1.c16 E4, zaa]
  have hf : fillL #[(.int .i64 0), (.int .i64 0)] [(0, 1, Value.int .i64 2), (1, 1, Value.int .i64 y)] = some #[.int .i64 2, .int .i64 y] := zoA rfl rfl
  rw [hf, zaA, zaa]
  refine zb9 (l := [.int .i64 2, .int .i64 y]) r1' rfl (zad rfl (zad rfl zao)) rfl fun h6 r6 u6 => ?_
  rw [zav r6 2 rfl, zaa]
  exact ⟨2, y, rfl, (hN 2 y).2 (.inr ⟨rfl, rfl, hn⟩), (e1.trans E4).upd n1 u6⟩
end
end
section
section
variable {Z M : Nat → Prop} {h : Heap} {bj bf : Nat} {vf : Value} {bt : Nat} {vt p q rv : Value} {d : JobD} {y : Int} {n : Pic} {room w : Nat} {rs : List (Int × List Int)}
def colZ (d : JobD) (x row : Int) : List Int := (List.range d.m.c.toNat).map fun c : Nat => IntKind.i64.wrap (zgy d.m d.s x row c)
theorem c_across {h0 : Heap} {u : Value} {l : List Int} {x row : Int} (J : JobAt Z M h0 bj bf vf bt vt p q rv d y n room w rs) (W : d.Wf) (N : New (Rp.int .i64) h0 h u l) (hl : l.length ≤ 1000000) :
  FCall prog zdk #[ptr bj, .int .i64 x, .int .i64 row, u] h fun r h' => New (Rp.int .i64) h0 h' r (l ++ colZ d x row) := by
 apply zje
 unfold zeQ
 have E0 := N.2.1
 simp only [go_sem, Nat.zero_add, J.c2 E0]
 refine (zmY (J.tx.ext E0) W.s.x).mono fun r h1 ⟨v, e, S, e1⟩ => ?_
 subst e
 refine za1 (cs := [.int .i64 (lineT d.s.x x).1, v]) rfl (zad rfl (zad S.one zao)) rfl fun b2 h2 r2 e2 n2 => ?_
 have E2 := E0.trans (e1.trans e2)
 simp only [go_sem, Nat.zero_add, J.c0 E2]
 refine (zbV (J.src.ext E2)).mono fun r h3 ⟨e, wq⟩ => ?_
 have wq := wq.symm
 subst e wq
 have hf := zbs W.m.fits
 have hln := zfG W.s.x x
 unfold colZ zgy
 obtain ⟨C, hC⟩ : ∃ C : Nat, d.m.c = (C : Int) := ⟨d.m.c.toNat, by omega⟩
 rw [hC, Int.toNat_natCast]
 have S2 := S.ext e2
 have Sz : SlI (fun c => ¬ blk u c ∧ c ≠ b2 ∧ c < h2.size) h2 v (lineT d.s.x x).2 := S2.mono fun c hc hz => ⟨fun hu => by have := N.lt hu; have := hz.1; omega, fun he => by have := hz.2; omega, hc⟩
 have hub : ¬ blk u b2 := fun hu => by have := N.lt hu; have := e1.1; omega
 generalize lineT d.s.x x = L at *
 obtain ⟨av, cv, ev⟩ := S.isSl
 have ev2 : zag v = some (.int .i64 (L.2.length : Int)) := by rw [ev]; rfl
 obtain ⟨g, hg⟩ : ∃ g : Nat → Int, g = fun c : Nat => IntKind.i64.wrap (sumN (fun i => L.2.getD i 0 * atP d.m (atZ d.s.border (L.1 + i) d.m.w) row c) L.2.length) := ⟨_, rfl⟩
 rw [← hg]
 refine zaD (α := Value) C 0 (fun c u => [u, .int .i64 (c : Int)]) (fun c u h' => New (Rp.int .i64) h0 h' u (l ++ (List.range c).map g) ∧ SlI (fun c => ¬ blk u c ∧ c ≠ b2 ∧ c < h2.size) h' v L.2 ∧ h2.size ≤ h'.size ∧ h'[b2]? = some (.cells #[.int .i64 L.1, v] 160 (0, 0)) ∧ ¬ blk u b2 ∧ Ext h0 h') u rfl (Nat.zero_le _)
  ⟨by simpa using N.ext (e1.trans e2), Sz, Nat.le_refl _, r2, hub, E2⟩ fun c u h4 again ρ1 _ hc ⟨N4, S4, sz4, r4, u4, E4⟩ Hag => ?_
 simp only [go_sem]
 refine zab (fun h5 => ?_) (fun h5 => ?_)
 ·have c1 : zah h4 ⟨b2, 1, none⟩ = some v := zac r4
  simp only [go_sem, Nat.zero_add, c1, ev2]
  have J4 := J.ext E4
  refine zc2 (fun i => [.int .i64 (IntKind.i64.wrap (sumN (fun i => L.2.getD i 0 * atP d.m (atZ d.s.border (L.1 + i) d.m.w) row c) i)), .int .i64 (i : Int)]) L.2.length 0 rfl (Nat.zero_le _) fun i again2 ρ2 _ hi Hag2 => ?_
  simp only [go_sem]
  refine zab (fun h6 => ?_) (fun h6 => ?_)
  ·have hi' : i < L.2.length := by omega
   have Hag2 := Hag2 hi'
   obtain ⟨pi, i1, i2⟩ := S4.int_at (k' := .i64) hi'
   have ea : L.2.getD i 0 = L.2[i] := by simp [List.getD_eq_getElem?_getD, hi']
   rw [i1, zaa, i2, zaa, ← ea]
   refine zan (fun h' => h' = h4) rfl ?_
   try simp only [go_sem, Nat.zero_add]
   refine zaf (.int .i64 d.s.border) (fun h' e => by rw [e]; exact J.c4 E4) ?_
   refine zaf (.int .i64 L.1) (fun h' e => by rw [e]; exact zac r4) ?_
   try simp only [go_sem, Nat.zero_add]
   refine zaf (ptr bf) (fun h' e => by rw [e]; exact J.c0 E4) ?_
   rw [w64 (n := L.1 + (i : Int)) (by omega) (by omega)]
   refine (zkc J4.src).mono fun r h7 ⟨e, wq⟩ => ?_
   have wq := wq.symm
   subst e wq
   refine ⟨rfl, ?_⟩
   refine (zi5 (by unfold I64; omega)).mono fun r h7 ⟨e, wq⟩ => ?_
   have wq := wq.symm
   subst e wq
   simp only [go_sem, Nat.zero_add, J.c0 E4]
   refine (c_At J4.src W.m).mono fun r h7 ⟨e, wq⟩ => ?_
   have wq := wq.symm
   subst e wq
   have hv := atP_bd W.m (atZ d.s.border (L.1 + (i : Int)) d.m.w) row c
   have hm := W.m.m2
   simp only [go_sem]
   rw [w64 (n := atP d.m (atZ d.s.border (L.1 + (i : Int)) d.m.w) row c) (by omega) (by omega), zkr, w64 (n := (i : Int) + 1) (by omega) (by omega)]
   exact Hag2
  ·have hiL : i = L.2.length := by omega
   subst hiL
   have hgc : IntKind.i64.wrap (sumN (fun i => L.2.getD i 0 * atP d.m (atZ d.s.border (L.1 + i) d.m.w) row c) L.2.length) = g c := by rw [hg]
   rw [hgc]
   have hlen : (l ++ (List.range c).map g).length = l.length + c := by simp
   refine Rp.push_ow1 (e := Rp.int .i64) rfl N4.1 (x := g c) rfl rfl (by rw [hlen]; omega) (by rw [hlen]; omega) (fun b hb => hb.elim) fun s' h' o' f' n' => ?_
   try simp only [go_sem]
   rw [w64 (by omega) (by omega)]
   have E' : Ext h0 h' := E4.then_fr f' N4.2.2
   have hs' : ∀ b, blk s' b → blk u b ∨ h4.size ≤ b := n'
   refine Hag s' h' (by omega) ⟨⟨by rw [zfm _ (c + 1) c (by omega), ← List.append_assoc]; exact o', E', fun b hb => ?_⟩, ?_, Nat.le_trans sz4 f'.1, f'.row r4 u4, fun hb => ?_, E'⟩
   ·rcases hs' b hb with h7 | h7
    ·exact N4.2.2 b h7
    ·exact Nat.le_trans E4.1 h7
   ·refine (S4.fr f' fun b _ hz => hz.1).mono fun b hb hz => ⟨fun hs => ?_, hz.2⟩
    rcases hs' b hs with h7 | h7
    ·exact hz.1 h7
    ·have := hz.2.2; omega
   ·rcases hs' _ hb with h7 | h7
    ·exact u4 h7
    ·have := zay r4; omega
 ·have : c = C := by omega
  subst this
  exact N4
def rowP (d : JobD) (real : Int) : Nat → List Int
 | 0 => []
 | x + 1 => rowP d real x ++ colZ d (d.t.x + x) real
def rowZ (d : JobD) (j : Int) : List Int := rowP d (atZ d.s.border j d.m.h) d.t.w.toNat
theorem colZ_len (d : JobD) (x row : Int) : (colZ d x row).length = d.m.c.toNat := by unfold colZ; simp
theorem zk9 (d : JobD) (real : Int) : ∀ k, (rowP d real k).length = k * d.m.c.toNat
 | 0 => by simp [rowP]
 | k + 1 => by unfold rowP; rw [List.length_append, zk9, colZ_len, Nat.add_mul, Nat.one_mul]
theorem rowP_get (d : JobD) (real : Int) {x c : Nat} (hc : c < d.m.c.toNat) : ∀ {k : Nat}, x < k → (rowP d real k).getD (x * d.m.c.toNat + c) 0 = IntKind.i64.wrap (zgy d.m d.s (d.t.x + x) real c)
 | 0, h => absurd h (by omega)
 | k + 1, h => by
  unfold rowP
  have hl := zk9 d real k
  by_cases hx : x < k
  ·have h1 : x * d.m.c.toNat + c < (rowP d real k).length := by
    rw [hl]
    have : (x + 1) * d.m.c.toNat ≤ k * d.m.c.toNat := Nat.mul_le_mul_right _ hx
    rw [Nat.add_mul, Nat.one_mul] at this
    omega
   have := rowP_get d real hc hx
   rw [List.getD_eq_getElem?_getD] at this ⊢
   rw [List.getElem?_append_left h1]
   exact this
  ·have hxk : x = k := by omega
   subst hxk
   rw [List.getD_eq_getElem?_getD, List.getElem?_append_right (by omega), hl, Nat.add_sub_cancel_left]
   unfold colZ
   simp [hc]
theorem c_filter {j : Int} (J : JobAt Z M h bj bf vf bt vt p q rv d y n room w rs) (W : d.Wf) (hj : I64 j) (hs : d.t.w ≤ 300) :
  FCall prog zdj #[ptr bj, .int .i64 j] h fun r h' => ∃ M', JobAt Z M' h' bj bf vf bt vt p q rv d y n room w (putR room w rs j (rowZ d j)) ∧ Fr M h h' ∧ ∀ k, M' k → M k ∨ h.size ≤ k := by
 apply zjd
 unfold zeP
 have hf := zbs W.m.fits
 have hb := JobD.bd W
 have hw1 := W.w1
 have hx0 := W.x0
 simp only [go_sem, Nat.zero_add]
 refine zan (fun h' => h' = h) rfl ?_
 refine zaf (.int .i64 d.s.border) (fun h' e => by rw [e]; exact J.c4 (Ext.refl _)) ?_
 refine zaf (ptr bf) (fun h' e => by rw [e]; exact J.c0 (Ext.refl _)) ?_
 refine (zhh J.src).mono fun r h1 ⟨e, wq⟩ => ?_
 have wq := wq.symm
 subst e wq
 refine ⟨rfl, ?_⟩
 refine (zi5 hj).mono fun r h1 ⟨e, wq⟩ => ?_
 have wq := wq.symm
 subst e wq
 simp only [go_sem, Nat.zero_add, J.c8 (Ext.refl _)]
 unfold rowZ
 generalize atZ d.s.border j d.m.h = real
 obtain ⟨N, hN⟩ : ∃ N : Nat, d.t.w = (N : Int) := ⟨d.t.w.toNat, by omega⟩
 rw [hN, Int.toNat_natCast]
 have hC : d.m.c.toNat ≤ 3 := by omega
 have hlen : ∀ k, k ≤ N → (rowP d real k).length ≤ 900 := fun k hk => by
  rw [zk9]
  have := Nat.mul_le_mul (show k ≤ 300 by omega) hC
  omega
 refine zaD (α := Value) N 0 (fun k u => [u, .int .i64 (k : Int)]) (fun k u h' => New (Rp.int .i64) h h' u (rowP d real k)) (.slice none 0 0) rfl (Nat.zero_le _) (New.nil (Ext.refl _)) fun k u h2 again ρ1 _ hk Nw Hag => ?_
 simp only [go_sem]
 refine zab (fun h3 => ?_) (fun h3 => ?_)
 ·simp only [go_sem, Nat.zero_add, J.c6 Nw.2.1]
  rw [w64 (n := d.t.x + (k : Int)) (by omega) (by omega)]
  refine (c_across J W Nw (by have := hlen k hk; omega)).mono fun r h4 N4 => ?_
  rw [w64 (by omega) (by omega)]
  exact Hag r h4 (by omega) N4
 ·have hkN : k = N := by omega
  subst hkN
  have J2 := J.ext Nw.2.1
  simp only [go_sem, Nat.zero_add, J.c15 Nw.2.1]
  have hin : Ints h2 u (rowP d real k) := by
   obtain ⟨a, cap, e⟩ := Nw.isSl
   refine ⟨a, cap, e, ?_⟩
   have o := (ow_own Nw.1).sl
   obtain ⟨_, a', c', e', ho⟩ := o
   rw [e] at e'
   cases e'
   rcases ho with ho | ⟨b, o, ha, ho⟩
   ·left; simpa using ho
   ·refine .inr ⟨b, o, ha, fun i hi => ?_⟩
    have := ho i (by simpa using hi)
    rw [this, List.getElem_map]
    rfl
  refine (c_RPut J2.ring (by unfold I64 at hj; exact wf64 hj.1 hj.2) hin (by have := hlen k hk; omega) fun b hb hm => ?_).mono fun r h5 ⟨e, M', R', f', m'⟩ => ?_
  ·have h6 := Nw.2.2 b hb
   have h7 := J.ring.lt hm
   omega
  have lt : ∀ c, c < h.size → ¬ M c → ¬ M' c := fun c hc hm hm' => by
   rcases m' c hm' with h6 | h6
   ·exact hm h6
   ·have := Nw.2.1.1; omega
  have zl := J.zl
  have zM : ∀ c, Z c → ¬ M c := fun c hc => (J.zz c hc).1
  refine ⟨M', ⟨f'.row J2.row J.mj.1, J2.src.fr f' (zM _ J.zf.1) fun c hc => zM _ (J.zf.2 c hc), J2.tx.fr f' fun c _ hz => zM c hz, J2.ty.fr f' fun c _ hz => zM c hz, R', J2.out.fr f' J.mj.2.1 J.mj.2.2, J.zf,
   fun c hz => ⟨lt c (zl c hz) (zM c hz), (J.zz c hz).2⟩, ⟨lt _ (zay J.row) J.mj.1, lt _ J.out.lt J.mj.2.1, fun c hc => lt c (J.out.ltv hc) (J.mj.2.2 c hc)⟩, J.jt, J.y0, J.y1, fun c hc => ?_⟩, Nw.2.1.fr.trans f', fun k hk => ?_⟩
  ·have h6 := zl c hc
   have h7 := Nw.2.1.1
   have h8 := f'.1
   omega
  ·rcases m' k hk with h6 | h6
   ·exact .inl h6
   ·exact .inr (Nat.le_trans Nw.2.1.1 h6)
end
end
section
structure OutOk (d : JobD) (n : Pic) : Prop where
 wf : n.Wf
 w : n.w = d.s.x.lines.length
 h : n.h = d.s.y.lines.length
 c : n.c = d.m.c
 m : n.most = d.m.most
section
variable {Z M : Nat → Prop} {h : Heap} {bj bf : Nat} {vf : Value} {bt : Nat} {vt p q rv : Value} {d : JobD} {y : Int} {n : Pic} {room w : Nat} {rs : List (Int × List Int)}
theorem JobAt.set {h' : Heap} {n' : Pic} (J : JobAt Z M h bj bf vf bt vt p q rv d y n room w rs) (f : Fr (blk vt) h h') (I : IsImg h' bt vt n') : JobAt Z M h' bj bf vf bt vt p q rv d y n' room w rs :=
 ⟨f.row J.row J.jt.2, J.src.fr f (J.zz _ J.zf.1).2.2 fun c hc => (J.zz _ (J.zf.2 c hc)).2.2, J.tx.fr f fun c _ hz => (J.zz c hz).2.2, J.ty.fr f fun c _ hz => (J.zz c hz).2.2, J.ring.fr f fun c _ hm hv => J.mj.2.2 c hv hm, I, J.zf, J.zz, J.mj, J.jt, J.y0, J.y1,
  fun c hc => Nat.lt_of_lt_of_le (J.zl c hc) f.1⟩
def wrote (d : JobD) (y : Int) (i : Int) (x' y' c' : Int) : Prop := y' = y ∧ d.t.x ≤ x' ∧ x' < d.t.x + d.t.w ∧ (x' - d.t.x) * d.m.c + c' < i
instance (d : JobD) (y i x' y' c' : Int) : Decidable (wrote d y i x' y' c') := by unfold wrote; infer_instance
theorem c_write (J : JobAt Z M h bj bf vf bt vt p q rv d y n room w rs) (W : d.Wf) (O : OutOk d n) (hs : d.t.w ≤ 300) (hy : y < d.t.y + d.t.h) (hw : (w : Int) = d.t.w * d.m.c)
  (hold : ∀ k : Nat, k < (lineT d.s.y y).2.length → kGet ((lineT d.s.y y).1 + (k : Int)) rs = some (rowZ d ((lineT d.s.y y).1 + (k : Int)))) :
  FCall prog zdN #[ptr bj] h fun r h' => ∃ n', JobAt Z M h' bj bf vf bt vt p q rv d (y + 1) n' room w rs ∧ OutOk d n' ∧ (∀ x' y' c', inP n x' y' c' → atP n' x' y' c' = if wrote d y w x' y' c' then pixZ d.m d.s x' y' c' else atP n x' y' c') ∧ Fr (fun c => blk vt c ∨ c = bj) h h' := by
 apply zjZ
 unfold zfp
 have hf := zbs W.m.fits
 have hb := JobD.bd W
 have hw1 := W.w1
 have hx0 := W.x0
 have hy0 := W.y0
 refine (c_jobLine J W).mono fun r h1 ⟨u, e, S, e1⟩ => ?_
 subst e
 have hl := zfG W.s.y y
 refine za1 (cs := [.int .i64 (lineT d.s.y y).1, u]) rfl (zad rfl (zad S.one zao)) rfl fun b2 h2 r2 e2 n2 => ?_
 have E2 := e1.trans e2
 have S2 := S.ext e2
 obtain ⟨au, cu, eu⟩ := S.isSl
 have eu2 : zag u = some (.int .i64 ((lineT d.s.y y).2.length : Int)) := by rw [eu]; rfl
 have htot : ∀ x c, sumN (fun k => (lineT d.s.y y).2.getD k 0 * zgy d.m d.s x (atZ d.s.border ((lineT d.s.y y).1 + k) d.m.h) c) (lineT d.s.y y).2.length = totZ d.m d.s x y c := fun x c => rfl
 generalize lineT d.s.y y = L at *
 obtain ⟨C, hC⟩ : ∃ C : Nat, d.m.c = (C : Int) := ⟨d.m.c.toNat, by omega⟩
 have hC3 : 1 ≤ C ∧ C ≤ 3 := by omega
 obtain ⟨Wn, hWn⟩ : ∃ Wn : Nat, d.t.w = (Wn : Int) := ⟨d.t.w.toNat, by omega⟩
 have hwn : w = Wn * C := by
  rw [hWn, hC] at hw
  exact_mod_cast hw
 have hwb : w ≤ 900 := by
  rw [hwn]
  have := Nat.mul_le_mul (show Wn ≤ 300 by omega) hC3.2
  omega
 simp only [go_sem, Nat.zero_add, J.c15 E2]
 refine (c_RWidth (J.ring.ext E2)).mono fun r h3 ⟨e, wq⟩ => ?_
 have wq := wq.symm
 subst e wq
 refine zl3 rfl (by omega) (by omega) fun sv h3 o3 e3 n3 => ?_
 have E3 := E2.trans e3
 have c1 : zah h3 ⟨b2, 1, none⟩ = some u := zac (e3.row r2)
 simp only [go_sem, Nat.zero_add, c1, eu2]
 -- the sums
 obtain ⟨g, hg⟩ : ∃ g : Nat → Nat → Int, g = fun k i => sumN (fun k => L.2.getD k 0 * zgy d.m d.s (d.t.x + ((i / C : Nat) : Int)) (atZ d.s.border (L.1 + k) d.m.h) ((i % C : Nat) : Int)) k := ⟨_, rfl⟩
 refine zaD (α := Unit) L.2.length 0 (fun k _ => [.int .i64 (k : Int)]) (fun k _ h' => Ext h2 h' ∧ Own 1 h' sv w ((List.range w).map fun i => Value.int .i64 (IntKind.i64.wrap (g k i)))) () rfl (Nat.zero_le _)
  ⟨e3, by
   rw [zqt] at o3
   rw [← zaw (g := fun i => Value.int .i64 ((fun _ => 0 : Nat → Int) i)) fun i _ => by rw [hg]; rfl]
   exact o3⟩ fun k _ h4 again ρ1 _ hk ⟨E4, o4⟩ Hag => ?_
 have E04 := E2.trans E4
 simp only [go_sem]
 refine zab (fun h5 => ?_) (fun h5 => ?_)
 ·have hk' : k < L.2.length := by omega
  obtain ⟨pk, k1, k2⟩ := (S2.ext E4).int_at (k' := .i64) hk'
  have eb : L.2.getD k 0 = L.2[k] := by simp [List.getD_eq_getElem?_getD, hk']
  rw [k1, zaa, k2, zaa, ← eb]
  refine zan (fun h' => h' = h4) rfl ?_
  try simp only [go_sem, Nat.zero_add]
  refine zaf rv (fun h' e => by rw [e]; exact J.c15 E04) ?_
  refine zaf (.int .i64 L.1) (fun h' e => by rw [e]; exact zac (E4.row r2)) ?_
  simp only [go_sem]
  rw [w64 (n := L.1 + (k : Int)) (by omega) (by omega)]
  refine (c_RRow (J.ring.ext E04) (L.1 + (k : Int))).mono fun r h5 ⟨v, e, ov, e5, nv⟩ => ?_
  subst e
  rw [hold k hk'] at ov
  have ov : OwnI h5 v (rowZ d (L.1 + (k : Int))) := ov
  have hrl : (rowZ d (L.1 + (k : Int))).length = w := by
   unfold rowZ
   rw [zk9, hWn, hC, Int.toNat_natCast, Int.toNat_natCast, hwn]
  have Sv := zpI (k := .i64) ov
  obtain ⟨av, cv, ev⟩ := Sv.isSl
  have ev2 : zag v = some (.int .i64 (w : Int)) := by rw [ev, hrl]; rfl
  simp only [go_sem, ev2]
  have o5 := o4.fr (M := fun _ => False) e5.fr fun _ _ => id
  have hrow : ∀ i, i < w → (rowZ d (L.1 + (k : Int))).getD i 0 = IntKind.i64.wrap (zgy d.m d.s (d.t.x + ((i / C : Nat) : Int)) (atZ d.s.border (L.1 + (k : Int)) d.m.h) ((i % C : Nat) : Int)) := fun i hi => by
   have h6 : i % C < C := Nat.mod_lt _ (by omega)
   have h7 : i / C < Wn := by rw [Nat.div_lt_iff_lt_mul (by omega), ← hwn]; exact hi
   have h8 := rowP_get d (atZ d.s.border (L.1 + (k : Int)) d.m.h) (x := i / C) (c := i % C) (by rw [hC, Int.toNat_natCast]; exact h6) (k := Wn) h7
   rw [hC, Int.toNat_natCast, Nat.mul_comm, Nat.div_add_mod] at h8
   unfold rowZ
   rw [hWn, Int.toNat_natCast]
   exact h8
  have hdis : ∀ c, blk sv c → ¬ blk v c := fun c hc hv => by
   have := nv c hv
   have := o4.lt hc
   omega
  refine zaD (α := Unit) w 0 (fun i _ => [.int .i64 (i : Int)]) (fun i _ h' => Ext h2 h' ∧ Rp.Sl (Rp.int .i64) (blk v) h' v (rowZ d (L.1 + (k : Int))) ∧ Own 1 h' sv w ((List.range w).map fun j => Value.int .i64 (IntKind.i64.wrap (if j < i then g (k + 1) j else g k j)))) () rfl (Nat.zero_le _)
   ⟨E4.trans e5, Sv, by
    rw [← zaw (g := fun i => Value.int .i64 (IntKind.i64.wrap (g k i))) fun i _ => by rw [if_neg (by omega)]]
    exact o5⟩ fun i _ h6 again2 ρ2 _ hi ⟨E6, Sv6, o6⟩ Hag2 => ?_
  simp only [go_sem]
  refine zab (fun h7 => ?_) (fun h7 => ?_)
  ·have hi' : i < w := by omega
   obtain ⟨pv, v1, v2⟩ := Sv6.int_at (k' := .i64) (i := i) (by omega)
   have ev' : (rowZ d (L.1 + (k : Int)))[i]'(by omega) = (rowZ d (L.1 + (k : Int))).getD i 0 := by simp [List.getD_eq_getElem?_getD, show i < (rowZ d (L.1 + (k : Int))).length by omega]
   rw [ev', hrow i hi'] at v2
   obtain ⟨ps, s1, s2, s3⟩ := Own.at_map o6 (k := .i64) hi'
   simp only [go_sem, v1, v2, s1, s2]
   rw [if_neg (by omega), ziU, zkr]
   have hgk : g k i + L.2.getD k 0 * zgy d.m d.s (d.t.x + ((i / C : Nat) : Int)) (atZ d.s.border (L.1 + (k : Int)) d.m.h) ((i % C : Nat) : Int) = g (k + 1) i := by rw [hg]; rfl
   rw [hgk]
   refine s3 _ _ fun h8 o8 f8 => ?_
   rw [w64 (by omega) (by omega)]
   refine Hag2 () h8 hi' ⟨E6.then_fr f8 fun c hc => n3 c hc, Sv6.fr f8 fun c _ hz hs => hdis c hs hz, ?_⟩
   rw [← zaw (g := fun j => Value.int .i64 (if j = i then IntKind.i64.wrap (g (k + 1) i) else IntKind.i64.wrap (if j < i then g (k + 1) j else g k j))) fun j _ => by
    congr 1
    by_cases h1 : j = i
    ·rw [if_pos h1, if_pos (by omega), h1]
    ·rw [if_neg h1]
     by_cases h2 : j < i
     ·rw [if_pos h2, if_pos (by omega)]
     ·rw [if_neg h2, if_neg (by omega)]]
   exact o8
  ·have hiw : i = w := by omega
   subst hiw
   rw [w64 (by omega) (by omega)]
   refine Hag () h6 (by omega) ⟨E6, ?_⟩
   rw [← zaw (g := fun j => Value.int .i64 (IntKind.i64.wrap (if j < i then g (k + 1) j else g k j))) fun j hj => by rw [if_pos hj]]
   exact o6
 have hkL : k = L.2.length := by omega
 subst hkL
 have J4 := J.ext E04
 have o4' : Own 1 h4 sv w ((List.range w).map fun i => Value.int .i64 (IntKind.i64.wrap (totZ d.m d.s (d.t.x + ((i / C : Nat) : Int)) y ((i % C : Nat) : Int)))) := by
  rw [← zaw (g := fun i => Value.int .i64 (IntKind.i64.wrap (g L.2.length i))) fun i _ => by rw [hg]; rw [← htot]]
  exact o4
 have hdv : ∀ c, blk sv c → ¬ blk vt c := fun c hc hv => by
  have h6 := n3 c hc
  have h7 := J.out.ltv hv
  have h8 := E2.1
  omega
 obtain ⟨asv, csv, es⟩ := o4'.isSl
 have es2 : zag sv = some (.int .i64 (w : Int)) := by rw [es]; rfl
 simp only [go_sem, Nat.zero_add, J.c1 E04]
 refine (zbV J4.out).mono fun r h5 ⟨e, wq⟩ => ?_
 have wq := wq.symm
 subst e wq
 rw [O.c, hC]
 simp only [go_sem, es2]
 refine zaD (α := Pic) w 0 (fun i _ => [.int .i64 (i : Int)]) (fun i n' h' => JobAt Z M h' bj bf vf bt vt p q rv d y n' room w rs ∧ OutOk d n' ∧ (∀ x' y' c', inP n x' y' c' → atP n' x' y' c' = if wrote d y i x' y' c' then pixZ d.m d.s x' y' c' else atP n x' y' c') ∧
   Own 1 h' sv w ((List.range w).map fun i => Value.int .i64 (IntKind.i64.wrap (totZ d.m d.s (d.t.x + ((i / C : Nat) : Int)) y ((i % C : Nat) : Int)))) ∧ Fr (blk vt) h4 h') n rfl (Nat.zero_le _)
  ⟨J4, O, fun x' y' c' hi => by
   rw [if_neg]
   unfold wrote inP at *
   rintro ⟨a1, a2, a3, a4⟩
   have := Int.mul_nonneg (show 0 ≤ x' - d.t.x by omega) (show 0 ≤ d.m.c by omega)
   omega, o4', Fr.refl _ _⟩ fun i n' h6 again ρ3 _ hi ⟨J6, O6, A6, o6, f6⟩ Hag => ?_
 simp only [go_sem]
 refine zab (fun h7 => ?_) (fun h7 => ?_)
 ·have hi' : i < w := by omega
  obtain ⟨ps, s1, s2, _⟩ := Own.at_map o6 (k := .i64) hi'
  simp only [go_sem, s1, s2]
  refine zan (fun h' => h' = h6) rfl ?_
  try simp only [go_sem, Nat.zero_add]
  refine zaf (ptr bt) (fun h' e => by rw [e]; exact J6.c1 (Ext.refl _)) ?_
  refine zaf (.int .i64 d.t.x) (fun h' e => by rw [e]; exact J6.c6 (Ext.refl _)) ?_
  rw [zek _ _ _ _ (by omega), zaa, Int.tdiv_eq_ediv_of_nonneg (by omega), show (i : Int) / (C : Int) = ((i / C : Nat) : Int) by omega]
  have hdiv : i / C < Wn := by rw [Nat.div_lt_iff_lt_mul (by omega), ← hwn]; exact hi'
  have hmod : i % C < C := Nat.mod_lt _ (by omega)
  have hdm := Nat.div_add_mod i C
  have hdmi : ((i / C : Nat) : Int) * (C : Int) + ((i % C : Nat) : Int) = (i : Int) := by
   rw [← Int.natCast_mul, Nat.mul_comm]; omega
  have hrem : (i : Int) % (C : Int) = ((i % C : Nat) : Int) := by omega
  have hdom := A6
  generalize hqd : i / C = qd at *
  generalize hrd : i % C = rd at *
  simp only [go_sem]
  rw [w64 (n := (qd : Int)) (by omega) (by omega), w64 (n := d.t.x + (qd : Int)) (by omega) (by omega)]
  refine zaf (.int .i64 y) (fun h' e => by rw [e]; exact J6.c16 (Ext.refl _)) ?_
  rw [za8 _ _ _ _ (by omega), zaa, Int.tmod_eq_emod_of_nonneg (by omega), hrem]
  refine zaf (ptr bt) (fun h' e => by rw [e]; exact J6.c1 (Ext.refl _)) ?_
  refine (zfJ J6.out).mono fun r h8 ⟨e, wq⟩ => ?_
  have wq := wq.symm
  subst e wq
  refine ⟨rfl, ?_⟩
  refine (c_Round (zcN _)).mono fun r h8 ⟨e, wq⟩ => ?_
  have wq := wq.symm
  subst e wq
  refine ⟨rfl, ?_⟩
  have hm1 := W.m.m1
  have hm2 := W.m.m2
  rw [O6.m]
  have hr := roundZ_bd (IntKind.i64.wrap (totZ d.m d.s (d.t.x + (qd : Int)) y (rd : Int))) (most := d.m.most) (by omega)
  refine (c_Set J6.out O6.wf hr.1 hr.2.1).mono fun r h8 ⟨e, I8, f8, s8⟩ => ?_
  subst e
  have hxw := W.xw
  have hyh := W.yh
  have hyJ := J.y0
  have hin : inP n' (d.t.x + (qd : Int)) y (rd : Int) := ⟨by omega, by rw [O6.w]; omega, by omega, by rw [O6.h]; omega, by omega, by rw [O6.c]; omega⟩
  have hset : inP n' (d.t.x + (qd : Int)) y (rd : Int) ∧ zhU (IntKind.i64.wrap (totZ d.m d.s (d.t.x + (qd : Int)) y (rd : Int))) d.m.most ≤ n'.most := ⟨hin, by rw [O6.m]; omega⟩
  rw [if_pos hset] at I8
  try simp only [go_sem]
  rw [w64 (by omega) (by omega)]
  refine Hag _ h8 hi' ⟨J6.set f8 I8, ⟨setP_Wf O6.wf hr.1 hset.2, O6.w, O6.h, O6.c, O6.m⟩, fun x' y' c' hip => ?_, o6.fr f8 hdv, f6.trans f8⟩
  rw [atP_setP O6.wf hin, A6 x' y' c' hip]
  by_cases he : x' = d.t.x + (qd : Int) ∧ y' = y ∧ c' = (rd : Int)
  ·rw [if_pos he]
   obtain ⟨rfl, rfl, rfl⟩ := he
   rw [if_pos]
   ·rfl
   ·refine ⟨rfl, by omega, by omega, ?_⟩
    rw [hC, show d.t.x + (qd : Int) - d.t.x = (qd : Int) by omega]
    omega
  ·rw [if_neg he]
   have hiff : wrote d y ((i + 1 : Nat) : Int) x' y' c' ↔ wrote d y (i : Int) x' y' c' := by
    unfold wrote
    constructor
    ·rintro ⟨a1, a2, a3, a4⟩
     refine ⟨a1, a2, a3, ?_⟩
     rcases Int.lt_or_le ((x' - d.t.x) * d.m.c + c') i with h9 | h9
     ·exact h9
     ·exfalso
      have heq : (x' - d.t.x) * d.m.c + c' = (qd : Int) * d.m.c + (rd : Int) := by rw [hC] at *; omega
      have hc0 := hip.2.2.2.2
      have hc1 := O.c
      obtain ⟨b1, b2⟩ := zlK heq hc0.1 (by omega) (by omega) (by omega)
      exact he ⟨by omega, a1, b2⟩
    ·rintro ⟨a1, a2, a3, a4⟩
     exact ⟨a1, a2, a3, by omega⟩
   by_cases hwr : wrote d y (i : Int) x' y' c'
   ·rw [if_pos hwr, if_pos (hiff.2 hwr)]
   ·rw [if_neg hwr, if_neg fun hh => hwr (hiff.1 hh)]
 ·have hiw : i = w := by omega
  subst hiw
  simp only [go_sem, Nat.zero_add, J6.c16 (Ext.refl _)]
  have hyJ := J.y0
  rw [w64 (n := y + 1) (by omega) (by omega)]
  refine zaO J6.row (by simp [jobC, tileC]) rfl fun h8 r8 u8 => ?_
  have r8 : h8[bj]? = some (.cells (jobC bf bt p q rv d (y + 1)).toArray 156 (0, 0)) := r8
  have bjz : ∀ c, Z c → ¬ c = bj := fun c hc => (J6.zz c hc).2.1
  refine ⟨n', ⟨r8, J6.src.fr u8.fr (bjz _ J6.zf.1) fun c hc => bjz _ (J6.zf.2 c hc), J6.tx.fr u8.fr fun c _ hz => bjz c hz, J6.ty.fr u8.fr fun c _ hz => bjz c hz, J6.ring.fr u8.fr fun c _ hm he => J6.mj.1 (he ▸ hm), J6.out.fr u8.fr (Ne.symm J6.jt.1) fun c hc he => J6.jt.2 (he ▸ hc), J6.zf, J6.zz, J6.mj, J6.jt, by omega, by omega,
   fun c hc => by rw [u8.1]; exact J6.zl c hc⟩, O6, A6, ?_⟩
  exact ((E04.fr (M := fun c => blk vt c ∨ c = bj)).trans (f6.mono fun c _ hc => .inl hc)).trans (u8.fr.mono fun c _ hc => .inr hc)
end
end
end Go.Proofs.YtdbebmafgpdfhaaGreatDoor
namespace Go.Proofs.YtdbebmafgpdfhaaGreatDoor
open Go Go.Crisp
theorem zj7 : ∀ (k : Nat) (l : List Nat), l.Nodup → (∀ x ∈ l, x < k) → l.length ≤ k
 | 0, [], _, _ => by simp
 | 0, x :: _, _, h => absurd (h x (by simp)) (by omega)
 | k + 1, l, hn, h => by
  by_cases hk : k ∈ l
  ·have h1 := zj7 k (l.erase k) (hn.erase k) fun x hx => by
    have h2 := h x (List.mem_of_mem_erase hx)
    have h3 : x ≠ k := fun e => by rw [e] at hx; exact (List.Nodup.not_mem_erase hn) hx
    omega
   rw [List.length_erase_of_mem hk] at h1
   omega
  ·have := zj7 k l hn fun x hx => by
    have h2 := h x hx
    have h3 : x ≠ k := fun e => hk (e ▸ hx)
    omega
   omega
theorem nodup_range {l : List Int} {a b : Int} (hn : l.Nodup) (h : ∀ x ∈ l, a ≤ x ∧ x < b) : (l.length : Int) ≤ max 0 (b - a) := by
 have h1 : (l.map fun x => (x - a).toNat).Nodup := by
  rw [List.nodup_iff_pairwise_ne, List.pairwise_map]
  have h2 := (List.nodup_iff_pairwise_ne.1 hn)
  refine List.Pairwise.imp_of_mem ?_ h2
  intro x y hx hy hne he
  have := h x hx
  have := h y hy
  omega
 have h3 := zj7 (b - a).toNat _ h1 fun x hx => by
  obtain ⟨z, hz, rfl⟩ := List.mem_map.1 hx
  have := h z hz
  omega
 rw [List.length_map] at h3
 omega
theorem kGet_snoc {α : Type} (j i : Int) (v : α) : ∀ kv : List (Int × α), kGet i (kv ++ [(j, v)]) = match kGet i kv with | some u => some u | none => if i = j then some v else none
 | [] => by
  simp only [List.nil_append, kGet]
  by_cases h : j = i
  ·subst h; simp
  ·rw [if_neg h, if_neg (Ne.symm h)]
 | (k, u) :: kv => by
  simp only [List.cons_append, kGet]
  by_cases h : k = i
  ·rw [if_pos h, if_pos h]
  ·rw [if_neg h, if_neg h]
   exact kGet_snoc j i v kv
theorem ziE : ∀ (l : List Int) (a : Int), l.foldl min a ≤ a ∧ ∀ x ∈ l, l.foldl min a ≤ x
 | [], a => ⟨Int.le_refl _, fun x hx => absurd hx (by simp)⟩
 | y :: l, a => by
  have h := ziE l (min a y)
  rw [List.foldl_cons]
  refine ⟨by have := h.1; omega, fun x hx => ?_⟩
  rcases List.mem_cons.1 hx with rfl | hx
  ·have := h.1; omega
  ·exact h.2 x hx
theorem minL_le {l : List Int} {x : Int} (h : x ∈ l) : minL l ≤ x := by
 cases l with
 | nil => simp at h
 | cons y l =>
  rcases List.mem_cons.1 h with rfl | h
  ·exact (ziE l _).1
  ·exact (ziE l y).2 x h
structure Held (row : Int → List Int) (rs : List (Int × List Int)) (F e : Int) : Prop where
 nd : (rs.map Prod.fst).Nodup
 inn : ∀ j, F ≤ j → j < e → kGet j rs = some (row j)
 lt : ∀ x ∈ rs.map Prod.fst, x < e
theorem Held.none {row : Int → List Int} {rs : List (Int × List Int)} {F e : Int} (H : Held row rs F e) {j : Int} (hj : e ≤ j) : kGet j rs = none := zfH.2 fun hm => by have := H.lt j hm; omega
theorem Held.start (row : Int → List Int) (F : Int) : Held row [] F F := ⟨by simp, fun j h1 h2 => absurd h2 (by omega), by simp⟩
theorem Held.move {row : Int → List Int} {rs : List (Int × List Int)} {F e F' : Int} (H : Held row rs F e) (hF : F ≤ F') : Held row rs F' (max e F') :=
 ⟨H.nd, fun j h1 h2 => H.inn j (by omega) (by omega), fun x hx => by have := H.lt x hx; omega⟩
theorem Held.next {row : Int → List Int} {rs : List (Int × List Int)} {F e E n : Int} {is : Bool} (H : Held row rs F e) (h1 : F ≤ e) (h2 : e ≤ E) (hn : zqf rs F E n is) : (e < E ∧ is = true ∧ n = e) ∨ (e = E ∧ is = false ∧ n = 0) := by
 rcases hn with ⟨rfl, a1, a2, a3, a4⟩ | ⟨rfl, rfl, a4⟩
 ·left
  have h3 : ¬ n < e := fun h => by rw [H.inn n a1 h] at a3; cases a3
  have h4 : ¬ e < n := fun h => by have := a4 e h1 h; rw [H.none (Int.le_refl _)] at this; cases this
  exact ⟨by omega, rfl, by omega⟩
 ·right
  refine ⟨?_, rfl, rfl⟩
  rcases Int.lt_or_le e E with h | h
  ·have := a4 e h1 h; rw [H.none (Int.le_refl _)] at this; cases this
  ·omega
theorem Held.put {row : Int → List Int} {rs : List (Int × List Int)} {F e E : Int} {room w : Nat} (H : Held row rs F e) (h1 : F ≤ e) (h2 : e < E) (hr : E - F ≤ room) (hr1 : 1 ≤ room) (hl : rs.length ≤ room) (hw : (row e).length = w) :
  Held row (putR room w rs e (row e)) F (e + 1) ∧ (putR room w rs e (row e)).length ≤ room := by
 have hnone := H.none (Int.le_refl e)
 have hlen : (rs.map Prod.fst).length = rs.length := by simp
 have hmin : fullB room rs = true → minL (rs.map Prod.fst) ∈ rs.map Prod.fst := fun hf => minL_mem fun h0 => by
  have : rs.length = 0 := by rw [← hlen, h0]; rfl
  unfold fullB at hf
  have := of_decide_eq_true hf
  omega
 have hok : putOk room w rs e (row e) = true := by
  unfold putOk
  rw [hnone, decide_eq_true hw]
  by_cases hf : fullB room rs = true
  ·have := H.lt _ (hmin hf)
   rw [hf, decide_eq_false (show ¬ e < minL (rs.map Prod.fst) by omega)]
   rfl
  ·have hf : fullB room rs = false := by simpa using hf
   rw [hf]; rfl
 unfold putR
 rw [if_pos hok]
 -- what is left of the rows
 have key : ((zeH room rs).map Prod.fst).Nodup ∧ (∀ x ∈ (zeH room rs).map Prod.fst, x < e) ∧ (∀ j, F ≤ j → j < e → kGet j (zeH room rs) = some (row j)) ∧ (zeH room rs).length + 1 ≤ room := by
  unfold zeH
  by_cases hf : fullB room rs = true
  ·rw [if_pos hf]
   have hm := hmin hf
   have hfl : room ≤ rs.length := of_decide_eq_true hf
   have hmF : minL (rs.map Prod.fst) < F := by
    rcases Int.lt_or_le (minL (rs.map Prod.fst)) F with h | h
    ·exact h
    ·have hall : ∀ x ∈ rs.map Prod.fst, F ≤ x ∧ x < e := fun x hx => by
      have h3 : minL (rs.map Prod.fst) ≤ x := minL_le hx
      have := H.lt x hx
      omega
     have := nodup_range H.nd hall
     rw [hlen] at this
     omega
   have hsub : (kDel (minL (rs.map Prod.fst)) rs).Sublist rs := zrk
   have hg : ∃ v, kGet (minL (rs.map Prod.fst)) rs = some v := by
    cases hg : kGet (minL (rs.map Prod.fst)) rs with
    | none => exact absurd hm (zfH.1 hg)
    | some v => exact ⟨v, rfl⟩
   obtain ⟨v, hg⟩ := hg
   have hdl := znp hg
   refine ⟨(hsub.map Prod.fst).nodup H.nd, fun x hx => H.lt x ((hsub.map Prod.fst).subset hx), fun j j1 j2 => ?_, by omega⟩
   rw [zno H.nd, if_neg (by omega)]
   exact H.inn j j1 j2
  ·rw [if_neg hf]
   have : ¬ room ≤ rs.length := fun h => hf (decide_eq_true h)
   exact ⟨H.nd, H.lt, H.inn, by omega⟩
 obtain ⟨k1, k2, k3, k4⟩ := key
 refine ⟨⟨?_, fun j j1 j2 => ?_, fun x hx => ?_⟩, by simp; omega⟩
 ·rw [List.map_append, List.nodup_append]
  refine ⟨k1, by simp, fun a ha b hb he => ?_⟩
  have := k2 a ha
  simp at hb
  omega
 ·rw [kGet_snoc]
  by_cases hj : j < e
  ·rw [k3 j j1 hj]
  ·have hje : j = e := by omega
   subst hje
   have : kGet j (zeH room rs) = Option.none := zfH.2 fun hm => by have := k2 j hm; omega
   rw [this]
   simp
 ·rw [List.map_append] at hx
  rcases List.mem_append.1 hx with h | h
  ·have := k2 x h; omega
  ·simp at h; omega
theorem zlw {a b c : Int} (h : a ≤ b) (hc : 0 < c) : a / c ≤ b / c := Int.ediv_le_ediv hc h
theorem lowW_mono {f n m i k : Int} (hn : 1 ≤ n) (hm : 1 ≤ m) (h : i ≤ k) : lowW f n m i ≤ lowW f n m k := by
 unfold lowW
 have h1 : i * n ≤ k * n := Int.mul_le_mul_of_nonneg_right h (by omega)
 have h2 : (2 * i + 1) * n ≤ (2 * k + 1) * n := Int.mul_le_mul_of_nonneg_right (by omega) (by omega)
 split
 ·exact zlw h1 (by omega)
 ·have := zlw (a := (2 * i + 1) * n - m - zaZ f * 2 * max n m) (b := (2 * k + 1) * n - m - zaZ f * 2 * max n m) (c := 2 * m) (by omega) (by omega)
  omega
theorem highW_mono {f n m i k : Int} (hn : 1 ≤ n) (hm : 1 ≤ m) (h : i ≤ k) : highW f n m i ≤ highW f n m k := by
 unfold highW ceilD
 have h1 : (i + 1) * n ≤ (k + 1) * n := Int.mul_le_mul_of_nonneg_right (by omega) (by omega)
 have h2 : (2 * i + 1) * n ≤ (2 * k + 1) * n := Int.mul_le_mul_of_nonneg_right (by omega) (by omega)
 split
 ·have := zlw (a := -((k + 1) * n)) (b := -((i + 1) * n)) (c := m) (by omega) (by omega)
  omega
 ·have := zlw (a := -((2 * k + 1) * n - m + zaZ f * 2 * max n m)) (b := -((2 * i + 1) * n - m + zaZ f * 2 * max n m)) (c := 2 * m) (by omega) (by omega)
  omega
theorem ze1 {g : Nat → Int} : ∀ {n : Nat}, za7 g n = 0 → ∀ i, i < n → g i = 0
 | 0, _, i, h => absurd h (by omega)
 | n + 1, hz, i, h => by
  have e : za7 g (n + 1) = if za7 g n ≠ 0 then za7 g n else g n := rfl
  rw [e] at hz
  by_cases h0 : za7 g n = 0
  ·rw [if_neg (by simpa using h0)] at hz
   by_cases hi : i = n
   ·rw [hi]; exact hz
   ·exact ze1 h0 i (by omega)
  ·rw [if_pos h0] at hz
   exact absurd hz h0
abbrev lnF (t : Tbl) (y : Int) : Int := (lineT t y).1
abbrev lnE (t : Tbl) (y : Int) : Int := (lineT t y).1 + ((lineT t y).2.length : Int)
structure zmh (t : Tbl) : Prop where
 f : ∀ i k : Int, 0 ≤ i → i ≤ k → k < t.lines.length → lnF t i ≤ lnF t k
 e : ∀ i k : Int, 0 ≤ i → i ≤ k → k < t.lines.length → lnE t i ≤ lnE t k
 m : ∀ i : Int, (((lineT t i).2.length : Nat) : Int) ≤ mostL t.lines
theorem lineT_at {n : Int} {N : Nat} {g : Nat → Int × List Int} {i : Int} (h0 : 0 ≤ i) (h1 : i < N) : lineT ⟨n, (List.range N).map g⟩ i = g i.toNat := by
 unfold lineT
 rw [if_pos h0]
 have : i.toNat < N := by omega
 simp [List.getD_eq_getElem?_getD, this]
theorem zq8 : ∀ (ls : List (Int × List Int)) (a : Int), a ≤ ls.foldl (fun m x => max m (x.2.length : Int)) a ∧ ∀ x ∈ ls, ((x.2.length : Nat) : Int) ≤ ls.foldl (fun m x => max m (x.2.length : Int)) a
 | [], a => ⟨Int.le_refl _, fun x hx => absurd hx (by simp)⟩
 | y :: l, a => by
  have h := zq8 l (max a (y.2.length : Int))
  rw [List.foldl_cons]
  refine ⟨by have := h.1; omega, fun x hx => ?_⟩
  rcases List.mem_cons.1 hx with rfl | hx
  ·have := h.1; omega
  ·exact h.2 x hx
theorem zon (t : Tbl) (i : Int) : (((lineT t i).2.length : Nat) : Int) ≤ mostL t.lines := by
 have h := zq8 t.lines 0
 unfold lineT
 split
 ·by_cases hi : i.toNat < t.lines.length
  ·have e : t.lines.getD i.toNat (0, []) = t.lines[i.toNat] := by simp [List.getD_eq_getElem?_getD, hi]
   rw [e]
   exact h.2 _ (List.getElem_mem hi)
  ·have e : t.lines.getD i.toNat (0, []) = (0, []) := by simp [List.getD_eq_getElem?_getD, Nat.le_of_not_lt hi]
   rw [e]; exact h.1
 ·exact h.1
theorem zgX {l : List Int} (h : za0 l = 0) : (zaF l).length = l.length := by unfold zaF; rw [if_pos h, zfd]
theorem resize_mono {f n m : Int} (hc : zbd f n m = 0) : zmh (zbG f n m) := by
 have h0 : ¬ (¬ (0 ≤ f ∧ f < 3) ∨ ¬ zaq n ∨ ¬ zaq m) := fun h => by unfold zbd at hc; rw [if_pos h] at hc; cases hc
 have hz := hc
 unfold zbd at hz
 rw [if_neg h0] at hz
 have hf : 0 ≤ f ∧ f < 3 := Decidable.of_not_not fun h => h0 (.inl h)
 have hn : zaq n := Decidable.of_not_not fun h => h0 (.inr (.inl h))
 have hm : zaq m := Decidable.of_not_not fun h => h0 (.inr (.inr h))
 unfold zaq at hn hm
 have hlen : (zbG f n m).lines.length = m.toNat := by show (List.map _ (List.range m.toNat)).length = _; rw [List.length_map, List.length_range]
 have hline : ∀ i : Int, 0 ≤ i → i < m → lineT (zbG f n m) i = (zbn f n m i, zaF (za6 f n m i)) := fun i i0 i1 => by
  have := lineT_at (n := n) (N := m.toNat) (g := fun i : Nat => (zbn f n m i, zaF (za6 f n m i))) i0 (by omega)
  rw [show ((i.toNat : Nat) : Int) = i by omega] at this
  exact this
 have hmay : ∀ i : Int, 0 ≤ i → i < m → mayR f n m i := fun i i0 i1 => ⟨hf.1, hf.2, hn.1, hn.2, hm.1, hm.2, i0, i1⟩
 have hF : ∀ i : Int, 0 ≤ i → i < m → lnF (zbG f n m) i = lowW f n m i := fun i i0 i1 => by
  unfold lnF
  rw [hline i i0 i1]
  show zbn f n m i = _
  unfold zbn
  rw [if_pos (hmay i i0 i1)]
 have hE : ∀ i : Int, 0 ≤ i → i < m → lnE (zbG f n m) i = highW f n m i := fun i i0 i1 => by
  have h1 := hF i i0 i1
  unfold lnF at h1
  unfold lnE
  rw [h1, hline i i0 i1]
  have h2 := ze1 hz i.toNat (by omega)
  rw [show ((i.toNat : Nat) : Int) = i by omega] at h2
  show lowW f n m i + (((zaF (za6 f n m i)).length : Nat) : Int) = _
  rw [zgX h2]
  unfold za6
  rw [if_pos (hmay i i0 i1)]
  unfold rowW
  rw [List.length_map, List.length_range]
  have := zql (hmay i i0 i1)
  omega
 refine ⟨fun i k i0 ik k1 => ?_, fun i k i0 ik k1 => ?_, zon _⟩
 ·rw [hlen] at k1
  rw [hF i i0 (by omega), hF k (by omega) (by omega)]
  exact lowW_mono hn.1 hm.1 ik
 ·rw [hlen] at k1
  rw [hE i i0 (by omega), hE k (by omega) (by omega)]
  exact highW_mono hn.1 hm.1 ik
theorem filter_mono (l : List Int) (n : Int) : zmh (zdi l n) := by
 have hlen : (zdi l n).lines.length = n.toNat := by show (List.map _ (List.range n.toNat)).length = _; rw [List.length_map, List.length_range]
 have hline : ∀ i : Int, 0 ≤ i → i < n.toNat → lineT (zdi l n) i = (i - (l.length / 2 : Nat), zaF l) := fun i i0 i1 => by
  have := lineT_at (n := n) (N := n.toNat) (g := fun i : Nat => ((i : Int) - (l.length / 2 : Nat), zaF l)) i0 i1
  rw [show ((i.toNat : Nat) : Int) = i by omega] at this
  exact this
 refine ⟨fun i k i0 ik k1 => ?_, fun i k i0 ik k1 => ?_, zon _⟩
 ·rw [hlen] at k1
  unfold lnF
  rw [hline i i0 (by omega), hline k (by omega) k1]
  show i - _ ≤ k - _
  omega
 ·rw [hlen] at k1
  unfold lnE
  rw [hline i i0 (by omega), hline k (by omega) k1]
  show i - ((l.length / 2 : Nat) : Int) + ((zaF l).length : Int) ≤ k - ((l.length / 2 : Nat) : Int) + ((zaF l).length : Int)
  omega
theorem makeS_mono {o : OpD} {w h : Int} (hc : makeC o w h = 0) : zmh (makeS o w h).y := by
 have ht : zcz o w h = 0 := by
  unfold makeC at hc
  split at hc
  ·cases hc
  ·exact hc
 show zmh (zbP o h)
 unfold zcz at ht
 unfold zbP
 split
 ·rename_i hk
  rw [if_pos hk] at ht
  by_cases h1 : zbd o.filter w o.w = 0
  ·rw [if_neg (by simpa using h1)] at ht
   exact resize_mono ht
  ·rw [if_pos h1] at ht
   exact absurd ht h1
 ·exact filter_mono _ _
end Go.Proofs.YtdbebmafgpdfhaaGreatDoor
