/- Several texts of this session, one behind the other, without what this claim does not need (put together by its program pack.py). Conditions: none. -/
import Derived.Test.YtojmncnelbnceaaGreatDoorMg4
set_option linter.unusedVariables false
set_option linter.unusedSimpArgs false
set_option maxRecDepth 100000
namespace Go.Proofs.YtojmncnelbnceaaGreatDoor
open Go Go.Crisp
attribute [local irreducible] FCall rowK newK stK iteK vK qK drawK gK joinK loopK mkK appK cpyK zgP zga newmK
open _root_.Go.Proofs.Tryz
theorem zmR {α : Type} {j : Int} {p : α} {es : List (Int × α)} (hg : kGet j es = some p) : (kDel j es).length + 1 = es.length := by
 have := (znX hg).length_eq
 simpa using this.symm
theorem c_drop {M : Nat → Prop} {h : Heap} {bx bm : Nat} {fr : Value} {t : TypeId} {room w : Nat} {es : List (Int × (Value × List Int))} {fv : List (Value × List Int)} (R : zlc M h bx bm fr t room w es fv []) {j : Int} {p : Value × List Int} (hg : kGet j es = some p) :
  FCall prog zeq #[.pointer (some ⟨bx, 0, none⟩), .int .i64 j] h fun _ h' => ∃ M' fr', zlc M' h' bx bm fr' t room w (kDel j es) (fv ++ [p]) [] ∧ Fr M h h' ∧ (∀ k, M' k → M k ∨ h.size ≤ k) ∧
   ∀ es0 c, h[bm]? = some (.map es0 c) → ∃ es1, h'[bm]? = some (.map es1 c) ∧ ∀ e ∈ es1, e ∈ es0 ∧ e.key ≠ .int .i64 j := by
 apply zlr
 unfold zgo
 refine zak (fun hh => hh[bx]? = some (.cells #[.int .i64 room, .int .i64 w, .map (some bm), fr] t (0, 0)) ∧ hh[bm]? = h[bm]?) ⟨R.var, rfl⟩ ?_
 try simp only [go_sem]
 refine zae fr (fun hh S => by rw [zac S.1]; rfl) ?_
 refine zae (.map (some bm)) (fun hh S => by rw [zac S.1]; rfl) ?_
 refine zae p.1 (fun hh S => by rw [zkT (R.map.row S.2), zfX, hg]; rfl) ?_
 have hmem : p ∈ es.map Prod.snd ++ fv ++ [] := by simp; exact .inl ⟨j, zqH hg⟩
 have hp := R.bag.own p hmem
 have hp1 := own_one hp.1
 refine zbZ (Rp.fill_one hp1) fun b1 h1 r1 e1 n1 => ?_
 have lbx := zaB R.var
 have lbm := R.map.lt
 refine ⟨⟨e1.row R.var, e1.2 bm lbm⟩, ?_⟩
 have S1 := Rp.SlC.single (cs := [p.1]) r1
 have hnum := R.nums
 have htot := R.tot
 simp only [List.length_nil, Nat.add_zero] at htot
 refine zmY (R.free.fr (M := fun _ => False) e1.fr fun _ _ => id) S1 (zad hp1 zaq) rfl (by omega) (by omega) fun fr' h2 o2 f2 n2 => ?_
 have v2 := f2.row (e1.row R.var) R.ap.2.1
 have m2 : h2[bm]? = h[bm]? := (f2.2 bm (Nat.lt_of_lt_of_le lbm e1.1) R.ap.2.2).trans (e1.2 bm lbm)
 refine ⟨⟨v2, m2⟩, ?_⟩
 have frbx : ∀ k, blk fr' k → k ≠ bx ∧ k ≠ bm := fun k hk => by
  rcases n2 k hk with h3 | h3
  ·exact ⟨fun h4 => R.ap.2.1 (h4 ▸ h3), fun h4 => R.ap.2.2 (h4 ▸ h3)⟩
  ·have := e1.1; exact ⟨by omega, by omega⟩
 obtain ⟨fa, fc, rfl⟩ : ∃ a c, fr' = .slice a (fv.length + 1) c := o2.isSl
 try simp only [go_sem]
 refine zbl (o := 3) v2 (by simp) rfl fun h3 r3 u3 => ?_
 have r3 : h3[bx]? = some (.cells #[.int .i64 room, .int .i64 w, .map (some bm), .slice fa (fv.length + 1) fc] t (0, 0)) := r3
 have m3 : h3[bm]? = h[bm]? := (u3.2 bm (Ne.symm R.ap.1)).trans m2
 simp only [go_sem, zac r3]
 refine del_map' (R.map.row m3) fun h4 m4 u4 d4 => ?_
 have f04 : Fr (fun k => M k) h h4 := ((e1.fr.trans (f2.mono fun k _ hk => R.inM.2.2 k hk)).trans (u3.fr.mono fun k _ hk => by rw [show k = bx from hk]; exact R.inM.1)).trans (u4.fr.mono fun k _ hk => by rw [show k = bm from hk]; exact R.inM.2.1)
 have fbx : ∀ k, M k → k < h.size := R.lt
 have hperm : (((kDel j es).map Prod.snd ++ (fv ++ [p])) ++ []).Perm (es.map Prod.snd ++ fv ++ []) := by
  have h5 := (znX hg).map Prod.snd
  rw [List.map_cons] at h5
  rw [List.append_nil, List.append_nil, ← List.append_assoc]
  exact (List.perm_append_comm (l₁ := (kDel j es).map Prod.snd ++ fv) (l₂ := [p])).trans (h5.symm.append_right fv)
 have hblk : ∀ q ∈ es.map Prod.snd ++ fv ++ [], ∀ k, blk q.1 k → k ≠ bx ∧ k ≠ bm ∧ ¬ blk fr k ∧ M k := fun q hq => (R.bag.own q hq).2.2
 have bag4 : Bag M h4 bx bm fr w (es.map Prod.snd ++ fv ++ []) := by
  refine (((R.bag.ext e1).fr f2 fun q hq k hk => (hblk q hq k hk).2.2.1).fr u3.fr fun q hq k hk => (hblk q hq k hk).1).fr u4.fr fun q hq k hk => (hblk q hq k hk).2.1
 refine ⟨fun k => M k ∨ blk (.slice fa (fv.length + 1) fc) k, .slice fa (fv.length + 1) fc, ?_, f04, fun k hk => ?_, ?_⟩
 ·exact {
   var := u4.row (fun h => R.ap.1 h) r3
   map := by rw [zqJ] at m4; exact m4
   free := by
    have := (o2.fr u3.fr fun k hk => (frbx k hk).1).fr u4.fr fun k hk => (frbx k hk).2
    rw [List.length_append, List.map_append]
    exact this
   bag := (bag4.mono (fun k hk => .inl hk) fun q hq k hk hk' => by
    rcases n2 k hk' with h5 | h5
    ·exact (hblk q hq k hk).2.2.1 h5
    ·have := R.lt k (hblk q hq k hk).2.2.2; have := e1.1; omega).perm hperm
   ap := ⟨R.ap.1, fun hk => (frbx _ hk).1 rfl, fun hk => (frbx _ hk).2 rfl⟩
   inM := ⟨.inl R.inM.1, .inl R.inM.2.1, fun k hk => .inr hk⟩
   lt := fun k hk => by
    rcases hk with hk | hk
    ·exact Nat.lt_of_lt_of_le (R.lt k hk) f04.1
    ·have := o2.lt hk; have := u3.1; have := u4.1; omega
   nums := R.nums
   keys := fun e he => R.keys e (zqI.subset he)
   len := by have := zmR hg; have := R.len; omega
   tot := by have := zmR hg; simp; omega }
 ·rcases hk with hk | hk
  ·exact .inl hk
  ·rcases n2 k hk with h5 | h5
   ·exact .inl (R.inM.2.2 k h5)
   ·exact .inr (Nat.le_trans e1.1 h5)
 ·intro es0 c hb0
  exact d4 es0 c (m3.trans hb0)
theorem Own.shrink {h : Heap} {v : Value} {n : Nat} {cs : List Value} (H : Own 1 h v n cs) (hn : 0 < n) : ∃ v', slcV 1 v none (some (.int .i64 ((n - 1 : Nat) : Int))) = some v' ∧ Own 1 h v' (n - 1) cs.dropLast ∧ (∀ k, blk v' k → blk v k) := by
 rcases H with ⟨rfl, rfl, rfl⟩ | ⟨b, cap, r, e, rfl, hc, hl, hr, hb⟩
 ·omega
 ·have hne : cs ≠ [] := fun h0 => by rw [h0] at hl; simp at hl; omega
  refine ⟨.slice (some ⟨b, 0, none⟩) (n - 1) cap, ?_, .inr ⟨b, cap, cs.getLast hne :: r, e, rfl, by omega, by simp; omega, ?_, ?_⟩, fun k hk => hk⟩
  ·have h1 : (0 : Int) ≤ ((n - 1 : Nat) : Int) ∧ ((n - 1 : Nat) : Int) ≤ (cap : Int) := by omega
   have h2 : ¬ cap = 0 := by omega
   simp only [slcV, bdV, if_pos h1, Int.toNat_natCast, if_neg h2, Option.map_some, zep, Nat.sub_zero, Nat.zero_mul, Nat.add_zero]
  ·rw [← hr]
   conv => rhs; rw [← List.dropLast_concat_getLast hne]
   simp
  ·rw [hb]
   conv => lhs; rw [← List.dropLast_concat_getLast hne]
   simp
theorem Bag.last {M : Nat → Prop} {h h' : Heap} {bx bm : Nat} {fr : Value} {w : Nat} {all : List (Value × List Int)} {u : Value} {l0 l : List Int} (B : Bag M h bx bm fr w (all ++ [(u, l0)])) (f : Fr (blk u) h h') (o : OwnI h' u l) (hl : l.length = w) : Bag M h' bx bm fr w (all ++ [(u, l)]) where
 own := fun p hp => by
  rcases List.mem_append.1 hp with hp | hp
  ·have h1 := B.own p (List.mem_append_left _ hp)
   have h2 := (List.pairwise_append.1 B.apart).2.2 p hp (u, l0) (by simp)
   exact ⟨h1.1.fr f fun k hk => h2 k hk, h1.2⟩
  ·rw [List.mem_singleton.1 hp]
   exact ⟨o, hl, (B.own (u, l0) (by simp)).2.2⟩
 apart := by
  have h1 := List.pairwise_append.1 B.apart
  refine List.pairwise_append.2 ⟨h1.1, by simp, fun a ha b hb => ?_⟩
  rw [List.mem_singleton.1 hb]
  exact h1.2.2 a ha (u, l0) (by simp)
theorem c_space {M : Nat → Prop} {h : Heap} {bx bm : Nat} {fr : Value} {t : TypeId} {room w : Nat} {es : List (Int × (Value × List Int))} {fv : List (Value × List Int)} (R : zlc M h bx bm fr t room w es fv []) (h1 : es.length < room) (h2 : es.length + fv.length ≤ room) :
  FCall prog zdQ #[.pointer (some ⟨bx, 0, none⟩)] h fun u h' => ∃ M' fr' fv' l0, zlc M' h' bx bm fr' t room w es fv' [(u, l0)] ∧ Fr M h h' ∧ (∀ k, M' k → M k ∨ h.size ≤ k) ∧ es.length + 1 + fv'.length ≤ room := by
 apply zkI
 unfold zfH
 have hnum := R.nums
 obtain ⟨fa, fc, rfl⟩ := R.free.isSl
 simp only [go_sem, zac R.var]
 refine zab (fun hp => ?_) (fun hz => ?_)
 ·have hp : 0 < fv.length := by omega
  have hsub : IntKind.i64.wrap ((fv.length : Int) - 1) = ((fv.length - 1 : Nat) : Int) := by rw [w64 (by omega) (by omega)]; omega
  obtain ⟨p, hp1, hq1⟩ := R.free.sl.at1 (k := .i64) (i := fv.length - 1) (by omega)
  obtain ⟨v', hv', ov', bv'⟩ := Own.shrink R.free hp
  rw [hsub, hp1, zaa, hq1, zaa, hv', zaa]
  have hne : fv ≠ [] := List.length_pos_iff.1 hp
  have hlast : (fv.map Prod.fst)[fv.length - 1]'(by simp; omega) = (fv.getLast hne).1 := by
   rw [List.getElem_map]; congr 1
   rw [List.getLast_eq_getElem]
  rw [hlast]
  refine zbl (o := 3) R.var (by simp) (by obtain ⟨_, _, rfl⟩ := ov'.isSl; rfl) fun h3 r3 u3 => ?_
  have r3 : h3[bx]? = some (.cells #[.int .i64 room, .int .i64 w, .map (some bm), v'] t (0, 0)) := r3
  have hdl : fv.dropLast.map Prod.fst = (fv.map Prod.fst).dropLast := by simp
  refine ⟨M, v', fv.dropLast, (fv.getLast hne).2, ?_, u3.fr.mono fun k _ hk => by rw [show k = bx from hk]; exact R.inM.1, fun k hk => .inl hk, by simp; omega⟩
  have hbx : ∀ k, blk v' k → k ≠ bx := fun k hk hkb => R.ap.2.1 (hkb ▸ bv' k hk)
  have hperm : (es.map Prod.snd ++ fv.dropLast ++ [fv.getLast hne]).Perm (es.map Prod.snd ++ fv ++ []) := by
   rw [List.append_assoc, List.dropLast_concat_getLast hne, List.append_nil]
  exact {
   var := r3
   map := R.map.row (u3.2 bm (Ne.symm R.ap.1))
   free := by rw [List.length_dropLast, hdl]; exact ov'.fr u3.fr fun k hk => hbx k hk
   bag := ((R.bag.fr u3.fr fun q hq k hk => ((R.bag.own q hq).2.2 k hk).1).mono (fun k hk => hk) fun q hq k hk hk' => ((R.bag.own q hq).2.2 k hk).2.2.1 (bv' k hk')).perm hperm
   ap := ⟨R.ap.1, fun hk => R.ap.2.1 (bv' _ hk), fun hk => R.ap.2.2 (bv' _ hk)⟩
   inM := ⟨R.inM.1, R.inM.2.1, fun k hk => R.inM.2.2 k (bv' k hk)⟩
   lt := fun k hk => by rw [u3.1]; exact R.lt k hk
   nums := R.nums, keys := R.keys, len := R.len
   tot := by simp; omega }
 ·have hfv : fv = [] := List.eq_nil_of_length_eq_zero (by omega)
  subst hfv
  refine zly rfl (by omega) (by omega) fun u h3 o3 e3 n3 => ?_
  have o3' : OwnI h3 u (List.replicate w 0) := by
   unfold OwnI; rw [List.length_replicate, List.map_replicate]; exact o3
  have R3 := R.fr (Q := fun _ => False) e3.fr fun _ _ _ => id
  refine ⟨fun k => M k ∨ blk u k, .slice fa ([] : List (Value × List Int)).length fc, [], List.replicate w 0, ?_, e3.fr, fun k hk => hk.imp id (n3 k), by simp; omega⟩
  have hu : ∀ k, blk u k → ¬ M k := fun k hk hm => by have := R.lt k hm; have := n3 k hk; omega
  exact { R3 with
   bag := by
    refine ⟨fun q hq => ?_, ?_⟩
    ·rcases List.mem_append.1 hq with hq | hq
     ·have h5 := R3.bag.own q (by simpa using hq)
      exact ⟨h5.1, h5.2.1, fun k hk => ⟨(h5.2.2 k hk).1, (h5.2.2 k hk).2.1, (h5.2.2 k hk).2.2.1, .inl (h5.2.2 k hk).2.2.2⟩⟩
     ·rw [List.mem_singleton.1 hq]
      exact ⟨o3', by simp, fun k hk => ⟨fun h => hu k hk (h ▸ R.inM.1), fun h => hu k hk (h ▸ R.inM.2.1), fun h => hu k hk (R.inM.2.2 k h), .inr hk⟩⟩
    ·refine List.pairwise_append.2 ⟨by simpa using R3.bag.apart, by simp, fun a ha b hb k hk hk' => ?_⟩
     rw [List.mem_singleton.1 hb] at hk'
     exact hu k hk' ((R3.bag.own a (by simpa using ha)).2.2 k hk).2.2.2
   inM := ⟨.inl R.inM.1, .inl R.inM.2.1, fun k hk => .inl (R.inM.2.2 k hk)⟩
   lt := fun k hk => by
    rcases hk with hk | hk
    ·exact R3.lt k hk
    ·exact o3.lt hk
   tot := by simp; omega }
def fullB (room : Nat) (rs : List (Int × List Int)) : Bool := decide (room ≤ rs.length)
def putOk (room w : Nat) (rs : List (Int × List Int)) (j : Int) (l : List Int) : Bool := decide (l.length = w) && ((kGet j rs).isNone && !(fullB room rs && decide (j < minL (rs.map Prod.fst))))
def zem (room : Nat) (rs : List (Int × List Int)) : List (Int × List Int) := if fullB room rs = true then kDel (minL (rs.map Prod.fst)) rs else rs
def putR (room w : Nat) (rs : List (Int × List Int)) (j : Int) (l : List Int) : List (Int × List Int) := if putOk room w rs j l = true then zem room rs ++ [(j, l)] else rs
theorem minL_mem {l : List Int} (h : l ≠ []) : minL l ∈ l := by
 have key : ∀ (l : List Int) (x : Int), l.foldl min x ∈ x :: l := by
  intro l
  induction l with
  | nil => intro x; simp
  | cons z l ih =>
   intro x
   rw [List.foldl_cons]
   rcases List.mem_cons.1 (ih (min x z)) with h2 | h2
   ·rw [h2]
    rcases Int.le_total x z with hxz | hxz
    ·rw [Int.min_eq_left hxz]; simp
    ·rw [Int.min_eq_right hxz]; simp
   ·exact List.mem_cons_of_mem _ (List.mem_cons_of_mem _ h2)
 cases l with
 | nil => exact absurd rfl h
 | cons x l => exact key l x
theorem c_RPut {M : Nat → Prop} {h : Heap} {v u : Value} {room w : Nat} {rs : List (Int × List Int)} (H : zco M h v room w rs) {j : Int} (hj : (Lit.int .i64 j).wf = true) {l : List Int} (hu : Ints h u l) (hul : l.length ≤ 9223372036854775807) (hn : ∀ b, blk u b → ¬ M b) :
  FCall prog zft #[v, .int .i64 j, u] h fun r h' => r = .bool (putOk room w rs j l) ∧ ∃ M', zco M' h' v room w (putR room w rs j l) ∧ Fr M h h' ∧ ∀ k, M' k → M k ∨ h.size ≤ k := by
 have H0 := H
 have hnd := H.nodup
 have hnum := H.nums
 have hfirst := fun h' (e : Ext h h') => c_RFirst (H.ext e)
 obtain ⟨bx, bm, fr, t, es, fv, rfl, R, hrs, hlen⟩ := H
 apply zmz
 unfold zhl
 have hu0 := hu
 obtain ⟨ua, uc, rfl, _⟩ := hu
 have no : putOk room w rs j l = false → ∀ h', Ext h h' → ∃ M', zco M' h' (.pointer (some ⟨bx, 0, none⟩)) room w (putR room w rs j l) ∧ Fr M h h' ∧ ∀ k, M' k → M k ∨ h.size ≤ k := fun hp h' e =>
  ⟨M, by unfold putR; rw [hp]; exact H0.ext e, e.fr, fun k hk => .inl hk⟩
 by_cases hw : l.length = w
 ·have hw' : (l.length : Int) = (w : Int) := by omega
  simp only [go_sem, zac R.var, hw']
  refine (c_RHas H0 j).mono ?_
  rintro _ h1 ⟨rfl, hh⟩
  subst hh
  try simp only [go_sem]
  cases hg : kGet j rs with
  | some q =>
   simp only [Option.isSome_some, go_sem]
   have hp : putOk room w rs j l = false := by simp [putOk, hg]
   exact ⟨by rw [hp], no hp _ (Ext.refl _)⟩
  | none =>
   simp only [Option.isSome_none, go_sem]
   refine zat (fun xs h' => xs = [] ∧ putOk room w rs j l = true ∧ ∃ M' fr' es' fv', zlc M' h' bx bm fr' t room w es' fv' [] ∧ es'.length < room ∧ es'.length + fv'.length ≤ room ∧ kMap Prod.snd es' = zem room rs ∧ Fr M h1 h' ∧ ∀ k, M' k → M k ∨ h1.size ≤ k) ?_ ?_
   ·refine (c_RFirst H0).mono ?_
    rintro _ h2 ⟨rfl, e2⟩
    have R2 := R.fr (Q := fun _ => False) e2.fr fun _ _ _ => id
    have hll : (kMap Prod.fst es).length = rs.length := by rw [hrs]; simp [kMap]
    simp only [go_sem, zac R2.var, zqC R2.map, hll]
    refine zab (fun hfull => ?_) (fun hnot => ?_)
    ·have hfull : room ≤ rs.length := by omega
     have hf : fullB room rs = true := by simp [fullB, hfull]
     refine zab (fun hlt => ?_) (fun hge => ?_)
     ·have hp : putOk room w rs j l = false := by simp [putOk, hf, hlt]
      exact ⟨by rw [hp], no hp _ e2⟩
     ·have hp : putOk room w rs j l = true := by simp [putOk, hf, hge, hg, hw]
      have hne : rs.map Prod.fst ≠ [] := fun h0 => by
       have := congrArg List.length h0
       simp at this
       rw [this] at hfull; simp at hfull; omega
      have hmem := minL_mem hne
      generalize hm : minL (rs.map Prod.fst) = m at hmem
      have hk : ∃ p, kGet m es = some p := by
       cases hc : kGet m es with
       | some p => exact ⟨p, rfl⟩
       | none =>
        have := zee.1 hc
        rw [hrs, zh4] at hmem
        exact absurd hmem this
      obtain ⟨p, hk⟩ := hk
      refine (c_drop R2 hk).mono ?_
      rintro _ h3 ⟨M', fr', R3, f3, n3, _⟩
      have hdl := zmR hk
      have hel : es.length = rs.length := by rw [hrs]; simp [kMap]
      refine ⟨trivial, hp, M', fr', kDel m es, fv ++ [p], R3, by have := R.len; omega, by simp; omega, ?_, e2.fr.trans f3, fun k hk => (n3 k hk).imp id fun h5 => Nat.le_trans e2.1 h5⟩
      unfold zem
      rw [if_pos hf, hm, hrs, zqJ]
    ·have hnot : ¬ room ≤ rs.length := by omega
     have hf : fullB room rs = false := by simp [fullB]; omega
     have hel : es.length = rs.length := by rw [hrs]; simp [kMap]
     refine ⟨trivial, by simp [putOk, hf, hg, hw], M, fr, es, fv, R2, by omega, hlen, ?_, e2.fr, fun k hk => .inl hk⟩
     unfold zem
     rw [hf]; exact hrs.symm
   ·rintro _ ρj h2 ⟨rfl, hp, M2, fr2, es2, fv2, R2, l2, t2, hk2, f2, n2⟩
    refine (c_space R2 l2 t2).mono ?_
    rintro x h3 ⟨M3, fr3, fv3, l0, R3, f3, n3, t3⟩
    have hxo := R3.bag.own (x, l0) (by simp)
    have f13 : Fr (fun k => M k ∨ h1.size ≤ k) h1 h3 := (f2.mono fun k _ hk => .inl hk).trans (f3.mono fun k _ hk => n2 k hk)
    have f13' : Fr M h1 h3 := ⟨f13.1, fun b hb hm => f13.2 b hb fun hc => hc.elim hm fun h5 => by omega⟩
    have us : SlC 1 h3 (.slice ua l.length uc) l.length (l.map vi) := hu0.sl.fr f13' fun b _ hb => hn b hb
    have xo : Own 1 h3 x w (l0.map vi) := by
     have h5 := hxo.1
     unfold OwnI at h5
     rw [hxo.2.1] at h5
     exact h5
    have xl : (l0.map vi).length = w := by rw [List.length_map]; exact hxo.2.1
    refine zqN xo us vi_one fun h4 o4 f4 s4 => ?_
    have o4' : OwnI h4 x l := by
     have h6 : (l.map vi).take w ++ (l0.map vi).drop l.length = l.map vi := by
      rw [List.take_of_length_le (by rw [List.length_map]; omega), List.drop_eq_nil_of_le (by omega), List.append_nil]
     rw [h6] at o4
     unfold OwnI
     rw [hw]
     exact o4
    have bag4 := R3.bag.last (l := l) f4 o4' hw
    have hxx := hxo.2.2
    have v4 := f4.row R3.var fun hb => (hxx _ hb).1 rfl
    have m4 := R3.map.fr f4 fun hb => (hxx _ hb).2.1 rfl
    have fr4 := R3.free.fr f4 fun k hk hk' => (hxx k hk').2.2.1 hk
    simp only [go_sem, zac v4]
    refine put_map m4 fun h5 m5 u5 => ?_
    have hnone : kGet j es2 = none := by
     cases hc : kGet j es2 with
     | none => rfl
     | some p =>
      exfalso
      have h6 : kGet j (zem room rs) = some p.2 := by rw [← hk2, zfX, hc]; rfl
      unfold zem at h6
      split at h6
      ·rw [zmQ hnd, hg] at h6
       split at h6 <;> cases h6
      ·rw [hg] at h6; cases h6
    have hnew : kPut j x (kMap Prod.fst es2) = kMap Prod.fst (es2 ++ [(j, (x, l))]) := by
     rw [zqG (by rw [zfX, hnone]; rfl)]
     simp [kMap]
    rw [hnew] at m5
    have f35 : Fr M3 h3 h5 := (f4.mono fun k _ hk => (hxx k hk).2.2.2).trans (u5.fr.mono fun k _ hk => by rw [show k = bm from hk]; exact R3.inM.2.1)
    have f15 : Fr M h1 h5 := by
     have h7 : Fr (fun k => M k ∨ h1.size ≤ k) h1 h5 := f13.trans (f35.mono fun k _ hk => (n3 k hk).elim (n2 k) fun h8 => .inr (Nat.le_trans f2.1 h8))
     exact ⟨h7.1, fun b hb hm => h7.2 b hb fun hc => hc.elim hm fun h5 => by omega⟩
    refine ⟨by rw [hp], M3, ⟨bx, bm, fr3, t, es2 ++ [(j, (x, l))], fv3, rfl, ?_, ?_, by simp; omega⟩, f15, fun k hk => (n3 k hk).elim (n2 k) fun h8 => .inr (Nat.le_trans f2.1 h8)⟩
    ·have hb5 : Bag M3 h5 bx bm fr3 w (es2.map Prod.snd ++ fv3 ++ [(x, l)]) := bag4.fr u5.fr fun q hq k hk => ((bag4.own q hq).2.2 k hk).2.1
     exact {
      var := u5.row (fun h => R3.ap.1 h) v4
      map := m5
      free := fr4.fr u5.fr fun k hk hk' => R3.ap.2.2 (hk' ▸ hk)
      bag := hb5.perm (by
       rw [List.append_nil, List.map_append, List.append_assoc, List.append_assoc]
       exact (List.perm_append_comm (l₁ := [(x, l)])).append_left _)
      ap := R3.ap, inM := R3.inM
      lt := fun k hk => Nat.lt_of_lt_of_le (R3.lt k hk) f35.1
      nums := R3.nums
      keys := fun e he => by
       rcases List.mem_append.1 he with he | he
       ·exact R3.keys e he
       ·rw [List.mem_singleton.1 he]; exact hj
      len := by simp; omega
      tot := by simp; omega }
    ·unfold putR
     rw [if_pos hp, ← hk2]
     simp [kMap]
 ·have hw' : ¬ (l.length : Int) = (w : Int) := by omega
  have hp : putOk room w rs j l = false := by simp [putOk, hw]
  simp only [go_sem, zac R.var, hw']
  exact ⟨by rw [hp], no hp _ (Ext.refl _)⟩
def zpH (rs : List (Int × List Int)) (a b n : Int) (is : Bool) : Prop :=
 (is = true ∧ a ≤ n ∧ n < b ∧ kGet n rs = none ∧ ∀ i, a ≤ i → i < n → (kGet i rs).isSome = true) ∨ (is = false ∧ n = 0 ∧ ∀ i, a ≤ i → i < b → (kGet i rs).isSome = true)
theorem c_RNext {M : Nat → Prop} {h : Heap} {v : Value} {room w : Nat} {rs : List (Int × List Int)} (H : zco M h v room w rs) {a b : Int} (ha : -9223372036854775808 ≤ a) (hb : b ≤ 9223372036854775807) :
  FCall prog zer #[v, .int .i64 a, .int .i64 b] h fun r h' => (∃ n is, r = .tuple #[.int .i64 n, .bool is] ∧ zpH rs a b n is) ∧ h' = h := by
 apply zls
 unfold zgp
 refine zbh (fun d xs h' => h' = h ∧ ∃ j, a ≤ j ∧ d = (b - j).toNat ∧ xs = [.int .i64 j] ∧ ∀ i, a ≤ i → i < j → (kGet i rs).isSome = true) (b - a).toNat ⟨rfl, a, by omega, rfl, rfl, fun i h1 h2 => by omega⟩ ?_
 rintro d _ ρj h1 again ⟨hh, j, haj, rfl, rfl, hall⟩ hag
 subst hh
 simp only [go_sem]
 refine zab (fun hlt => ?_) (fun hge => ?_)
 ·refine (c_RHas H j).mono ?_
  rintro _ h2 ⟨rfl, hh⟩
  subst hh
  try simp only [go_sem]
  cases hg : kGet j rs with
  | none =>
   simp only [Option.isSome_none, go_sem]
   exact ⟨⟨j, true, rfl, .inl ⟨rfl, haj, hlt, hg, hall⟩⟩, trivial⟩
  | some p =>
   simp only [Option.isSome_some, go_sem]
   rw [w64 (by omega) (by omega)]
   refine hag _ _ (b - (j + 1)).toNat (by omega) ⟨rfl, j + 1, by omega, rfl, rfl, fun i h1 h2 => ?_⟩
   by_cases hi : i = j
   ·rw [hi, hg]; rfl
   ·exact hall i h1 (by omega)
 ·exact ⟨⟨0, false, rfl, .inr ⟨rfl, rfl, fun i h1 h2 => hall i h1 (by omega)⟩⟩, trivial⟩
theorem wf64 {n : Int} (h1 : -9223372036854775808 ≤ n) (h2 : n ≤ 9223372036854775807) : (Lit.int .i64 n).wf = true := by
 show (decide (IntKind.i64.min ≤ n) && decide (n ≤ IntKind.i64.max)) = true
 rw [Bool.and_eq_true, decide_eq_true_eq, decide_eq_true_eq]
 exact ⟨h1, h2⟩
end Go.Proofs.YtojmncnelbnceaaGreatDoor
namespace Go.Proofs.YtojmncnelbnceaaGreatDoor
open Go Go.Crisp
attribute [local irreducible] FCall rowK newK stK iteK vK qK drawK gK joinK loopK mkK appK cpyK zqt znp bsK clK zgP zga newmK
open _root_.Go.Proofs.Tryz
section
structure JobD where
 m : Pic
 s : Stg
 t : TileD
structure JobD.Wf (d : JobD) : Prop where
 m : d.m.Wf
 s : d.s.Wf
 su : zhA d.m d.s
 w1 : 1 ≤ d.t.w
 h1 : 1 ≤ d.t.h
 x0 : 0 ≤ d.t.x
 y0 : 0 ≤ d.t.y
 xw : d.t.x + d.t.w ≤ d.s.x.lines.length
 yh : d.t.y + d.t.h ≤ d.s.y.lines.length
abbrev jobC (bf bt : Nat) (p q rv : Value) (d : JobD) (y : Int) : List Value := [ptr bf, ptr bt, p, q, .int .i64 d.s.border] ++ tileC d.t ++ [rv, .int .i64 y]
structure JobAt (Z M : Nat → Prop) (h : Heap) (bj bf : Nat) (vf : Value) (bt : Nat) (vt p q rv : Value) (d : JobD) (y : Int) (n : Pic) (room w : Nat) (rs : List (Int × List Int)) : Prop where
 row : h[bj]? = some (.cells (jobC bf bt p q rv d y).toArray 93 (0, 0))
 src : IsImg h bf vf d.m
 tx : IsTbl Z h p d.s.x
 ty : IsTbl Z h q d.s.y
 ring : zco M h rv room w rs
 out : IsImg h bt vt n
 zf : Z bf ∧ ∀ c, blk vf c → Z c
 zz : ∀ c, Z c → ¬ M c ∧ c ≠ bj ∧ ¬ blk vt c
 mj : ¬ M bj ∧ ¬ M bt ∧ (∀ c, blk vt c → ¬ M c)
 jt : bj ≠ bt ∧ ¬ blk vt bj
 y0 : d.t.y ≤ y
 y1 : y ≤ d.t.y + d.t.h
 zl : ∀ c, Z c → c < h.size
section
variable {Z M : Nat → Prop} {h : Heap} {bj bf : Nat} {vf : Value} {bt : Nat} {vt p q rv : Value} {d : JobD} {y : Int} {n : Pic} {room w : Nat} {rs : List (Int × List Int)}
theorem JobAt.ext {h' : Heap} (J : JobAt Z M h bj bf vf bt vt p q rv d y n room w rs) (e : Ext h h') : JobAt Z M h' bj bf vf bt vt p q rv d y n room w rs :=
 ⟨e.row J.row, J.src.ext e, J.tx.ext e, J.ty.ext e, J.ring.ext e, J.out.ext e, J.zf, J.zz, J.mj, J.jt, J.y0, J.y1, fun c hc => Nat.lt_of_lt_of_le (J.zl c hc) e.1⟩
theorem JobD.bd (W : d.Wf) : d.t.x + d.t.w ≤ 65536 ∧ d.t.y + d.t.h ≤ 65536 := by
 have := W.s.x.len
 have := W.s.y.len
 have := W.xw
 have := W.yh
 omega
theorem c_over (J : JobAt Z M h bj bf vf bt vt p q rv d y n room w rs) (W : d.Wf) : FCall prog zdO #[ptr bj] h fun r h' => r = .bool (decide (d.t.y + d.t.h ≤ y)) ∧ h' = h := by
 apply zkB
 unfold zfA
 have hb := JobD.bd W
 have h1 := W.y0
 have h2 := W.h1
 simp only [go_sem, Nat.zero_add, zac J.row]
 simp only [jobC, tileC, List.cons_append, List.nil_append, List.getElem?_toArray, List.getElem?_cons_succ, List.getElem?_cons_zero, go_sem]
 rw [w64 (n := d.t.y + d.t.h) (by omega) (by omega)]
 exact ⟨rfl, trivial⟩
theorem JobAt.c2 {h' : Heap} (J : JobAt Z M h bj bf vf bt vt p q rv d y n room w rs) (e : Ext h h') : zah h' ⟨bj, 2, none⟩ = some p := by rw [zac (e.row J.row)]; rfl
theorem JobAt.c3 {h' : Heap} (J : JobAt Z M h bj bf vf bt vt p q rv d y n room w rs) (e : Ext h h') : zah h' ⟨bj, 3, none⟩ = some q := by rw [zac (e.row J.row)]; rfl
theorem JobAt.c4 {h' : Heap} (J : JobAt Z M h bj bf vf bt vt p q rv d y n room w rs) (e : Ext h h') : zah h' ⟨bj, 4, none⟩ = some (.int .i64 d.s.border) := by rw [zac (e.row J.row)]; rfl
theorem JobAt.c0 {h' : Heap} (J : JobAt Z M h bj bf vf bt vt p q rv d y n room w rs) (e : Ext h h') : zah h' ⟨bj, 0, none⟩ = some (ptr bf) := by rw [zac (e.row J.row)]; rfl
theorem JobAt.c1 {h' : Heap} (J : JobAt Z M h bj bf vf bt vt p q rv d y n room w rs) (e : Ext h h') : zah h' ⟨bj, 1, none⟩ = some (ptr bt) := by rw [zac (e.row J.row)]; rfl
theorem JobAt.c6 {h' : Heap} (J : JobAt Z M h bj bf vf bt vt p q rv d y n room w rs) (e : Ext h h') : zah h' ⟨bj, 6, none⟩ = some (.int .i64 d.t.x) := by rw [zac (e.row J.row)]; rfl
theorem JobAt.c8 {h' : Heap} (J : JobAt Z M h bj bf vf bt vt p q rv d y n room w rs) (e : Ext h h') : zah h' ⟨bj, 8, none⟩ = some (.int .i64 d.t.w) := by rw [zac (e.row J.row)]; rfl
theorem JobAt.c15 {h' : Heap} (J : JobAt Z M h bj bf vf bt vt p q rv d y n room w rs) (e : Ext h h') : zah h' ⟨bj, 15, none⟩ = some rv := by rw [zac (e.row J.row)]; rfl
theorem JobAt.c16 {h' : Heap} (J : JobAt Z M h bj bf vf bt vt p q rv d y n room w rs) (e : Ext h h') : zah h' ⟨bj, 16, none⟩ = some (.int .i64 y) := by rw [zac (e.row J.row)]; rfl
theorem c_jobLine (J : JobAt Z M h bj bf vf bt vt p q rv d y n room w rs) (W : d.Wf) : FCall prog zcE #[ptr bj] h fun r h' =>
  ∃ u, r = .agg #[.int .i64 (lineT d.s.y y).1, u] ∧ SlI (Since h h') h' u (lineT d.s.y y).2 ∧ Ext h h' := by
 apply zkC
 unfold zfB
 refine zag fun b1 h1 r1 e1 n1 => ?_
 have l1 := zaB r1
 simp only [go_sem, Nat.zero_add]
 refine zak (fun h' => h' = h1) rfl ?_
 refine zae q (fun h' e => by rw [e]; exact J.c3 e1) ?_
 refine zae (.int .i64 y) (fun h' e => by rw [e]; exact J.c16 e1) ?_
 refine (zmr (J.ty.ext e1) W.s.y).mono fun r h2 ⟨u, e, S, e2⟩ => ?_
 subst e
 refine zbt (l := [.int .i64 (lineT d.s.y y).1, u]) (e2.row r1) rfl (zad rfl (zad S.one zaq)) rfl fun h3 r3 u3 => ?_
 rw [zal r3 2 rfl, zaa]
 refine ⟨u, rfl, ?_, (e1.trans e2).upd n1 u3⟩
 refine (S.fr u3.fr fun c _ hz he => ?_).mono fun c hc hz => ⟨Nat.le_trans e1.1 hz.1, hc⟩
 have := hz.1
 omega
abbrev moveV (k j : Int) : Value := .agg #[.int .i64 k, .int .i64 j]
def NextZ (d : JobD) (y : Int) (rs : List (Int × List Int)) (k j : Int) : Prop :=
 if d.t.y + d.t.h ≤ y then k = 0 ∧ j = 0 else
  (k = 1 ∧ zpH rs (lineT d.s.y y).1 ((lineT d.s.y y).1 + ((lineT d.s.y y).2.length : Int)) j true) ∨ (k = 2 ∧ j = y ∧ zpH rs (lineT d.s.y y).1 ((lineT d.s.y y).1 + ((lineT d.s.y y).2.length : Int)) 0 false)
theorem c_jobNext (J : JobAt Z M h bj bf vf bt vt p q rv d y n room w rs) (W : d.Wf) : FCall prog zaZ #[ptr bj] h fun r h' => ∃ k j, r = moveV k j ∧ NextZ d y rs k j ∧ Ext h h' := by
 apply zkF
 unfold zfE
 refine zag fun b1 h1 r1 e1 n1 => ?_
 have l1 := zaB r1
 have J1 := J.ext e1
 refine (c_over J1 W).mono fun r h2 ⟨e, wq⟩ => ?_
 have wq := wq.symm
 subst e wq
 refine zab (fun h2 => ?_) (fun h2 => ?_)
 ·rw [zb7, zaA, zaa]
  refine zbt (l := [.int .i64 0, .int .i64 0]) r1 rfl (zad rfl (zad rfl zaq)) rfl fun h3 r3 u3 => ?_
  rw [zal r3 2 rfl, zaa]
  exact ⟨0, 0, rfl, by unfold NextZ; rw [if_pos h2]; exact ⟨rfl, rfl⟩, e1.upd n1 u3⟩
 refine (c_jobLine J1 W).mono fun r h3 ⟨u, e, S, e3⟩ => ?_
 subst e
 refine zaR (cs := [.int .i64 (lineT d.s.y y).1, u]) rfl (zad rfl (zad S.one zaq)) rfl fun b4 h4 r4 e4 n4 => ?_
 have E4 := e3.trans e4
 have J4 := J1.ext E4
 have hl := zdK W.s.y y
 obtain ⟨au, cu, eu⟩ := S.isSl
 have eu2 : zaf u = some (.int .i64 ((lineT d.s.y y).2.length : Int)) := by rw [eu]; rfl
 have hN : ∀ k j, NextZ d y rs k j ↔ ((k = 1 ∧ zpH rs (lineT d.s.y y).1 ((lineT d.s.y y).1 + ((lineT d.s.y y).2.length : Int)) j true) ∨ (k = 2 ∧ j = y ∧ zpH rs (lineT d.s.y y).1 ((lineT d.s.y y).1 + ((lineT d.s.y y).2.length : Int)) 0 false)) := fun k j => by unfold NextZ; rw [if_neg h2]
 generalize lineT d.s.y y = L at *
 refine zak (fun h' => h' = h4) rfl ?_
 simp only [go_sem, Nat.zero_add]
 refine zae rv (fun h' e => by rw [e]; exact J1.c15 E4) ?_
 refine zae (.int .i64 L.1) (fun h' e => by rw [e]; exact zac r4) ?_
 refine zae (.int .i64 L.1) (fun h' e => by rw [e]; exact zac r4) ?_
 refine zae u (fun h' e => by rw [e]; exact zac r4) ?_
 refine zae (.int .i64 (L.2.length : Int)) (fun h' e => eu2) ?_
 simp only [go_sem]
 rw [w64 (n := L.1 + (L.2.length : Int)) (by omega) (by omega)]
 refine (c_RNext J4.ring (a := L.1) (b := L.1 + (L.2.length : Int)) (by omega) (by omega)).mono fun r h5 ⟨⟨j, is, e, hn⟩, wq⟩ => ?_
 have wq := wq.symm
 subst e wq
 simp only [go_sem]
 have r1' := E4.row r1
 refine zeX (fun hi => ?_) (fun hi => ?_)
 ·subst hi
  have hf : fillL #[(.int .i64 0), (.int .i64 0)] [(0, 1, Value.int .i64 1), (1, 1, Value.int .i64 j)] = some #[.int .i64 1, .int .i64 j] := zk2 rfl rfl
  rw [hf, zaA, zaa]
  refine zbt (l := [.int .i64 1, .int .i64 j]) r1' rfl (zad rfl (zad rfl zaq)) rfl fun h6 r6 u6 => ?_
  rw [zal r6 2 rfl, zaa]
  exact ⟨1, j, rfl, (hN 1 j).2 (.inl ⟨rfl, hn⟩), (e1.trans E4).upd n1 u6⟩
 ·subst hi
  have hj : j = 0 := by rcases hn with ⟨hh, _⟩ | ⟨_, hh, _⟩; cases hh; exact hh
  subst hj
  rw [J1.c16 E4, zaa]
  have hf : fillL #[(.int .i64 0), (.int .i64 0)] [(0, 1, Value.int .i64 2), (1, 1, Value.int .i64 y)] = some #[.int .i64 2, .int .i64 y] := zk2 rfl rfl
  rw [hf, zaA, zaa]
  refine zbt (l := [.int .i64 2, .int .i64 y]) r1' rfl (zad rfl (zad rfl zaq)) rfl fun h6 r6 u6 => ?_
  rw [zal r6 2 rfl, zaa]
  exact ⟨2, y, rfl, (hN 2 y).2 (.inr ⟨rfl, rfl, hn⟩), (e1.trans E4).upd n1 u6⟩
end
end
section
section
variable {Z M : Nat → Prop} {h : Heap} {bj bf : Nat} {vf : Value} {bt : Nat} {vt p q rv : Value} {d : JobD} {y : Int} {n : Pic} {room w : Nat} {rs : List (Int × List Int)}
def colZ (d : JobD) (x row : Int) : List Int := (List.range d.m.c.toNat).map fun c : Nat => IntKind.i64.wrap (zgb d.m d.s x row c)
theorem c_across {h0 : Heap} {u : Value} {l : List Int} {x row : Int} (J : JobAt Z M h0 bj bf vf bt vt p q rv d y n room w rs) (W : d.Wf) (N : New (Rp.int .i64) h0 h u l) (hl : l.length ≤ 1000000) :
  FCall prog zc3 #[ptr bj, .int .i64 x, .int .i64 row, u] h fun r h' => New (Rp.int .i64) h0 h' r (l ++ colZ d x row) := by
 apply ziI
 unfold zex
 have E0 := N.2.1
 simp only [go_sem, Nat.zero_add, J.c2 E0]
 refine (zmr (J.tx.ext E0) W.s.x).mono fun r h1 ⟨v, e, S, e1⟩ => ?_
 subst e
 refine zaR (cs := [.int .i64 (lineT d.s.x x).1, v]) rfl (zad rfl (zad S.one zaq)) rfl fun b2 h2 r2 e2 n2 => ?_
 have E2 := E0.trans (e1.trans e2)
 simp only [go_sem, Nat.zero_add, J.c0 E2]
 refine (zbb (J.src.ext E2)).mono fun r h3 ⟨e, wq⟩ => ?_
 have wq := wq.symm
 subst e wq
 have hf := zbn W.m.fits
 have hln := zdK W.s.x x
 unfold colZ zgb
 obtain ⟨C, hC⟩ : ∃ C : Nat, d.m.c = (C : Int) := ⟨d.m.c.toNat, by omega⟩
 rw [hC, Int.toNat_natCast]
 have S2 := S.ext e2
 have Sz : SlI (fun c => ¬ blk u c ∧ c ≠ b2 ∧ c < h2.size) h2 v (lineT d.s.x x).2 := S2.mono fun c hc hz => ⟨fun hu => by have := N.lt hu; have := hz.1; omega, fun he => by have := hz.2; omega, hc⟩
 have hub : ¬ blk u b2 := fun hu => by have := N.lt hu; have := e1.1; omega
 generalize lineT d.s.x x = L at *
 obtain ⟨av, cv, ev⟩ := S.isSl
 have ev2 : zaf v = some (.int .i64 (L.2.length : Int)) := by rw [ev]; rfl
 obtain ⟨g, hg⟩ : ∃ g : Nat → Int, g = fun c : Nat => IntKind.i64.wrap (sumN (fun i => L.2.getD i 0 * atP d.m (atZ d.s.border (L.1 + i) d.m.w) row c) L.2.length) := ⟨_, rfl⟩
 rw [← hg]
 refine zaz (α := Value) C 0 (fun c u => [u, .int .i64 (c : Int)]) (fun c u h' => New (Rp.int .i64) h0 h' u (l ++ (List.range c).map g) ∧ SlI (fun c => ¬ blk u c ∧ c ≠ b2 ∧ c < h2.size) h' v L.2 ∧ h2.size ≤ h'.size ∧ h'[b2]? = some (.cells #[.int .i64 L.1, v] 96 (0, 0)) ∧ ¬ blk u b2 ∧ Ext h0 h') u rfl (Nat.zero_le _)
  ⟨by simpa using N.ext (e1.trans e2), Sz, Nat.le_refl _, r2, hub, E2⟩ fun c u h4 again ρ1 _ hc ⟨N4, S4, sz4, r4, u4, E4⟩ Hag => ?_
 simp only [go_sem]
 refine zab (fun h5 => ?_) (fun h5 => ?_)
 ·have c1 : zah h4 ⟨b2, 1, none⟩ = some v := zac r4
  simp only [go_sem, Nat.zero_add, c1, ev2]
  have J4 := J.ext E4
  refine zc0 (fun i => [.int .i64 (IntKind.i64.wrap (sumN (fun i => L.2.getD i 0 * atP d.m (atZ d.s.border (L.1 + i) d.m.w) row c) i)), .int .i64 (i : Int)]) L.2.length 0 rfl (Nat.zero_le _) fun i again2 ρ2 _ hi Hag2 => ?_
  simp only [go_sem]
  refine zab (fun h6 => ?_) (fun h6 => ?_)
  ·have hi' : i < L.2.length := by omega
   have Hag2 := Hag2 hi'
   obtain ⟨pi, i1, i2⟩ := S4.int_at (k' := .i64) hi'
   have ea : L.2.getD i 0 = L.2[i] := by simp [List.getD_eq_getElem?_getD, hi']
   rw [i1, zaa, i2, zaa, ← ea]
   refine zak (fun h' => h' = h4) rfl ?_
   try simp only [go_sem, Nat.zero_add]
   refine zae (.int .i64 d.s.border) (fun h' e => by rw [e]; exact J.c4 E4) ?_
   refine zae (.int .i64 L.1) (fun h' e => by rw [e]; exact zac r4) ?_
   try simp only [go_sem, Nat.zero_add]
   refine zae (ptr bf) (fun h' e => by rw [e]; exact J.c0 E4) ?_
   rw [w64 (n := L.1 + (i : Int)) (by omega) (by omega)]
   refine (zh7 J4.src).mono fun r h7 ⟨e, wq⟩ => ?_
   have wq := wq.symm
   subst e wq
   refine ⟨rfl, ?_⟩
   refine (ziy (by unfold I64; omega)).mono fun r h7 ⟨e, wq⟩ => ?_
   have wq := wq.symm
   subst e wq
   simp only [go_sem, Nat.zero_add, J.c0 E4]
   refine (c_At J4.src W.m).mono fun r h7 ⟨e, wq⟩ => ?_
   have wq := wq.symm
   subst e wq
   have hv := atP_bd W.m (atZ d.s.border (L.1 + (i : Int)) d.m.w) row c
   have hm := W.m.m2
   simp only [go_sem]
   rw [w64 (n := atP d.m (atZ d.s.border (L.1 + (i : Int)) d.m.w) row c) (by omega) (by omega), zjT, w64 (n := (i : Int) + 1) (by omega) (by omega)]
   exact Hag2
  ·have hiL : i = L.2.length := by omega
   subst hiL
   have hgc : IntKind.i64.wrap (sumN (fun i => L.2.getD i 0 * atP d.m (atZ d.s.border (L.1 + i) d.m.w) row c) L.2.length) = g c := by rw [hg]
   rw [hgc]
   have hlen : (l ++ (List.range c).map g).length = l.length + c := by simp
   refine Rp.push_ow1 (e := Rp.int .i64) rfl N4.1 (x := g c) rfl rfl (by rw [hlen]; omega) (by rw [hlen]; omega) (fun b hb => hb.elim) fun s' h' o' f' n' => ?_
   try simp only [go_sem]
   rw [w64 (by omega) (by omega)]
   have E' : Ext h0 h' := E4.then_fr f' N4.2.2
   have hs' : ∀ b, blk s' b → blk u b ∨ h4.size ≤ b := n'
   refine Hag s' h' (by omega) ⟨⟨by rw [ze2 _ (c + 1) c (by omega), ← List.append_assoc]; exact o', E', fun b hb => ?_⟩, ?_, Nat.le_trans sz4 f'.1, f'.row r4 u4, fun hb => ?_, E'⟩
   ·rcases hs' b hb with h7 | h7
    ·exact N4.2.2 b h7
    ·exact Nat.le_trans E4.1 h7
   ·refine (S4.fr f' fun b _ hz => hz.1).mono fun b hb hz => ⟨fun hs => ?_, hz.2⟩
    rcases hs' b hs with h7 | h7
    ·exact hz.1 h7
    ·have := hz.2.2; omega
   ·rcases hs' _ hb with h7 | h7
    ·exact u4 h7
    ·have := zaB r4; omega
 ·have : c = C := by omega
  subst this
  exact N4
def rowP (d : JobD) (real : Int) : Nat → List Int
 | 0 => []
 | x + 1 => rowP d real x ++ colZ d (d.t.x + x) real
def rowZ (d : JobD) (j : Int) : List Int := rowP d (atZ d.s.border j d.m.h) d.t.w.toNat
theorem colZ_len (d : JobD) (x row : Int) : (colZ d x row).length = d.m.c.toNat := by unfold colZ; simp
theorem zky (d : JobD) (real : Int) : ∀ k, (rowP d real k).length = k * d.m.c.toNat
 | 0 => by simp [rowP]
 | k + 1 => by unfold rowP; rw [List.length_append, zky, colZ_len, Nat.add_mul, Nat.one_mul]
theorem rowP_get (d : JobD) (real : Int) {x c : Nat} (hc : c < d.m.c.toNat) : ∀ {k : Nat}, x < k → (rowP d real k).getD (x * d.m.c.toNat + c) 0 = IntKind.i64.wrap (zgb d.m d.s (d.t.x + x) real c)
 | 0, h => absurd h (by omega)
 | k + 1, h => by
  unfold rowP
  have hl := zky d real k
  by_cases hx : x < k
  ·have h1 : x * d.m.c.toNat + c < (rowP d real k).length := by
    rw [hl]
    have : (x + 1) * d.m.c.toNat ≤ k * d.m.c.toNat := Nat.mul_le_mul_right _ hx
    rw [Nat.add_mul, Nat.one_mul] at this
    omega
   have := rowP_get d real hc hx
   rw [List.getD_eq_getElem?_getD] at this ⊢
   rw [List.getElem?_append_left h1]
   exact this
  ·have hxk : x = k := by omega
   subst hxk
   rw [List.getD_eq_getElem?_getD, List.getElem?_append_right (by omega), hl, Nat.add_sub_cancel_left]
   unfold colZ
   simp [hc]
theorem c_filter {j : Int} (J : JobAt Z M h bj bf vf bt vt p q rv d y n room w rs) (W : d.Wf) (hj : I64 j) (hs : d.t.w ≤ 300) :
  FCall prog zc2 #[ptr bj, .int .i64 j] h fun r h' => ∃ M', JobAt Z M' h' bj bf vf bt vt p q rv d y n room w (putR room w rs j (rowZ d j)) ∧ Fr M h h' ∧ ∀ k, M' k → M k ∨ h.size ≤ k := by
 apply ziH
 unfold zew
 have hf := zbn W.m.fits
 have hb := JobD.bd W
 have hw1 := W.w1
 have hx0 := W.x0
 simp only [go_sem, Nat.zero_add]
 refine zak (fun h' => h' = h) rfl ?_
 refine zae (.int .i64 d.s.border) (fun h' e => by rw [e]; exact J.c4 (Ext.refl _)) ?_
 refine zae (ptr bf) (fun h' e => by rw [e]; exact J.c0 (Ext.refl _)) ?_
 refine (zf1 J.src).mono fun r h1 ⟨e, wq⟩ => ?_
 have wq := wq.symm
 subst e wq
 refine ⟨rfl, ?_⟩
 refine (ziy hj).mono fun r h1 ⟨e, wq⟩ => ?_
 have wq := wq.symm
 subst e wq
 simp only [go_sem, Nat.zero_add, J.c8 (Ext.refl _)]
 unfold rowZ
 generalize atZ d.s.border j d.m.h = real
 obtain ⟨N, hN⟩ : ∃ N : Nat, d.t.w = (N : Int) := ⟨d.t.w.toNat, by omega⟩
 rw [hN, Int.toNat_natCast]
 have hC : d.m.c.toNat ≤ 3 := by omega
 have hlen : ∀ k, k ≤ N → (rowP d real k).length ≤ 900 := fun k hk => by
  rw [zky]
  have := Nat.mul_le_mul (show k ≤ 300 by omega) hC
  omega
 refine zaz (α := Value) N 0 (fun k u => [u, .int .i64 (k : Int)]) (fun k u h' => New (Rp.int .i64) h h' u (rowP d real k)) (.slice none 0 0) rfl (Nat.zero_le _) (New.nil (Ext.refl _)) fun k u h2 again ρ1 _ hk Nw Hag => ?_
 simp only [go_sem]
 refine zab (fun h3 => ?_) (fun h3 => ?_)
 ·simp only [go_sem, Nat.zero_add, J.c6 Nw.2.1]
  rw [w64 (n := d.t.x + (k : Int)) (by omega) (by omega)]
  refine (c_across J W Nw (by have := hlen k hk; omega)).mono fun r h4 N4 => ?_
  rw [w64 (by omega) (by omega)]
  exact Hag r h4 (by omega) N4
 ·have hkN : k = N := by omega
  subst hkN
  have J2 := J.ext Nw.2.1
  simp only [go_sem, Nat.zero_add, J.c15 Nw.2.1]
  have hin : Ints h2 u (rowP d real k) := by
   obtain ⟨a, cap, e⟩ := Nw.isSl
   refine ⟨a, cap, e, ?_⟩
   have o := (ow_own Nw.1).sl
   obtain ⟨_, a', c', e', ho⟩ := o
   rw [e] at e'
   cases e'
   rcases ho with ho | ⟨b, o, ha, ho⟩
   ·left; simpa using ho
   ·refine .inr ⟨b, o, ha, fun i hi => ?_⟩
    have := ho i (by simpa using hi)
    rw [this, List.getElem_map]
    rfl
  refine (c_RPut J2.ring (by unfold I64 at hj; exact wf64 hj.1 hj.2) hin (by have := hlen k hk; omega) fun b hb hm => ?_).mono fun r h5 ⟨e, M', R', f', m'⟩ => ?_
  ·have h6 := Nw.2.2 b hb
   have h7 := J.ring.lt hm
   omega
  have lt : ∀ c, c < h.size → ¬ M c → ¬ M' c := fun c hc hm hm' => by
   rcases m' c hm' with h6 | h6
   ·exact hm h6
   ·have := Nw.2.1.1; omega
  have zl := J.zl
  have zM : ∀ c, Z c → ¬ M c := fun c hc => (J.zz c hc).1
  refine ⟨M', ⟨f'.row J2.row J.mj.1, J2.src.fr f' (zM _ J.zf.1) fun c hc => zM _ (J.zf.2 c hc), J2.tx.fr f' fun c _ hz => zM c hz, J2.ty.fr f' fun c _ hz => zM c hz, R', J2.out.fr f' J.mj.2.1 J.mj.2.2, J.zf,
   fun c hz => ⟨lt c (zl c hz) (zM c hz), (J.zz c hz).2⟩, ⟨lt _ (zaB J.row) J.mj.1, lt _ J.out.lt J.mj.2.1, fun c hc => lt c (J.out.ltv hc) (J.mj.2.2 c hc)⟩, J.jt, J.y0, J.y1, fun c hc => ?_⟩, Nw.2.1.fr.trans f', fun k hk => ?_⟩
  ·have h6 := zl c hc
   have h7 := Nw.2.1.1
   have h8 := f'.1
   omega
  ·rcases m' k hk with h6 | h6
   ·exact .inl h6
   ·exact .inr (Nat.le_trans Nw.2.1.1 h6)
end
end
section
structure OutOk (d : JobD) (n : Pic) : Prop where
 wf : n.Wf
 w : n.w = d.s.x.lines.length
 h : n.h = d.s.y.lines.length
 c : n.c = d.m.c
 m : n.most = d.m.most
section
variable {Z M : Nat → Prop} {h : Heap} {bj bf : Nat} {vf : Value} {bt : Nat} {vt p q rv : Value} {d : JobD} {y : Int} {n : Pic} {room w : Nat} {rs : List (Int × List Int)}
theorem JobAt.set {h' : Heap} {n' : Pic} (J : JobAt Z M h bj bf vf bt vt p q rv d y n room w rs) (f : Fr (blk vt) h h') (I : IsImg h' bt vt n') : JobAt Z M h' bj bf vf bt vt p q rv d y n' room w rs :=
 ⟨f.row J.row J.jt.2, J.src.fr f (J.zz _ J.zf.1).2.2 fun c hc => (J.zz _ (J.zf.2 c hc)).2.2, J.tx.fr f fun c _ hz => (J.zz c hz).2.2, J.ty.fr f fun c _ hz => (J.zz c hz).2.2, J.ring.fr f fun c _ hm hv => J.mj.2.2 c hv hm, I, J.zf, J.zz, J.mj, J.jt, J.y0, J.y1,
  fun c hc => Nat.lt_of_lt_of_le (J.zl c hc) f.1⟩
def wrote (d : JobD) (y : Int) (i : Int) (x' y' c' : Int) : Prop := y' = y ∧ d.t.x ≤ x' ∧ x' < d.t.x + d.t.w ∧ (x' - d.t.x) * d.m.c + c' < i
instance (d : JobD) (y i x' y' c' : Int) : Decidable (wrote d y i x' y' c') := by unfold wrote; infer_instance
theorem c_write (J : JobAt Z M h bj bf vf bt vt p q rv d y n room w rs) (W : d.Wf) (O : OutOk d n) (hs : d.t.w ≤ 300) (hy : y < d.t.y + d.t.h) (hw : (w : Int) = d.t.w * d.m.c)
  (hold : ∀ k : Nat, k < (lineT d.s.y y).2.length → kGet ((lineT d.s.y y).1 + (k : Int)) rs = some (rowZ d ((lineT d.s.y y).1 + (k : Int)))) :
  FCall prog zdt #[ptr bj] h fun r h' => ∃ n', JobAt Z M h' bj bf vf bt vt p q rv d (y + 1) n' room w rs ∧ OutOk d n' ∧ (∀ x' y' c', inP n x' y' c' → atP n' x' y' c' = if wrote d y w x' y' c' then pixZ d.m d.s x' y' c' else atP n x' y' c') ∧ Fr (fun c => blk vt c ∨ c = bj) h h' := by
 apply zjt
 unfold ze5
 have hf := zbn W.m.fits
 have hb := JobD.bd W
 have hw1 := W.w1
 have hx0 := W.x0
 have hy0 := W.y0
 refine (c_jobLine J W).mono fun r h1 ⟨u, e, S, e1⟩ => ?_
 subst e
 have hl := zdK W.s.y y
 refine zaR (cs := [.int .i64 (lineT d.s.y y).1, u]) rfl (zad rfl (zad S.one zaq)) rfl fun b2 h2 r2 e2 n2 => ?_
 have E2 := e1.trans e2
 have S2 := S.ext e2
 obtain ⟨au, cu, eu⟩ := S.isSl
 have eu2 : zaf u = some (.int .i64 ((lineT d.s.y y).2.length : Int)) := by rw [eu]; rfl
 have htot : ∀ x c, sumN (fun k => (lineT d.s.y y).2.getD k 0 * zgb d.m d.s x (atZ d.s.border ((lineT d.s.y y).1 + k) d.m.h) c) (lineT d.s.y y).2.length = totZ d.m d.s x y c := fun x c => rfl
 generalize lineT d.s.y y = L at *
 obtain ⟨C, hC⟩ : ∃ C : Nat, d.m.c = (C : Int) := ⟨d.m.c.toNat, by omega⟩
 have hC3 : 1 ≤ C ∧ C ≤ 3 := by omega
 obtain ⟨Wn, hWn⟩ : ∃ Wn : Nat, d.t.w = (Wn : Int) := ⟨d.t.w.toNat, by omega⟩
 have hwn : w = Wn * C := by
  rw [hWn, hC] at hw
  exact_mod_cast hw
 have hwb : w ≤ 900 := by
  rw [hwn]
  have := Nat.mul_le_mul (show Wn ≤ 300 by omega) hC3.2
  omega
 simp only [go_sem, Nat.zero_add, J.c15 E2]
 refine (c_RWidth (J.ring.ext E2)).mono fun r h3 ⟨e, wq⟩ => ?_
 have wq := wq.symm
 subst e wq
 refine zly rfl (by omega) (by omega) fun sv h3 o3 e3 n3 => ?_
 have E3 := E2.trans e3
 have c1 : zah h3 ⟨b2, 1, none⟩ = some u := zac (e3.row r2)
 simp only [go_sem, Nat.zero_add, c1, eu2]
 -- the sums
 obtain ⟨g, hg⟩ : ∃ g : Nat → Nat → Int, g = fun k i => sumN (fun k => L.2.getD k 0 * zgb d.m d.s (d.t.x + ((i / C : Nat) : Int)) (atZ d.s.border (L.1 + k) d.m.h) ((i % C : Nat) : Int)) k := ⟨_, rfl⟩
 refine zaz (α := Unit) L.2.length 0 (fun k _ => [.int .i64 (k : Int)]) (fun k _ h' => Ext h2 h' ∧ Own 1 h' sv w ((List.range w).map fun i => Value.int .i64 (IntKind.i64.wrap (g k i)))) () rfl (Nat.zero_le _)
  ⟨e3, by
   rw [zpS] at o3
   rw [← zau (g := fun i => Value.int .i64 ((fun _ => 0 : Nat → Int) i)) fun i _ => by rw [hg]; rfl]
   exact o3⟩ fun k _ h4 again ρ1 _ hk ⟨E4, o4⟩ Hag => ?_
 have E04 := E2.trans E4
 simp only [go_sem]
 refine zab (fun h5 => ?_) (fun h5 => ?_)
 ·have hk' : k < L.2.length := by omega
  obtain ⟨pk, k1, k2⟩ := (S2.ext E4).int_at (k' := .i64) hk'
  have eb : L.2.getD k 0 = L.2[k] := by simp [List.getD_eq_getElem?_getD, hk']
  rw [k1, zaa, k2, zaa, ← eb]
  refine zak (fun h' => h' = h4) rfl ?_
  try simp only [go_sem, Nat.zero_add]
  refine zae rv (fun h' e => by rw [e]; exact J.c15 E04) ?_
  refine zae (.int .i64 L.1) (fun h' e => by rw [e]; exact zac (E4.row r2)) ?_
  simp only [go_sem]
  rw [w64 (n := L.1 + (k : Int)) (by omega) (by omega)]
  refine (c_RRow (J.ring.ext E04) (L.1 + (k : Int))).mono fun r h5 ⟨v, e, ov, e5, nv⟩ => ?_
  subst e
  rw [hold k hk'] at ov
  have ov : OwnI h5 v (rowZ d (L.1 + (k : Int))) := ov
  have hrl : (rowZ d (L.1 + (k : Int))).length = w := by
   unfold rowZ
   rw [zky, hWn, hC, Int.toNat_natCast, Int.toNat_natCast, hwn]
  have Sv := zo9 (k := .i64) ov
  obtain ⟨av, cv, ev⟩ := Sv.isSl
  have ev2 : zaf v = some (.int .i64 (w : Int)) := by rw [ev, hrl]; rfl
  simp only [go_sem, ev2]
  have o5 := o4.fr (M := fun _ => False) e5.fr fun _ _ => id
  have hrow : ∀ i, i < w → (rowZ d (L.1 + (k : Int))).getD i 0 = IntKind.i64.wrap (zgb d.m d.s (d.t.x + ((i / C : Nat) : Int)) (atZ d.s.border (L.1 + (k : Int)) d.m.h) ((i % C : Nat) : Int)) := fun i hi => by
   have h6 : i % C < C := Nat.mod_lt _ (by omega)
   have h7 : i / C < Wn := by rw [Nat.div_lt_iff_lt_mul (by omega), ← hwn]; exact hi
   have h8 := rowP_get d (atZ d.s.border (L.1 + (k : Int)) d.m.h) (x := i / C) (c := i % C) (by rw [hC, Int.toNat_natCast]; exact h6) (k := Wn) h7
   rw [hC, Int.toNat_natCast, Nat.mul_comm, Nat.div_add_mod] at h8
   unfold rowZ
   rw [hWn, Int.toNat_natCast]
   exact h8
  have hdis : ∀ c, blk sv c → ¬ blk v c := fun c hc hv => by
   have := nv c hv
   have := o4.lt hc
   omega
  refine zaz (α := Unit) w 0 (fun i _ => [.int .i64 (i : Int)]) (fun i _ h' => Ext h2 h' ∧ Rp.Sl (Rp.int .i64) (blk v) h' v (rowZ d (L.1 + (k : Int))) ∧ Own 1 h' sv w ((List.range w).map fun j => Value.int .i64 (IntKind.i64.wrap (if j < i then g (k + 1) j else g k j)))) () rfl (Nat.zero_le _)
   ⟨E4.trans e5, Sv, by
    rw [← zau (g := fun i => Value.int .i64 (IntKind.i64.wrap (g k i))) fun i _ => by rw [if_neg (by omega)]]
    exact o5⟩ fun i _ h6 again2 ρ2 _ hi ⟨E6, Sv6, o6⟩ Hag2 => ?_
  simp only [go_sem]
  refine zab (fun h7 => ?_) (fun h7 => ?_)
  ·have hi' : i < w := by omega
   obtain ⟨pv, v1, v2⟩ := Sv6.int_at (k' := .i64) (i := i) (by omega)
   have ev' : (rowZ d (L.1 + (k : Int)))[i]'(by omega) = (rowZ d (L.1 + (k : Int))).getD i 0 := by simp [List.getD_eq_getElem?_getD, show i < (rowZ d (L.1 + (k : Int))).length by omega]
   rw [ev', hrow i hi'] at v2
   obtain ⟨ps, s1, s2, s3⟩ := Own.at_map o6 (k := .i64) hi'
   simp only [go_sem, v1, v2, s1, s2]
   rw [if_neg (by omega), ziq, zjT]
   have hgk : g k i + L.2.getD k 0 * zgb d.m d.s (d.t.x + ((i / C : Nat) : Int)) (atZ d.s.border (L.1 + (k : Int)) d.m.h) ((i % C : Nat) : Int) = g (k + 1) i := by rw [hg]; rfl
   rw [hgk]
   refine s3 _ _ fun h8 o8 f8 => ?_
   rw [w64 (by omega) (by omega)]
   refine Hag2 () h8 hi' ⟨E6.then_fr f8 fun c hc => n3 c hc, Sv6.fr f8 fun c _ hz hs => hdis c hs hz, ?_⟩
   rw [← zau (g := fun j => Value.int .i64 (if j = i then IntKind.i64.wrap (g (k + 1) i) else IntKind.i64.wrap (if j < i then g (k + 1) j else g k j))) fun j _ => by
    congr 1
    by_cases h1 : j = i
    ·rw [if_pos h1, if_pos (by omega), h1]
    ·rw [if_neg h1]
     by_cases h2 : j < i
     ·rw [if_pos h2, if_pos (by omega)]
     ·rw [if_neg h2, if_neg (by omega)]]
   exact o8
  ·have hiw : i = w := by omega
   subst hiw
   rw [w64 (by omega) (by omega)]
   refine Hag () h6 (by omega) ⟨E6, ?_⟩
   rw [← zau (g := fun j => Value.int .i64 (IntKind.i64.wrap (if j < i then g (k + 1) j else g k j))) fun j hj => by rw [if_pos hj]]
   exact o6
 have hkL : k = L.2.length := by omega
 subst hkL
 have J4 := J.ext E04
 have o4' : Own 1 h4 sv w ((List.range w).map fun i => Value.int .i64 (IntKind.i64.wrap (totZ d.m d.s (d.t.x + ((i / C : Nat) : Int)) y ((i % C : Nat) : Int)))) := by
  rw [← zau (g := fun i => Value.int .i64 (IntKind.i64.wrap (g L.2.length i))) fun i _ => by rw [hg]; rw [← htot]]
  exact o4
 have hdv : ∀ c, blk sv c → ¬ blk vt c := fun c hc hv => by
  have h6 := n3 c hc
  have h7 := J.out.ltv hv
  have h8 := E2.1
  omega
 obtain ⟨asv, csv, es⟩ := o4'.isSl
 have es2 : zaf sv = some (.int .i64 (w : Int)) := by rw [es]; rfl
 simp only [go_sem, Nat.zero_add, J.c1 E04]
 refine (zbb J4.out).mono fun r h5 ⟨e, wq⟩ => ?_
 have wq := wq.symm
 subst e wq
 rw [O.c, hC]
 simp only [go_sem, es2]
 refine zaz (α := Pic) w 0 (fun i _ => [.int .i64 (i : Int)]) (fun i n' h' => JobAt Z M h' bj bf vf bt vt p q rv d y n' room w rs ∧ OutOk d n' ∧ (∀ x' y' c', inP n x' y' c' → atP n' x' y' c' = if wrote d y i x' y' c' then pixZ d.m d.s x' y' c' else atP n x' y' c') ∧
   Own 1 h' sv w ((List.range w).map fun i => Value.int .i64 (IntKind.i64.wrap (totZ d.m d.s (d.t.x + ((i / C : Nat) : Int)) y ((i % C : Nat) : Int)))) ∧ Fr (blk vt) h4 h') n rfl (Nat.zero_le _)
  ⟨J4, O, fun x' y' c' hi => by
   rw [if_neg]
   unfold wrote inP at *
   rintro ⟨a1, a2, a3, a4⟩
   have := Int.mul_nonneg (show 0 ≤ x' - d.t.x by omega) (show 0 ≤ d.m.c by omega)
   omega, o4', Fr.refl _ _⟩ fun i n' h6 again ρ3 _ hi ⟨J6, O6, A6, o6, f6⟩ Hag => ?_
 simp only [go_sem]
 refine zab (fun h7 => ?_) (fun h7 => ?_)
 ·have hi' : i < w := by omega
  obtain ⟨ps, s1, s2, _⟩ := Own.at_map o6 (k := .i64) hi'
  simp only [go_sem, s1, s2]
  refine zak (fun h' => h' = h6) rfl ?_
  try simp only [go_sem, Nat.zero_add]
  refine zae (ptr bt) (fun h' e => by rw [e]; exact J6.c1 (Ext.refl _)) ?_
  refine zae (.int .i64 d.t.x) (fun h' e => by rw [e]; exact J6.c6 (Ext.refl _)) ?_
  rw [zdY _ _ _ _ (by omega), zaa, Int.tdiv_eq_ediv_of_nonneg (by omega), show (i : Int) / (C : Int) = ((i / C : Nat) : Int) by omega]
  have hdiv : i / C < Wn := by rw [Nat.div_lt_iff_lt_mul (by omega), ← hwn]; exact hi'
  have hmod : i % C < C := Nat.mod_lt _ (by omega)
  have hdm := Nat.div_add_mod i C
  have hdmi : ((i / C : Nat) : Int) * (C : Int) + ((i % C : Nat) : Int) = (i : Int) := by
   rw [← Int.natCast_mul, Nat.mul_comm]; omega
  have hrem : (i : Int) % (C : Int) = ((i % C : Nat) : Int) := by omega
  have hdom := A6
  generalize hqd : i / C = qd at *
  generalize hrd : i % C = rd at *
  simp only [go_sem]
  rw [w64 (n := (qd : Int)) (by omega) (by omega), w64 (n := d.t.x + (qd : Int)) (by omega) (by omega)]
  refine zae (.int .i64 y) (fun h' e => by rw [e]; exact J6.c16 (Ext.refl _)) ?_
  rw [zaJ _ _ _ _ (by omega), zaa, Int.tmod_eq_emod_of_nonneg (by omega), hrem]
  refine zae (ptr bt) (fun h' e => by rw [e]; exact J6.c1 (Ext.refl _)) ?_
  refine (zcU J6.out).mono fun r h8 ⟨e, wq⟩ => ?_
  have wq := wq.symm
  subst e wq
  refine ⟨rfl, ?_⟩
  refine (c_Round (zcA _)).mono fun r h8 ⟨e, wq⟩ => ?_
  have wq := wq.symm
  subst e wq
  refine ⟨rfl, ?_⟩
  have hm1 := W.m.m1
  have hm2 := W.m.m2
  rw [O6.m]
  have hr := znk (IntKind.i64.wrap (totZ d.m d.s (d.t.x + (qd : Int)) y (rd : Int))) (most := d.m.most) (by omega)
  refine (c_Set J6.out O6.wf hr.1 hr.2.1).mono fun r h8 ⟨e, I8, f8, s8⟩ => ?_
  subst e
  have hxw := W.xw
  have hyh := W.yh
  have hyJ := J.y0
  have hin : inP n' (d.t.x + (qd : Int)) y (rd : Int) := ⟨by omega, by rw [O6.w]; omega, by omega, by rw [O6.h]; omega, by omega, by rw [O6.c]; omega⟩
  have hset : inP n' (d.t.x + (qd : Int)) y (rd : Int) ∧ zhu (IntKind.i64.wrap (totZ d.m d.s (d.t.x + (qd : Int)) y (rd : Int))) d.m.most ≤ n'.most := ⟨hin, by rw [O6.m]; omega⟩
  rw [if_pos hset] at I8
  try simp only [go_sem]
  rw [w64 (by omega) (by omega)]
  refine Hag _ h8 hi' ⟨J6.set f8 I8, ⟨setP_Wf O6.wf hr.1 hset.2, O6.w, O6.h, O6.c, O6.m⟩, fun x' y' c' hip => ?_, o6.fr f8 hdv, f6.trans f8⟩
  rw [zq4 O6.wf hin, A6 x' y' c' hip]
  by_cases he : x' = d.t.x + (qd : Int) ∧ y' = y ∧ c' = (rd : Int)
  ·rw [if_pos he]
   obtain ⟨rfl, rfl, rfl⟩ := he
   rw [if_pos]
   ·rfl
   ·refine ⟨rfl, by omega, by omega, ?_⟩
    rw [hC, show d.t.x + (qd : Int) - d.t.x = (qd : Int) by omega]
    omega
  ·rw [if_neg he]
   have hiff : wrote d y ((i + 1 : Nat) : Int) x' y' c' ↔ wrote d y (i : Int) x' y' c' := by
    unfold wrote
    constructor
    ·rintro ⟨a1, a2, a3, a4⟩
     refine ⟨a1, a2, a3, ?_⟩
     rcases Int.lt_or_le ((x' - d.t.x) * d.m.c + c') i with h9 | h9
     ·exact h9
     ·exfalso
      have heq : (x' - d.t.x) * d.m.c + c' = (qd : Int) * d.m.c + (rd : Int) := by rw [hC] at *; omega
      have hc0 := hip.2.2.2.2
      have hc1 := O.c
      obtain ⟨b1, b2⟩ := zlf heq hc0.1 (by omega) (by omega) (by omega)
      exact he ⟨by omega, a1, b2⟩
    ·rintro ⟨a1, a2, a3, a4⟩
     exact ⟨a1, a2, a3, by omega⟩
   by_cases hwr : wrote d y (i : Int) x' y' c'
   ·rw [if_pos hwr, if_pos (hiff.2 hwr)]
   ·rw [if_neg hwr, if_neg fun hh => hwr (hiff.1 hh)]
 ·have hiw : i = w := by omega
  subst hiw
  simp only [go_sem, Nat.zero_add, J6.c16 (Ext.refl _)]
  have hyJ := J.y0
  rw [w64 (n := y + 1) (by omega) (by omega)]
  refine zbl J6.row (by simp [jobC, tileC]) rfl fun h8 r8 u8 => ?_
  have r8 : h8[bj]? = some (.cells (jobC bf bt p q rv d (y + 1)).toArray 93 (0, 0)) := r8
  have bjz : ∀ c, Z c → ¬ c = bj := fun c hc => (J6.zz c hc).2.1
  refine ⟨n', ⟨r8, J6.src.fr u8.fr (bjz _ J6.zf.1) fun c hc => bjz _ (J6.zf.2 c hc), J6.tx.fr u8.fr fun c _ hz => bjz c hz, J6.ty.fr u8.fr fun c _ hz => bjz c hz, J6.ring.fr u8.fr fun c _ hm he => J6.mj.1 (he ▸ hm), J6.out.fr u8.fr (Ne.symm J6.jt.1) fun c hc he => J6.jt.2 (he ▸ hc), J6.zf, J6.zz, J6.mj, J6.jt, by omega, by omega,
   fun c hc => by rw [u8.1]; exact J6.zl c hc⟩, O6, A6, ?_⟩
  exact ((E04.fr (M := fun c => blk vt c ∨ c = bj)).trans (f6.mono fun c _ hc => .inl hc)).trans (u8.fr.mono fun c _ hc => .inr hc)
end
end
end Go.Proofs.YtojmncnelbnceaaGreatDoor
namespace Go.Proofs.YtojmncnelbnceaaGreatDoor
open Go Go.Crisp
theorem zjA : ∀ (k : Nat) (l : List Nat), l.Nodup → (∀ x ∈ l, x < k) → l.length ≤ k
 | 0, [], _, _ => by simp
 | 0, x :: _, _, h => absurd (h x (by simp)) (by omega)
 | k + 1, l, hn, h => by
  by_cases hk : k ∈ l
  ·have h1 := zjA k (l.erase k) (hn.erase k) fun x hx => by
    have h2 := h x (List.mem_of_mem_erase hx)
    have h3 : x ≠ k := fun e => by rw [e] at hx; exact (List.Nodup.not_mem_erase hn) hx
    omega
   rw [List.length_erase_of_mem hk] at h1
   omega
  ·have := zjA k l hn fun x hx => by
    have h2 := h x hx
    have h3 : x ≠ k := fun e => hk (e ▸ hx)
    omega
   omega
theorem nodup_range {l : List Int} {a b : Int} (hn : l.Nodup) (h : ∀ x ∈ l, a ≤ x ∧ x < b) : (l.length : Int) ≤ max 0 (b - a) := by
 have h1 : (l.map fun x => (x - a).toNat).Nodup := by
  rw [List.nodup_iff_pairwise_ne, List.pairwise_map]
  have h2 := (List.nodup_iff_pairwise_ne.1 hn)
  refine List.Pairwise.imp_of_mem ?_ h2
  intro x y hx hy hne he
  have := h x hx
  have := h y hy
  omega
 have h3 := zjA (b - a).toNat _ h1 fun x hx => by
  obtain ⟨z, hz, rfl⟩ := List.mem_map.1 hx
  have := h z hz
  omega
 rw [List.length_map] at h3
 omega
theorem znU {α : Type} (j i : Int) (v : α) : ∀ kv : List (Int × α), kGet i (kv ++ [(j, v)]) = match kGet i kv with | some u => some u | none => if i = j then some v else none
 | [] => by
  simp only [List.nil_append, kGet]
  by_cases h : j = i
  ·subst h; simp
  ·rw [if_neg h, if_neg (Ne.symm h)]
 | (k, u) :: kv => by
  simp only [List.cons_append, kGet]
  by_cases h : k = i
  ·rw [if_pos h, if_pos h]
  ·rw [if_neg h, if_neg h]
   exact znU j i v kv
theorem zh6 : ∀ (l : List Int) (a : Int), l.foldl min a ≤ a ∧ ∀ x ∈ l, l.foldl min a ≤ x
 | [], a => ⟨Int.le_refl _, fun x hx => absurd hx (by simp)⟩
 | y :: l, a => by
  have h := zh6 l (min a y)
  rw [List.foldl_cons]
  refine ⟨by have := h.1; omega, fun x hx => ?_⟩
  rcases List.mem_cons.1 hx with rfl | hx
  ·have := h.1; omega
  ·exact h.2 x hx
theorem minL_le {l : List Int} {x : Int} (h : x ∈ l) : minL l ≤ x := by
 cases l with
 | nil => simp at h
 | cons y l =>
  rcases List.mem_cons.1 h with rfl | h
  ·exact (zh6 l _).1
  ·exact (zh6 l y).2 x h
structure Held (row : Int → List Int) (rs : List (Int × List Int)) (F e : Int) : Prop where
 nd : (rs.map Prod.fst).Nodup
 inn : ∀ j, F ≤ j → j < e → kGet j rs = some (row j)
 lt : ∀ x ∈ rs.map Prod.fst, x < e
theorem Held.none {row : Int → List Int} {rs : List (Int × List Int)} {F e : Int} (H : Held row rs F e) {j : Int} (hj : e ≤ j) : kGet j rs = none := zee.2 fun hm => by have := H.lt j hm; omega
theorem Held.start (row : Int → List Int) (F : Int) : Held row [] F F := ⟨by simp, fun j h1 h2 => absurd h2 (by omega), by simp⟩
theorem Held.move {row : Int → List Int} {rs : List (Int × List Int)} {F e F' : Int} (H : Held row rs F e) (hF : F ≤ F') : Held row rs F' (max e F') :=
 ⟨H.nd, fun j h1 h2 => H.inn j (by omega) (by omega), fun x hx => by have := H.lt x hx; omega⟩
theorem Held.next {row : Int → List Int} {rs : List (Int × List Int)} {F e E n : Int} {is : Bool} (H : Held row rs F e) (h1 : F ≤ e) (h2 : e ≤ E) (hn : zpH rs F E n is) : (e < E ∧ is = true ∧ n = e) ∨ (e = E ∧ is = false ∧ n = 0) := by
 rcases hn with ⟨rfl, a1, a2, a3, a4⟩ | ⟨rfl, rfl, a4⟩
 ·left
  have h3 : ¬ n < e := fun h => by rw [H.inn n a1 h] at a3; cases a3
  have h4 : ¬ e < n := fun h => by have := a4 e h1 h; rw [H.none (Int.le_refl _)] at this; cases this
  exact ⟨by omega, rfl, by omega⟩
 ·right
  refine ⟨?_, rfl, rfl⟩
  rcases Int.lt_or_le e E with h | h
  ·have := a4 e h1 h; rw [H.none (Int.le_refl _)] at this; cases this
  ·omega
theorem Held.put {row : Int → List Int} {rs : List (Int × List Int)} {F e E : Int} {room w : Nat} (H : Held row rs F e) (h1 : F ≤ e) (h2 : e < E) (hr : E - F ≤ room) (hr1 : 1 ≤ room) (hl : rs.length ≤ room) (hw : (row e).length = w) :
  Held row (putR room w rs e (row e)) F (e + 1) ∧ (putR room w rs e (row e)).length ≤ room := by
 have hnone := H.none (Int.le_refl e)
 have hlen : (rs.map Prod.fst).length = rs.length := by simp
 have hmin : fullB room rs = true → minL (rs.map Prod.fst) ∈ rs.map Prod.fst := fun hf => minL_mem fun h0 => by
  have : rs.length = 0 := by rw [← hlen, h0]; rfl
  unfold fullB at hf
  have := of_decide_eq_true hf
  omega
 have hok : putOk room w rs e (row e) = true := by
  unfold putOk
  rw [hnone, decide_eq_true hw]
  by_cases hf : fullB room rs = true
  ·have := H.lt _ (hmin hf)
   rw [hf, decide_eq_false (show ¬ e < minL (rs.map Prod.fst) by omega)]
   rfl
  ·have hf : fullB room rs = false := by simpa using hf
   rw [hf]; rfl
 unfold putR
 rw [if_pos hok]
 -- what is left of the rows
 have key : ((zem room rs).map Prod.fst).Nodup ∧ (∀ x ∈ (zem room rs).map Prod.fst, x < e) ∧ (∀ j, F ≤ j → j < e → kGet j (zem room rs) = some (row j)) ∧ (zem room rs).length + 1 ≤ room := by
  unfold zem
  by_cases hf : fullB room rs = true
  ·rw [if_pos hf]
   have hm := hmin hf
   have hfl : room ≤ rs.length := of_decide_eq_true hf
   have hmF : minL (rs.map Prod.fst) < F := by
    rcases Int.lt_or_le (minL (rs.map Prod.fst)) F with h | h
    ·exact h
    ·have hall : ∀ x ∈ rs.map Prod.fst, F ≤ x ∧ x < e := fun x hx => by
      have h3 : minL (rs.map Prod.fst) ≤ x := minL_le hx
      have := H.lt x hx
      omega
     have := nodup_range H.nd hall
     rw [hlen] at this
     omega
   have hsub : (kDel (minL (rs.map Prod.fst)) rs).Sublist rs := zqI
   have hg : ∃ v, kGet (minL (rs.map Prod.fst)) rs = some v := by
    cases hg : kGet (minL (rs.map Prod.fst)) rs with
    | none => exact absurd hm (zee.1 hg)
    | some v => exact ⟨v, rfl⟩
   obtain ⟨v, hg⟩ := hg
   have hdl := zmR hg
   refine ⟨(hsub.map Prod.fst).nodup H.nd, fun x hx => H.lt x ((hsub.map Prod.fst).subset hx), fun j j1 j2 => ?_, by omega⟩
   rw [zmQ H.nd, if_neg (by omega)]
   exact H.inn j j1 j2
  ·rw [if_neg hf]
   have : ¬ room ≤ rs.length := fun h => hf (decide_eq_true h)
   exact ⟨H.nd, H.lt, H.inn, by omega⟩
 obtain ⟨k1, k2, k3, k4⟩ := key
 refine ⟨⟨?_, fun j j1 j2 => ?_, fun x hx => ?_⟩, by simp; omega⟩
 ·rw [List.map_append, List.nodup_append]
  refine ⟨k1, by simp, fun a ha b hb he => ?_⟩
  have := k2 a ha
  simp at hb
  omega
 ·rw [znU]
  by_cases hj : j < e
  ·rw [k3 j j1 hj]
  ·have hje : j = e := by omega
   subst hje
   have : kGet j (zem room rs) = Option.none := zee.2 fun hm => by have := k2 j hm; omega
   rw [this]
   simp
 ·rw [List.map_append] at hx
  rcases List.mem_append.1 hx with h | h
  ·have := k2 x h; omega
  ·simp at h; omega
theorem zk3 {a b c : Int} (h : a ≤ b) (hc : 0 < c) : a / c ≤ b / c := Int.ediv_le_ediv hc h
theorem lowW_mono {f n m i k : Int} (hn : 1 ≤ n) (hm : 1 ≤ m) (h : i ≤ k) : lowW f n m i ≤ lowW f n m k := by
 unfold lowW
 have h1 : i * n ≤ k * n := Int.mul_le_mul_of_nonneg_right h (by omega)
 have h2 : (2 * i + 1) * n ≤ (2 * k + 1) * n := Int.mul_le_mul_of_nonneg_right (by omega) (by omega)
 split
 ·exact zk3 h1 (by omega)
 ·have := zk3 (a := (2 * i + 1) * n - m - zaX f * 2 * max n m) (b := (2 * k + 1) * n - m - zaX f * 2 * max n m) (c := 2 * m) (by omega) (by omega)
  omega
theorem highW_mono {f n m i k : Int} (hn : 1 ≤ n) (hm : 1 ≤ m) (h : i ≤ k) : highW f n m i ≤ highW f n m k := by
 unfold highW ceilD
 have h1 : (i + 1) * n ≤ (k + 1) * n := Int.mul_le_mul_of_nonneg_right (by omega) (by omega)
 have h2 : (2 * i + 1) * n ≤ (2 * k + 1) * n := Int.mul_le_mul_of_nonneg_right (by omega) (by omega)
 split
 ·have := zk3 (a := -((k + 1) * n)) (b := -((i + 1) * n)) (c := m) (by omega) (by omega)
  omega
 ·have := zk3 (a := -((2 * k + 1) * n - m + zaX f * 2 * max n m)) (b := -((2 * i + 1) * n - m + zaX f * 2 * max n m)) (c := 2 * m) (by omega) (by omega)
  omega
theorem zdq {g : Nat → Int} : ∀ {n : Nat}, za4 g n = 0 → ∀ i, i < n → g i = 0
 | 0, _, i, h => absurd h (by omega)
 | n + 1, hz, i, h => by
  have e : za4 g (n + 1) = if za4 g n ≠ 0 then za4 g n else g n := rfl
  rw [e] at hz
  by_cases h0 : za4 g n = 0
  ·rw [if_neg (by simpa using h0)] at hz
   by_cases hi : i = n
   ·rw [hi]; exact hz
   ·exact zdq h0 i (by omega)
  ·rw [if_pos h0] at hz
   exact absurd hz h0
abbrev lnF (t : Tbl) (y : Int) : Int := (lineT t y).1
abbrev lnE (t : Tbl) (y : Int) : Int := (lineT t y).1 + ((lineT t y).2.length : Int)
structure zjG (t : Tbl) : Prop where
 f : ∀ i k : Int, 0 ≤ i → i ≤ k → k < t.lines.length → lnF t i ≤ lnF t k
 e : ∀ i k : Int, 0 ≤ i → i ≤ k → k < t.lines.length → lnE t i ≤ lnE t k
 m : ∀ i : Int, (((lineT t i).2.length : Nat) : Int) ≤ mostL t.lines
theorem lineT_at {n : Int} {N : Nat} {g : Nat → Int × List Int} {i : Int} (h0 : 0 ≤ i) (h1 : i < N) : lineT ⟨n, (List.range N).map g⟩ i = g i.toNat := by
 unfold lineT
 rw [if_pos h0]
 have : i.toNat < N := by omega
 simp [List.getD_eq_getElem?_getD, this]
theorem znJ : ∀ (ls : List (Int × List Int)) (a : Int), a ≤ ls.foldl (fun m x => max m (x.2.length : Int)) a ∧ ∀ x ∈ ls, ((x.2.length : Nat) : Int) ≤ ls.foldl (fun m x => max m (x.2.length : Int)) a
 | [], a => ⟨Int.le_refl _, fun x hx => absurd hx (by simp)⟩
 | y :: l, a => by
  have h := znJ l (max a (y.2.length : Int))
  rw [List.foldl_cons]
  refine ⟨by have := h.1; omega, fun x hx => ?_⟩
  rcases List.mem_cons.1 hx with rfl | hx
  ·have := h.1; omega
  ·exact h.2 x hx
theorem line_most (t : Tbl) (i : Int) : (((lineT t i).2.length : Nat) : Int) ≤ mostL t.lines := by
 have h := znJ t.lines 0
 unfold lineT
 split
 ·by_cases hi : i.toNat < t.lines.length
  ·have e : t.lines.getD i.toNat (0, []) = t.lines[i.toNat] := by simp [List.getD_eq_getElem?_getD, hi]
   rw [e]
   exact h.2 _ (List.getElem_mem hi)
  ·have e : t.lines.getD i.toNat (0, []) = (0, []) := by simp [List.getD_eq_getElem?_getD, Nat.le_of_not_lt hi]
   rw [e]; exact h.1
 ·exact h.1
theorem zdN {l : List Int} (h : zaS l = 0) : (zaC l).length = l.length := by unfold zaC; rw [if_pos h, zeW]
theorem resize_mono {f n m : Int} (hc : za2 f n m = 0) : zjG (zbA f n m) := by
 have h0 : ¬ (¬ (0 ≤ f ∧ f < 3) ∨ ¬ zao n ∨ ¬ zao m) := fun h => by unfold za2 at hc; rw [if_pos h] at hc; cases hc
 have hz := hc
 unfold za2 at hz
 rw [if_neg h0] at hz
 have hf : 0 ≤ f ∧ f < 3 := Decidable.of_not_not fun h => h0 (.inl h)
 have hn : zao n := Decidable.of_not_not fun h => h0 (.inr (.inl h))
 have hm : zao m := Decidable.of_not_not fun h => h0 (.inr (.inr h))
 unfold zao at hn hm
 have hlen : (zbA f n m).lines.length = m.toNat := by show (List.map _ (List.range m.toNat)).length = _; rw [List.length_map, List.length_range]
 have hline : ∀ i : Int, 0 ≤ i → i < m → lineT (zbA f n m) i = (zbj f n m i, zaC (zaW f n m i)) := fun i i0 i1 => by
  have := lineT_at (n := n) (N := m.toNat) (g := fun i : Nat => (zbj f n m i, zaC (zaW f n m i))) i0 (by omega)
  rw [show ((i.toNat : Nat) : Int) = i by omega] at this
  exact this
 have hmay : ∀ i : Int, 0 ≤ i → i < m → mayR f n m i := fun i i0 i1 => ⟨hf.1, hf.2, hn.1, hn.2, hm.1, hm.2, i0, i1⟩
 have hF : ∀ i : Int, 0 ≤ i → i < m → lnF (zbA f n m) i = lowW f n m i := fun i i0 i1 => by
  unfold lnF
  rw [hline i i0 i1]
  show zbj f n m i = _
  unfold zbj
  rw [if_pos (hmay i i0 i1)]
 have hE : ∀ i : Int, 0 ≤ i → i < m → lnE (zbA f n m) i = highW f n m i := fun i i0 i1 => by
  have h1 := hF i i0 i1
  unfold lnF at h1
  unfold lnE
  rw [h1, hline i i0 i1]
  have h2 := zdq hz i.toNat (by omega)
  rw [show ((i.toNat : Nat) : Int) = i by omega] at h2
  show lowW f n m i + (((zaC (zaW f n m i)).length : Nat) : Int) = _
  rw [zdN h2]
  unfold zaW
  rw [if_pos (hmay i i0 i1)]
  unfold rowW
  rw [List.length_map, List.length_range]
  have := zpK (hmay i i0 i1)
  omega
 refine ⟨fun i k i0 ik k1 => ?_, fun i k i0 ik k1 => ?_, line_most _⟩
 ·rw [hlen] at k1
  rw [hF i i0 (by omega), hF k (by omega) (by omega)]
  exact lowW_mono hn.1 hm.1 ik
 ·rw [hlen] at k1
  rw [hE i i0 (by omega), hE k (by omega) (by omega)]
  exact highW_mono hn.1 hm.1 ik
theorem filter_mono (l : List Int) (n : Int) : zjG (zc1 l n) := by
 have hlen : (zc1 l n).lines.length = n.toNat := by show (List.map _ (List.range n.toNat)).length = _; rw [List.length_map, List.length_range]
 have hline : ∀ i : Int, 0 ≤ i → i < n.toNat → lineT (zc1 l n) i = (i - (l.length / 2 : Nat), zaC l) := fun i i0 i1 => by
  have := lineT_at (n := n) (N := n.toNat) (g := fun i : Nat => ((i : Int) - (l.length / 2 : Nat), zaC l)) i0 i1
  rw [show ((i.toNat : Nat) : Int) = i by omega] at this
  exact this
 refine ⟨fun i k i0 ik k1 => ?_, fun i k i0 ik k1 => ?_, line_most _⟩
 ·rw [hlen] at k1
  unfold lnF
  rw [hline i i0 (by omega), hline k (by omega) k1]
  show i - _ ≤ k - _
  omega
 ·rw [hlen] at k1
  unfold lnE
  rw [hline i i0 (by omega), hline k (by omega) k1]
  show i - ((l.length / 2 : Nat) : Int) + ((zaC l).length : Int) ≤ k - ((l.length / 2 : Nat) : Int) + ((zaC l).length : Int)
  omega
theorem makeS_mono {o : OpD} {w h : Int} (hc : makeC o w h = 0) : zjG (makeS o w h).y := by
 have ht : zcp o w h = 0 := by
  unfold makeC at hc
  split at hc
  ·cases hc
  ·exact hc
 show zjG (zbI o h)
 unfold zcp at ht
 unfold zbI
 split
 ·rename_i hk
  rw [if_pos hk] at ht
  by_cases h1 : za2 o.filter w o.w = 0
  ·rw [if_neg (by simpa using h1)] at ht
   exact resize_mono ht
  ·rw [if_pos h1] at ht
   exact absurd ht h1
 ·exact filter_mono _ _
end Go.Proofs.YtojmncnelbnceaaGreatDoor
namespace Go.Crisp
open Go
theorem FCall.at {P : Program} {f : FuncId} {args : Array Value} {h : Heap} {v : Value} {K : Value → Heap → Prop} (H : FCall P f args h fun r h' => r = v ∧ h' = h) (k : K v h) : FCall P f args h K :=
 H.mono fun r h' ⟨e, w⟩ => by rw [e, w]; exact k
theorem FCall.to {P : Program} {f : FuncId} {args : Array Value} {h : Heap} {v : Value} {K : Value → Heap → Prop} (H : FCall P f args h fun r h' => r = v ∧ Ext h h') (k : ∀ h', Ext h h' → K v h') : FCall P f args h K :=
 H.mono fun r h' ⟨e, w⟩ => by rw [e]; exact k h' w
theorem Fr.after {M N : Nat → Prop} {a b c : Heap} (f : Fr M a b) (k : Fr N b c) (n : ∀ i, i < a.size → N i → M i) : Fr M a c :=
 ⟨Nat.le_trans f.1 k.1, fun i hi hm => (k.2 i (Nat.lt_of_lt_of_le hi f.1) fun x => hm (n i hi x)).trans (f.2 i hi hm)⟩
theorem Ext.after {N : Nat → Prop} {a b c : Heap} (f : Ext a b) (k : Fr N b c) : Fr N a c := (f.fr (M := N)).after k fun _ _ x => x
theorem Rp.push_ow1S {α : Type} {e : Rp α} {Z P : Nat → Prop} {Q : Heap → Prop} {z z' c : Value} {t t' : TypeId} {bytes : Nat} {s : Value} {h : Heap} {l : List α} {x : α} {K : Value → Heap → Prop} (hw : e.w = 1)
  (hs : Rp.Ow e Z h s l) (hx : e.R Z h [c] x) (hz : z.cells.size = 1) (hb : (l.length + 1) * bytes ≤ 140737488355328) (hn : l.length + 1 ≤ 9223372036854775807) (hZ : ∀ b, Z b → b < h.size) (hQ : ∀ h', Ext h h' → Q h')
  (H : ∀ s' h', Rp.Ow e Z h' s' (l ++ [x]) → Fr (blk s) h h' → (∀ b, blk s' b → blk s b ∨ h.size ≤ b) → K s' h') : rowK #[z'] t 1 [(0, 1, c)] h fun v2 h3 => Q h3 ∧ appK z t' 1 bytes s v2 h3 K := by
 refine zbZ (fill_one (e.one hx c (by simp))) fun b h1 r1 e1 n1 => ⟨hQ h1 e1, ?_⟩
 have S1 := SlC.single (cs := [c]) r1
 rw [show [c].length = e.w by rw [hw]; rfl] at S1
 have ee : appK z t' 1 bytes s (.slice (some ⟨b, 0, none⟩) 1 1) h1 K = appK z t' e.w bytes s (.slice (some ⟨b, 0, none⟩) 1 1) h1 K := by rw [hw]
 rw [ee]
 refine Rp.app_ow (l2 := [x]) (hs.ext e1) S1 (fun i hi => ?_) (hz.trans hw.symm) (by simpa using hb) (by simpa using hn) (fun k hk => Nat.lt_of_lt_of_le (hZ k hk) e1.1) fun s' h' o' f' n' =>
  H s' h' o' (e1.fr.trans f') fun k hk => (n' k hk).imp id fun h2 => Nat.le_trans e1.1 h2
 have hi : i = 0 := by simpa using hi
 subst hi
 rw [Rp.el_self (e.len hx)]
 exact e.ext hx e1
theorem New.pushS {α : Type} {e : Rp α} {Q : Heap → Prop} {z z' c : Value} {t t' : TypeId} {bytes : Nat} {h h1 : Heap} {v : Value} {l : List α} {x : α} {K : Value → Heap → Prop} (hw : e.w = 1) (H : New e h h1 v l)
  (hx : e.R (fun _ => False) h1 [c] x) (hz : z.cells.size = 1) (hb : (l.length + 1) * bytes ≤ 140737488355328) (hn : l.length + 1 ≤ 9223372036854775807) (hQ : ∀ h', Ext h1 h' → Q h')
  (HK : ∀ s' h', New e h h' s' (l ++ [x]) → Fr (blk v) h1 h' → (∀ b, blk s' b → blk v b ∨ h1.size ≤ b) → K s' h') : rowK #[z'] t 1 [(0, 1, c)] h1 fun v2 h3 => Q h3 ∧ appK z t' 1 bytes v v2 h3 K := by
 refine Rp.push_ow1S (P := fun _ => False) hw H.1 hx hz hb hn (fun b hb => hb.elim) hQ fun s' h' o' f' n' => HK s' h' ⟨o', H.2.1.then_fr f' H.2.2, fun b hb => ?_⟩ f' n'
 rcases n' b hb with h1 | h1
 ·exact H.2.2 b h1
 ·exact Nat.le_trans H.2.1.1 h1
theorem New.fr {α : Type} {e : Rp α} {M : Nat → Prop} {h h1 h' : Heap} {v : Value} {l : List α} (H : New e h h1 v l) (f : Fr M h1 h') (hm : ∀ b, M b → h.size ≤ b) (q : ∀ b, blk v b → ¬ M b) : New e h h' v l :=
 ⟨H.1.fr f (fun b _ hb => hb.elim) q, H.2.1.then_fr f hm, H.2.2⟩
theorem eqT (a : Int) : (a = a) = True := eq_true rfl
theorem ptr_nn (a : Nat) : binV .p .neq (.pointer (some ⟨a, 0, none⟩)) (.pointer none) = some (.bool true) := rfl
theorem zo6 (a : Nat) : binV .p .eql (.pointer (some ⟨a, 0, none⟩)) (.pointer none) = some (.bool false) := rfl
theorem nil_nn : binV .p .neq (.pointer none) (.pointer none) = some (.bool false) := rfl
theorem nil_en : binV .p .eql (.pointer none) (.pointer none) = some (.bool true) := rfl
end Go.Crisp
namespace Go.Proofs.YtojmncnelbnceaaGreatDoor
open Go Go.Crisp
attribute [local irreducible] FCall rowK newK stK iteK vK qK drawK gK joinK loopK mkK appK cpyK zqt znp bsK clK zgP zga newmK
open _root_.Go.Proofs.Tryz
section
def Grow (B : Nat → Prop) (h h' : Heap) : Nat → Prop := fun c => B c ∨ (h.size ≤ c ∧ c < h'.size)
structure JobSt (Z B : Nat → Prop) (h : Heap) (bj bf : Nat) (vf : Value) (bt : Nat) (vt p q rv : Value) (d : JobD) (y e : Int) (n : Pic) (room w : Nat) : Prop where
 at_ : ∃ M rs, JobAt Z M h bj bf vf bt vt p q rv d y n room w rs ∧ (∀ c, M c → B c) ∧ (y < d.t.y + d.t.h → Held (rowZ d) rs (lnF d.s.y y) e ∧ lnF d.s.y y ≤ e ∧ e ≤ lnE d.s.y y)
 bj0 : B bj
 bl : ∀ c, B c → c < h.size
 bz : ∀ c, B c → ¬ Z c ∧ c ≠ bt ∧ ¬ blk vt c
 out : OutOk d n
theorem JobSt.ext {Z B : Nat → Prop} {h h' : Heap} {bj bf : Nat} {vf : Value} {bt : Nat} {vt p q rv : Value} {d : JobD} {y e : Int} {n : Pic} {room w : Nat} (S : JobSt Z B h bj bf vf bt vt p q rv d y e n room w) (k : Ext h h') : JobSt Z B h' bj bf vf bt vt p q rv d y e n room w := by
 obtain ⟨⟨M, rs, J, a, b⟩, c, f, g, o⟩ := S
 exact ⟨⟨M, rs, J.ext k, a, b⟩, c, fun c hc => Nat.lt_of_lt_of_le (f c hc) k.1, g, o⟩
theorem JobAt.chg {Z M Q : Nat → Prop} {h h' : Heap} {bj bf : Nat} {vf : Value} {bt : Nat} {vt p q rv : Value} {d : JobD} {y : Int} {n n' : Pic} {room w : Nat} {rs : List (Int × List Int)} (J : JobAt Z M h bj bf vf bt vt p q rv d y n room w rs) (f : Fr Q h h')
  (qz : ∀ c, Z c → ¬ Q c) (qm : ∀ c, M c → ¬ Q c) (qj : ¬ Q bj) (I : IsImg h' bt vt n') : JobAt Z M h' bj bf vf bt vt p q rv d y n' room w rs :=
 ⟨f.row J.row qj, J.src.fr f (qz _ J.zf.1) fun c hc => qz _ (J.zf.2 c hc), J.tx.fr f fun c _ hz => qz c hz, J.ty.fr f fun c _ hz => qz c hz, J.ring.fr f fun c _ hm => qm c hm, I, J.zf, J.zz, J.mj, J.jt, J.y0, J.y1, fun c hc => Nat.lt_of_lt_of_le (J.zl c hc) f.1⟩
theorem JobSt.other {Z B Q : Nat → Prop} {h h' : Heap} {bj bf : Nat} {vf : Value} {bt : Nat} {vt p q rv : Value} {d : JobD} {y e : Int} {n n' : Pic} {room w : Nat} (S : JobSt Z B h bj bf vf bt vt p q rv d y e n room w) (f : Fr Q h h')
  (qz : ∀ c, Z c → ¬ Q c) (qb : ∀ c, B c → ¬ Q c) (I : IsImg h' bt vt n') (O : OutOk d n') : JobSt Z B h' bj bf vf bt vt p q rv d y e n' room w := by
 obtain ⟨⟨M, rs, J, a, b⟩, c, l, g, o⟩ := S
 exact ⟨⟨M, rs, J.chg f qz (fun k hk => qb k (a k hk)) (qb _ c) I, a, b⟩, c, fun c hc => Nat.lt_of_lt_of_le (l c hc) f.1, g, O⟩
theorem JobSt.img {Z B : Nat → Prop} {h : Heap} {bj bf : Nat} {vf : Value} {bt : Nat} {vt p q rv : Value} {d : JobD} {y e : Int} {n : Pic} {room w : Nat} (S : JobSt Z B h bj bf vf bt vt p q rv d y e n room w) : IsImg h bt vt n := by
 obtain ⟨⟨M, rs, J, a, b⟩, _⟩ := S
 exact J.out
theorem JobSt.src {Z B : Nat → Prop} {h : Heap} {bj bf : Nat} {vf : Value} {bt : Nat} {vt p q rv : Value} {d : JobD} {y e : Int} {n : Pic} {room w : Nat} (S : JobSt Z B h bj bf vf bt vt p q rv d y e n room w) : IsImg h bf vf d.m := by
 obtain ⟨⟨M, rs, J, a, b⟩, _⟩ := S
 exact J.src
theorem JobAt.frq {Z M Q : Nat → Prop} {h h' : Heap} {bj bf : Nat} {vf : Value} {bt : Nat} {vt p q rv : Value} {d : JobD} {y : Int} {n : Pic} {room w : Nat} {rs : List (Int × List Int)} (J : JobAt Z M h bj bf vf bt vt p q rv d y n room w rs) (f : Fr Q h h')
  (qz : ∀ c, Z c → ¬ Q c) (qm : ∀ c, M c → ¬ Q c) (qj : ¬ Q bj) (qt : ¬ Q bt) (qv : ∀ c, blk vt c → ¬ Q c) : JobAt Z M h' bj bf vf bt vt p q rv d y n room w rs :=
 ⟨f.row J.row qj, J.src.fr f (qz _ J.zf.1) fun c hc => qz _ (J.zf.2 c hc), J.tx.fr f fun c _ hz => qz c hz, J.ty.fr f fun c _ hz => qz c hz, J.ring.fr f fun c _ hm => qm c hm, J.out.fr f qt qv, J.zf, J.zz, J.mj, J.jt, J.y0, J.y1, fun c hc => Nat.lt_of_lt_of_le (J.zl c hc) f.1⟩
structure RoomOk (d : JobD) (room w : Nat) : Prop where
 mono : zjG d.s.y
 fit : mostL d.s.y.lines ≤ room
 one : 1 ≤ room
 wid : (w : Int) = d.t.w * d.m.c
 small : d.t.w ≤ 300
def stepK (d : JobD) (y e : Int) : Int := if d.t.y + d.t.h ≤ y then 0 else if e < lnE d.s.y y then 1 else 2
def stepJ (d : JobD) (y e : Int) : Int := if d.t.y + d.t.h ≤ y then 0 else if e < lnE d.s.y y then e else y
def stepY (d : JobD) (y e : Int) : Int := if stepK d y e = 2 then y + 1 else y
def stepE (d : JobD) (y e : Int) : Int := if stepK d y e = 1 then e + 1 else if stepK d y e = 2 then max e (lnF d.s.y (y + 1)) else e
section
variable {Z B : Nat → Prop} {h : Heap} {bj bf : Nat} {vf : Value} {bt : Nat} {vt p q rv : Value} {d : JobD} {y e : Int} {n : Pic} {room w : Nat}
theorem zpx (S : JobSt Z B h bj bf vf bt vt p q rv d y e n room w) (W : d.Wf) : FCall prog zaZ #[ptr bj] h fun r h' => r = moveV (stepK d y e) (stepJ d y e) ∧ Ext h h' := by
 obtain ⟨⟨M, rs, J, a, b⟩, c, f, g, o⟩ := S
 refine (c_jobNext J W).mono fun r h' ⟨k, j, er, hn, E⟩ => ⟨?_, E⟩
 rw [er]
 unfold NextZ at hn
 unfold stepK stepJ
 by_cases ho : d.t.y + d.t.h ≤ y
 ·rw [if_pos ho] at hn
  rw [if_pos ho, if_pos ho, hn.1, hn.2]
 ·rw [if_neg ho] at hn
  rw [if_neg ho, if_neg ho]
  obtain ⟨H, h1, h2⟩ := b (by omega)
  rcases hn with ⟨rfl, hn⟩ | ⟨rfl, rfl, hn⟩
  ·rcases H.next h1 h2 hn with ⟨a1, _, a3⟩ | ⟨_, a2, _⟩
   ·rw [if_pos a1, if_pos a1, a3]
   ·cases a2
  ·rcases H.next h1 h2 hn with ⟨_, a2, _⟩ | ⟨a1, _, _⟩
   ·cases a2
   ·rw [if_neg (by omega), if_neg (by omega)]
theorem c_Step (S : JobSt Z B h bj bf vf bt vt p q rv d y e n room w) (W : d.Wf) (R : RoomOk d room w) : FCall prog zaH #[ptr bj] h fun r h' =>
  r = moveV (stepK d y e) (stepJ d y e) ∧ ∃ n', JobSt Z (Grow B h h') h' bj bf vf bt vt p q rv d (stepY d y e) (stepE d y e) n' room w ∧ Fr (fun c => blk vt c ∨ B c) h h' ∧
   (stepK d y e ≠ 2 → n' = n) ∧ (stepK d y e = 2 → ∀ x' y' c', inP n x' y' c' → atP n' x' y' c' = if wrote d y w x' y' c' then pixZ d.m d.s x' y' c' else atP n x' y' c') := by
 apply zkE
 unfold zfD
 refine zag fun b1 h1 r1 e1 n1 => ?_
 have S1 := S.ext e1
 refine (zpx S1 W).mono fun r h2 ⟨er, e2⟩ => ?_
 subst er
 refine zaR (cs := [.int .i64 (stepK d y e), .int .i64 (stepJ d y e)]) rfl (zad rfl (zad rfl zaq)) rfl fun b3 h3 r3 e3 n3 => ?_
 have E3 := e1.trans (e2.trans e3)
 have S3 := S.ext E3
 have hl13 : b1 < b3 := by have := zaB r1; have := e2.1; omega
 have l3 := zaB r3
 have l1 : b1 < h3.size := by omega
 have r13 := (e2.trans e3).row r1
 have sz3 := E3.1
 -- the end of a step: the move is handed on
 have fin : ∀ {h4 : Heap} {n' : Pic}, Fr (fun c => (blk vt c ∨ B c) ∧ c ≠ b1 ∧ c ≠ b3) h3 h4 →
   ((stepK d y e ≠ 2 → n' = n) ∧ (stepK d y e = 2 → ∀ x' y' c', inP n x' y' c' → atP n' x' y' c' = if wrote d y w x' y' c' then pixZ d.m d.s x' y' c' else atP n x' y' c')) → (∀ h5, Upd b1 h4 h5 → JobSt Z (Grow B h h5) h5 bj bf vf bt vt p q rv d (stepY d y e) (stepE d y e) n' room w) →
   vK (ldsV 2 h4 (ptr b3)) fun v16 => stK 2 (ptr b1) v16 h4 fun _ h18 => vK (ldsV 2 h18 (ptr b1)) fun v19 => v19 = moveV (stepK d y e) (stepJ d y e) ∧ ∃ n', JobSt Z (Grow B h h18) h18 bj bf vf bt vt p q rv d (stepY d y e) (stepE d y e) n' room w ∧ Fr (fun c => blk vt c ∨ B c) h h18 ∧
    (stepK d y e ≠ 2 → n' = n) ∧ (stepK d y e = 2 → ∀ x' y' c', inP n x' y' c' → atP n' x' y' c' = if wrote d y w x' y' c' then pixZ d.m d.s x' y' c' else atP n x' y' c') := by
  intro h4 n' f4 hc4 hS5
  have r34 := f4.row r3 fun hm => hm.2.2 rfl
  have r14 := f4.row r13 fun hm => hm.2.1 rfl
  rw [zal (l := [.int .i64 (stepK d y e), .int .i64 (stepJ d y e)]) r34 2 rfl, zaa]
  refine zbt (l := [.int .i64 (stepK d y e), .int .i64 (stepJ d y e)]) r14 rfl (zad rfl (zad rfl zaq)) rfl fun h5 r5 u5 => ?_
  rw [zal r5 2 rfl, zaa]
  exact ⟨rfl, n', hS5 h5 u5, ((E3.fr (M := fun c => blk vt c ∨ B c)).after f4 fun c _ hc => hc.1).after u5.fr (fun c hc he => by omega), hc4.1, hc4.2⟩
 obtain ⟨⟨M, rs, J, hMb, hH⟩, hbj, hbl, hbz, hO⟩ := S
 have J3 := J.ext E3
 -- a block that is new lies apart from a job
 have ap : ∀ {b : Nat} {M' : Nat → Prop}, h.size ≤ b → b < h3.size → (∀ c, M' c → M c ∨ h3.size ≤ c) → (∀ c, Z c → ¬ c = b) ∧ (∀ c, M' c → ¬ c = b) ∧ ¬ bj = b ∧ ¬ bt = b ∧ ∀ c, blk vt c → ¬ c = b := by
  intro b M' hb hb' hM'
  refine ⟨fun c hc he => ?_, fun c hc he => ?_, fun he => ?_, fun he => ?_, fun c hc he => ?_⟩
  ·have := J.zl c hc; omega
  ·rcases hM' c hc with h4 | h4
   ·have := J.ring.lt h4; omega
   ·omega
  ·have := zaB J.row; omega
  ·have := J.out.lt; omega
  ·have := J.out.ltv hc; omega
 have nb1 : h.size ≤ b1 := n1
 have nb3 : h.size ≤ b3 := by omega
 -- what is its own, at last
 have gz : ∀ {h5 : Heap}, ∀ c, Grow B h h5 c → ¬ Z c ∧ c ≠ bt ∧ ¬ blk vt c := fun c hc => by
  rcases hc with hc | hc
  ·exact hbz c hc
  ·refine ⟨fun hz => ?_, fun he => ?_, fun hv => ?_⟩
   ·have := J.zl c hz; omega
   ·have := J.out.lt; omega
   ·have := J.out.ltv hv; omega
 have gl : ∀ {h5 : Heap}, h.size ≤ h5.size → ∀ c, Grow B h h5 c → c < h5.size := fun hs c hc => by
  rcases hc with hc | hc
  ·exact Nat.lt_of_lt_of_le (hbl c hc) hs
  ·exact hc.2
 simp only [go_sem, Nat.zero_add]
 have c0 : zah h3 ⟨b3, 0, none⟩ = some (.int .i64 (stepK d y e)) := zac r3
 have c1 : zah h3 ⟨b3, 1, none⟩ = some (.int .i64 (stepJ d y e)) := zac r3
 simp only [go_sem, c0, c1]
 refine zab (fun hk => ?_) (fun hk => ?_)
 ·-- a row is filtered
  have hno : ¬ d.t.y + d.t.h ≤ y := fun h => by unfold stepK at hk; rw [if_pos h] at hk; cases hk
  have hlt : e < lnE d.s.y y := by
   unfold stepK at hk
   rw [if_neg hno] at hk
   rcases Int.lt_or_le e (lnE d.s.y y) with h | h
   ·exact h
   ·rw [if_neg (by omega)] at hk; cases hk
  have hj : stepJ d y e = e := by unfold stepJ; rw [if_neg hno, if_pos hlt]
  have hy : stepY d y e = y := by unfold stepY; rw [if_neg (by omega)]
  have he : stepE d y e = e + 1 := by unfold stepE; rw [if_pos hk]
  obtain ⟨H, a1, a2⟩ := hH (by omega)
  have hl := zdK W.s.y y
  rw [hy, he] at fin ⊢
  rw [hj] at fin ⊢
  refine (c_filter J3 W (j := e) (by unfold lnF at a1; unfold lnE at hlt; unfold I64; omega) R.small).mono fun r h4 ⟨M', J4, f4, m4⟩ => ?_
  have hrm := R.fit
  have hml := R.mono.m y
  have hrs := J3.ring.nums
  have hwl : (rowZ d e).length = w := by
   have h5 := R.wid
   have hf := zbn W.m.fits
   have hw1 := W.w1
   unfold rowZ
   rw [zky]
   have : ((d.t.w.toNat * d.m.c.toNat : Nat) : Int) = d.t.w * d.m.c := by rw [Int.natCast_mul, Int.toNat_of_nonneg (by omega), Int.toNat_of_nonneg (by omega)]
   omega
  have HP := H.put (E := lnE d.s.y y) (room := room) (w := w) a1 hlt (by unfold lnF lnE; omega) R.one hrs.2.2.2.1 hwl
  have ap1 := ap nb1 l1 m4
  have sz4 := f4.1
  refine fin (f4.mono fun c hc hm => ⟨.inr (hMb c hm), fun h5 => by have := J.ring.lt hm; omega, fun h5 => by have := J.ring.lt hm; omega⟩) ⟨fun _ => rfl, fun h5 => by omega⟩ fun h5 u5 =>
   ⟨⟨M', _, J4.frq u5.fr ap1.1 ap1.2.1 ap1.2.2.1 ap1.2.2.2.1 ap1.2.2.2.2, fun c hc => ?_, fun _ => ⟨HP.1, by omega, by omega⟩⟩, .inl hbj, gl (by rw [u5.1]; omega), gz, hO⟩
  rcases m4 c hc with h6 | h6
  ·exact .inl (hMb c h6)
  ·have := J4.ring.lt hc
   exact .inr ⟨by omega, by rw [u5.1]; exact this⟩
 refine zab (fun hk2 => ?_) (fun hk2 => ?_)
 ·-- a row is written
  have hno : ¬ d.t.y + d.t.h ≤ y := fun h => by unfold stepK at hk2; rw [if_pos h] at hk2; cases hk2
  obtain ⟨H, a1, a2⟩ := hH (by omega)
  have heE : e = lnE d.s.y y := by
   unfold stepK at hk
   rw [if_neg hno] at hk
   rcases Int.lt_or_le e (lnE d.s.y y) with h | h
   ·rw [if_pos h] at hk; exact absurd rfl hk
   ·omega
  have hy : stepY d y e = y + 1 := by unfold stepY; rw [if_pos hk2]
  have he : stepE d y e = max e (lnF d.s.y (y + 1)) := by unfold stepE; rw [if_neg hk, if_pos hk2]
  rw [hy, he] at fin ⊢
  refine (c_write J3 W hO R.small (by omega) R.wid fun k hk' => H.inn _ (by unfold lnF; omega) (by rw [heE]; unfold lnE; omega)).mono fun r h4 ⟨n', J4, O4, A4, f4⟩ => ?_
  have ap1 := ap (M' := M) nb1 l1 fun c hc => .inl hc
  have hm := R.mono
  have hy0 := J.y0
  have hW0 := W.y0
  have hWh := W.yh
  have sz4 := f4.1
  refine fin (f4.mono fun c hc hm => ?_) ⟨fun h5 => absurd hk2 h5, fun _ => A4⟩ fun h5 u5 =>
   ⟨⟨M, _, J4.frq u5.fr ap1.1 ap1.2.1 ap1.2.2.1 ap1.2.2.2.1 ap1.2.2.2.2, fun c hc => .inl (hMb c hc), fun hlt => ?_⟩, .inl hbj, gl (by rw [u5.1]; omega), gz, O4⟩
  ·rcases hm with hm | hm
   ·have := J.out.ltv hm
    exact ⟨.inl hm, by omega, by omega⟩
   ·have := zaB J.row
    exact ⟨.inr (hm ▸ hbj), by omega, by omega⟩
  ·have g1 := hm.f y (y + 1) (by omega) (by omega) (by omega)
   have g2 := hm.e y (y + 1) (by omega) (by omega) (by omega)
   refine ⟨H.move g1, by omega, ?_⟩
   have : lnF d.s.y (y + 1) ≤ lnE d.s.y (y + 1) := by unfold lnF lnE; omega
   omega
 ·-- it is over
  have hk0 : stepK d y e = 0 := by
   unfold stepK at *
   by_cases h4 : d.t.y + d.t.h ≤ y
   ·rw [if_pos h4]
   ·rw [if_neg h4] at *
    by_cases h5 : e < lnE d.s.y y
    ·rw [if_pos h5] at hk; exact absurd rfl hk
    ·rw [if_neg h5] at hk2; exact absurd rfl hk2
  have hy : stepY d y e = y := by unfold stepY; rw [if_neg hk2]
  have he : stepE d y e = e := by unfold stepE; rw [if_neg hk, if_neg hk2]
  rw [hy, he] at fin ⊢
  have ap1 := ap (M' := M) nb1 l1 fun c hc => .inl hc
  exact fin (Fr.refl _ _) ⟨fun _ => rfl, fun h5 => absurd h5 hk2⟩ fun h5 u5 => ⟨⟨M, rs, J3.frq u5.fr ap1.1 ap1.2.1 ap1.2.2.1 ap1.2.2.2.1 ap1.2.2.2.2, fun c hc => .inl (hMb c hc), hH⟩, .inl hbj, gl (by rw [u5.1]; omega), gz, hO⟩
end
end
theorem pe_ne {h : Heap} {a b : Nat} {c c' : Array Value} {t t' : TypeId} (ha : h[a]? = some (.cells c t (0, 0))) (hb : h[b]? = some (.cells c' t' (0, 0))) (hne : a ≠ b) : peV h .neq (ptr a) (ptr b) = some (.bool true) := by
 have h1 : ¬ (⟨a, 0, none⟩ : Addr) = ⟨b, 0, none⟩ := fun hh => hne (by injection hh)
 have h2 : zfT h a = true := by unfold zfT; rw [ha]; rfl
 have h3 : zfT h b = true := by unfold zfT; rw [hb]; rfl
 show (if (⟨a, 0, none⟩ : Addr) = ⟨b, 0, none⟩ then some (Value.bool false) else if zfT h a && zfT h b then some (.bool true) else none) = _
 rw [if_neg h1, h2, h3]; rfl
def zcX (m n : Pic) (s : Stg) : Prop := zhA m s ∧ n.w = s.x.lines.length ∧ n.h = s.y.lines.length ∧ n.c = m.c ∧ n.most = m.most
instance (m n : Pic) (s : Stg) : Decidable (zcX m n s) := by unfold zcX; infer_instance
theorem zmU {h : Heap} (G : GlobB h) {Z : Nat → Prop} {bf bt : Nat} {vf vt sv : Value} {m n : Pic} {s : Stg} (I : IsImg h bf vf m) (O : IsImg h bt vt n) (hne : bf ≠ bt) (HS : IsStg Z h sv s) :
  FCall prog zbT #[ptr bf, ptr bt, sv] h fun r h' => r = .bool (decide (zcX m n s)) ∧ Ext h h' := by
 apply zfe
 unfold zdl
 obtain ⟨p, q, rfl, hp, hq, ones⟩ := zcS HS
 simp only [zax]
 refine zag fun b1 h1 r1 e1 n1 => ?_
 refine zak (fun h' => h' = h1) rfl ?_
 simp only [go_sem, ptr_nn]
 refine zae (.bool true) (fun h' e => by rw [e]; exact pe_ne (e1.row I.row) (e1.row O.row) hne) ?_
 try simp only [go_sem]
 refine zae (.agg #[p, q, .int .i64 s.border]) (fun h' e => by rw [e]; exact zal (l := [p, q, .int .i64 s.border]) r1 3 rfl) ?_
 refine FCall.to (c_Suits (G.ext e1) (I.ext e1) (HS.ext e1)) fun h2 e2 => ?_
 have E2 := e1.trans e2
 have r2 := e2.row r1
 have c0 : zah h2 ⟨b1, 0, none⟩ = some p := zac r2
 have c1 : zah h2 ⟨b1, 1, none⟩ = some q := zac r2
 by_cases g1 : zhA m s
 case neg =>
  rw [decide_eq_false g1, decide_eq_false fun hw : zcX m n s => g1 hw.1]
  refine zak (fun h' => h' = h2) rfl ?_
  simp only [go_sem]
  refine zae undef (fun _ _ => rfl) ?_
  try simp only [go_sem]
  refine ⟨trivial, ?_⟩
  try simp only [go_sem]
  refine zak (fun h' => h' = h2) rfl ?_
  simp only [go_sem]
  refine zae undef (fun _ _ => rfl) ?_
  try simp only [go_sem]
  refine ⟨trivial, ?_⟩
  try simp only [go_sem]
  exact ⟨trivial, E2⟩
 rw [decide_eq_true g1]
 refine zak (fun h' => h' = h2) rfl ?_
 simp only [go_sem, Nat.zero_add]
 refine zae p (fun h' e => by rw [e]; exact c0) ?_
 try simp only [go_sem]
 refine FCall.at (zh7 (O.ext E2)) ?_
 refine ⟨rfl, ?_⟩
 try simp only [go_sem]
 refine FCall.at (c_To (hp.ext E2)) ?_
 refine zak (fun h' => h' = h2) rfl ?_
 by_cases g2 : n.w = s.x.lines.length
 case neg =>
  rw [decide_eq_false fun hw : zcX m n s => g2 hw.2.1]
  simp only [go_sem, decide_eq_false g2]
  refine zae undef (fun _ _ => rfl) ?_
  try simp only [go_sem]
  refine ⟨trivial, ?_⟩
  try simp only [go_sem]
  exact ⟨trivial, E2⟩
 simp only [go_sem, Nat.zero_add, g2, eqT]
 refine zae q (fun h' e => by rw [e]; exact c1) ?_
 try simp only [go_sem]
 refine FCall.at (zf1 (O.ext E2)) ?_
 refine ⟨rfl, ?_⟩
 try simp only [go_sem]
 refine FCall.at (c_To (hq.ext E2)) ?_
 by_cases g3 : n.h = s.y.lines.length
 case neg =>
  rw [decide_eq_false fun hw : zcX m n s => g3 hw.2.2.1]
  simp only [go_sem, decide_eq_false g3]
  exact ⟨trivial, E2⟩
 simp only [go_sem, Nat.zero_add, g3, eqT]
 refine FCall.at (zbb (O.ext E2)) (FCall.at (zbb (I.ext E2)) ?_)
 by_cases g4 : n.c = m.c
 case neg =>
  rw [decide_eq_false fun hw : zcX m n s => g4 hw.2.2.2.1]
  simp only [go_sem, decide_eq_false g4]
  exact ⟨trivial, E2⟩
 simp only [go_sem, Nat.zero_add, g4, eqT]
 refine FCall.at (zcU (O.ext E2)) (FCall.at (zcU (I.ext E2)) ?_)
 simp only [go_sem]
 refine ⟨?_, E2⟩
 congr 1
 rw [decide_eq_decide]
 exact ⟨fun g5 => ⟨g1, g2, g3, g4, g5⟩, fun hw => hw.2.2.2.2⟩
theorem zmo {h : Heap} {a b : Value} {p q bd : Value} (hn : a = .pointer none ∨ ((∃ c, a = ptr c) ∧ b = .pointer none)) :
  FCall prog zbT #[a, b, .agg #[p, q, bd]] h fun r h' => r = .bool false ∧ Ext h h' := by
 apply zfe
 unfold zdl
 simp only [zax]
 refine zag fun b1 h1 r1 e1 n1 => ?_
 refine zak (fun h' => h' = h1) rfl ?_
 rcases hn with rfl | ⟨⟨c, rfl⟩, rfl⟩
 ·simp only [go_sem, nil_nn]
  refine zae undef (fun _ _ => rfl) ?_
  try simp only [go_sem]
  refine zae undef (fun _ _ => rfl) ?_
  try simp only [go_sem]
  refine zak (fun h' => h' = h1) rfl ?_
  refine zae undef (fun _ _ => rfl) ?_
  try simp only [go_sem]
  refine ⟨trivial, ?_⟩
  refine zak (fun h' => h' = h1) rfl ?_
  refine zae undef (fun _ _ => rfl) ?_
  try simp only [go_sem]
  refine ⟨trivial, ?_⟩
  exact ⟨trivial, e1⟩
 ·simp only [go_sem, nil_nn, ptr_nn]
  refine zae undef (fun _ _ => rfl) ?_
  try simp only [go_sem]
  refine zae undef (fun _ _ => rfl) ?_
  try simp only [go_sem]
  refine zak (fun h' => h' = h1) rfl ?_
  refine zae undef (fun _ _ => rfl) ?_
  try simp only [go_sem]
  refine ⟨trivial, ?_⟩
  refine zak (fun h' => h' = h1) rfl ?_
  refine zae undef (fun _ _ => rfl) ?_
  try simp only [go_sem]
  refine ⟨trivial, ?_⟩
  exact ⟨trivial, e1⟩
abbrev rectV (x y w hh : Int) : Value := .agg #[.int .i64 x, .int .i64 y, .int .i64 w, .int .i64 hh]
def zaY (s : Stg) (x y w hh : Int) : Prop := 1 ≤ w ∧ 1 ≤ hh ∧ 0 ≤ x ∧ 0 ≤ y ∧ x < s.x.lines.length ∧ y < s.y.lines.length ∧ w ≤ s.x.lines.length - x ∧ hh ≤ s.y.lines.length - y
instance (s : Stg) (x y w hh : Int) : Decidable (zaY s x y w hh) := by unfold zaY; infer_instance
theorem c_within {h : Heap} {Z : Nat → Prop} {sv : Value} {s : Stg} (HS : IsStg Z h sv s) (WS : s.Wf) {x y w hh : Int} :
  FCall prog zds #[sv, rectV x y w hh] h fun r h' => r = .bool (decide (zaY s x y w hh)) ∧ Ext h h' := by
 apply zmu
 unfold zhg
 obtain ⟨p, q, rfl, hp, hq, ones⟩ := zcS HS
 have lx := WS.x.len
 have ly := WS.y.len
 simp only [zax]
 refine zag fun b1 h1 r1 e1 n1 => zag fun b2 h2 r2 e2 n2 => ?_
 have r1 := e2.row r1
 have E := e1.trans e2
 have np := (zoT hp).1
 have nq := (zoT hq).1
 refine zak (fun h' => h' = h2) rfl ?_
 simp only [go_sem, Nat.zero_add]
 refine zae p (fun h' e => by rw [e]; exact zac r1) ?_
 simp only [go_sem, Nat.zero_add, np]
 refine zae q (fun h' e => by rw [e]; exact zac r1) ?_
 simp only [go_sem, Nat.zero_add, nq]
 refine zae (.int .i64 w) (fun h' e => by rw [e]; exact zac r2) ?_
 by_cases g1 : 1 ≤ w
 case neg =>
  rw [decide_eq_false fun hw : zaY s x y w hh => g1 hw.1]
  simp only [go_sem, decide_eq_false g1]
  repeat (first | refine zae undef (fun _ _ => rfl) ?_ | (refine ⟨trivial, ?_⟩) | simp only [go_sem])
  first | exact E | exact ⟨trivial, E⟩ | exact ⟨rfl, E⟩
 simp only [go_sem, Nat.zero_add, decide_eq_true g1]
 refine zae (.int .i64 hh) (fun h' e => by rw [e]; exact zac r2) ?_
 by_cases g2 : 1 ≤ hh
 case neg =>
  rw [decide_eq_false fun hw : zaY s x y w hh => g2 hw.2.1]
  simp only [go_sem, decide_eq_false g2]
  repeat (first | refine zae undef (fun _ _ => rfl) ?_ | (refine ⟨trivial, ?_⟩) | simp only [go_sem])
  first | exact E | exact ⟨trivial, E⟩ | exact ⟨rfl, E⟩
 simp only [go_sem, Nat.zero_add, decide_eq_true g2]
 refine zae (.int .i64 x) (fun h' e => by rw [e]; exact zac r2) ?_
 by_cases g3 : 0 ≤ x
 case neg =>
  rw [decide_eq_false fun hw : zaY s x y w hh => g3 hw.2.2.1]
  simp only [go_sem, decide_eq_false g3]
  repeat (first | refine zae undef (fun _ _ => rfl) ?_ | (refine ⟨trivial, ?_⟩) | simp only [go_sem])
  first | exact E | exact ⟨trivial, E⟩ | exact ⟨rfl, E⟩
 simp only [go_sem, Nat.zero_add, decide_eq_true g3]
 refine zae (.int .i64 y) (fun h' e => by rw [e]; exact zac r2) ?_
 by_cases g4 : 0 ≤ y
 case neg =>
  rw [decide_eq_false fun hw : zaY s x y w hh => g4 hw.2.2.2.1]
  simp only [go_sem, decide_eq_false g4]
  repeat (first | refine zae undef (fun _ _ => rfl) ?_ | (refine ⟨trivial, ?_⟩) | simp only [go_sem])
  first | exact E | exact ⟨trivial, E⟩ | exact ⟨rfl, E⟩
 simp only [go_sem, Nat.zero_add, decide_eq_true g4]
 refine zae (.int .i64 x) (fun h' e => by rw [e]; exact zac r2) ?_
 refine zae p (fun h' e => by rw [e]; exact zac r1) ?_
 try simp only [go_sem]
 refine FCall.at (c_To (hp.ext E)) ?_
 refine ⟨rfl, ?_⟩
 by_cases g5 : x < (s.x.lines.length : Int)
 case neg =>
  rw [decide_eq_false fun hw : zaY s x y w hh => g5 hw.2.2.2.2.1]
  simp only [go_sem, decide_eq_false g5]
  repeat (first | refine zae undef (fun _ _ => rfl) ?_ | (refine ⟨trivial, ?_⟩) | simp only [go_sem])
  first | exact E | exact ⟨trivial, E⟩ | exact ⟨rfl, E⟩
 simp only [go_sem, Nat.zero_add, decide_eq_true g5]
 refine zae (.int .i64 y) (fun h' e => by rw [e]; exact zac r2) ?_
 refine zae q (fun h' e => by rw [e]; exact zac r1) ?_
 try simp only [go_sem]
 refine FCall.at (c_To (hq.ext E)) ?_
 refine ⟨rfl, ?_⟩
 by_cases g6 : y < (s.y.lines.length : Int)
 case neg =>
  rw [decide_eq_false fun hw : zaY s x y w hh => g6 hw.2.2.2.2.2.1]
  simp only [go_sem, decide_eq_false g6]
  repeat (first | refine zae undef (fun _ _ => rfl) ?_ | (refine ⟨trivial, ?_⟩) | simp only [go_sem])
  first | exact E | exact ⟨trivial, E⟩ | exact ⟨rfl, E⟩
 simp only [go_sem, Nat.zero_add, decide_eq_true g6]
 refine zae (.int .i64 w) (fun h' e => by rw [e]; exact zac r2) ?_
 refine zae p (fun h' e => by rw [e]; exact zac r1) ?_
 refine zae (.int .i64 x) (fun h' e => by rw [e]; exact zac r2) ?_
 try simp only [go_sem]
 refine FCall.at (c_To (hp.ext E)) ?_
 refine ⟨rfl, ?_⟩
 simp only [go_sem, Nat.zero_add]
 rw [w64 (by omega) (by omega)]
 by_cases g7 : w ≤ (s.x.lines.length : Int) - x
 case neg =>
  rw [decide_eq_false fun hw : zaY s x y w hh => g7 hw.2.2.2.2.2.2.1]
  simp only [go_sem, decide_eq_false g7]
  repeat (first | refine zae undef (fun _ _ => rfl) ?_ | (refine ⟨trivial, ?_⟩) | simp only [go_sem])
  first | exact E | exact ⟨trivial, E⟩ | exact ⟨rfl, E⟩
 simp only [go_sem, Nat.zero_add, decide_eq_true g7]
 refine zae (.int .i64 hh) (fun h' e => by rw [e]; exact zac r2) ?_
 refine zae q (fun h' e => by rw [e]; exact zac r1) ?_
 refine zae (.int .i64 y) (fun h' e => by rw [e]; exact zac r2) ?_
 try simp only [go_sem]
 refine FCall.at (c_To (hq.ext E)) ?_
 refine ⟨rfl, ?_⟩
 simp only [go_sem, Nat.zero_add]
 rw [w64 (by omega) (by omega)]
 refine ⟨?_, E⟩
 congr 1
 rw [decide_eq_decide]
 exact ⟨fun g8 => ⟨g1, g2, g3, g4, g5, g6, g7, g8⟩, fun hw => hw.2.2.2.2.2.2.2⟩
abbrev zeroJ : Array Value := #[(.pointer none), (.pointer none), (.pointer none), (.pointer none), (.int .i64 0), (.int .i64 0), (.int .i64 0), (.int .i64 0), (.int .i64 0), (.int .i64 0), (.int .i64 0), (.int .i64 0), (.int .i64 0), (.int .i64 0), (.int .i64 0), (.pointer none), (.int .i64 0)]
theorem fill_job {bf bt : Nat} {p q rv : Value} {d : JobD} {y : Int} (hr : zam rv = true) :
  fillL zeroJ [(0, 1, ptr bf), (1, 1, ptr bt), (2, 3, .agg #[p, q, .int .i64 d.s.border]), (5, 10, .agg (tileC d.t).toArray), (15, 1, rv), (16, 1, .int .i64 y)] = some (jobC bf bt p q rv d y).toArray := by
 refine (zba (n := 1) (l := [ptr bf]) rfl rfl (by simp)).trans ?_
 refine (zba (n := 1) (l := [ptr bt]) rfl rfl (by simp [zca])).trans ?_
 refine (zba (n := 3) (l := [p, q, .int .i64 d.s.border]) rfl rfl (by simp [zca])).trans ?_
 refine (zba (n := 10) (l := tileC d.t) rfl rfl (by simp [zca])).trans ?_
 refine (zba (n := 1) (l := [rv]) (zaT hr) rfl (by simp [zca])).trans ?_
 refine (zba (n := 1) (l := [.int .i64 y]) rfl rfl (by simp [zca])).trans ?_
 rw [zb7]
 simp [wrL, tileC, jobC]
theorem zaM {h : Heap} {b : Nat} {l : List Value} {t : TypeId} {f : Nat × Nat} (r : h[b]? = some (.cells l.toArray t f)) (o n : Nat) (m : List Value) (hm : (l.drop o).take n = m) (hn : m.length = n) : ldsV n h (.pointer (some ⟨b, o, none⟩)) = some (.agg m.toArray) := by
 subst hm
 refine zkW _ n hn fun j hj => ?_
 rw [zac r]
 rw [List.length_take, List.length_drop] at hj
 have h2 : o + j < l.length := by omega
 rw [List.getElem_take, List.getElem_drop]
 simp [h2]
def wnewC (m n : Pic) (s : Stg) (t : TileD) : Int := if ¬ zcX m n s then 6 else if ¬ zaY s t.x t.y t.w t.h then 9 else 0
theorem zda {m n : Pic} {s : Stg} {t : TileD} : wnewC m n s t = 0 ↔ zcX m n s ∧ zaY s t.x t.y t.w t.h := by
 unfold wnewC
 by_cases h1 : zcX m n s
 ·rw [if_neg (by simpa using h1)]
  by_cases h2 : zaY s t.x t.y t.w t.h
  ·rw [if_neg (by simpa using h2)]; exact ⟨fun _ => ⟨h1, h2⟩, fun _ => rfl⟩
  ·rw [if_pos h2]; exact ⟨fun h => absurd h (by decide), fun h => absurd h.2 h2⟩
 ·rw [if_pos h1]; exact ⟨fun h => absurd h (by decide), fun h => absurd h.1 h1⟩
theorem zmk {m n : Pic} {s : Stg} {t : TileD} (W : m.Wf) (WS : s.Wf) (hc : wnewC m n s t = 0) : JobD.Wf ⟨m, s, t⟩ := by
 obtain ⟨h1, h2⟩ := zda.1 hc
 obtain ⟨a1, a2, a3, a4, a5, a6, a7, a8⟩ := h2
 exact ⟨W, WS, h1.1, a1, a2, a3, a4, by show t.x + t.w ≤ (s.x.lines.length : Int); omega, by show t.y + t.h ≤ (s.y.lines.length : Int); omega⟩
theorem zgR {m n : Pic} {s : Stg} {t : TileD} (W : n.Wf) (hc : wnewC m n s t = 0) : OutOk ⟨m, s, t⟩ n := by
 obtain ⟨h1, h2⟩ := zda.1 hc
 exact ⟨W, h1.2.1, h1.2.2.1, h1.2.2.2.1, h1.2.2.2.2⟩
def WNew (Z : Nat → Prop) (h : Heap) (bf : Nat) (vf : Value) (bt : Nat) (vt p q : Value) (m n : Pic) (s : Stg) (t : TileD) (r : Value) (h' : Heap) : Prop :=
 Ext h h' ∧ ∃ v, r = .tuple #[v, .int .i64 (wnewC m n s t)] ∧ (wnewC m n s t ≠ 0 → v = .pointer none) ∧
  (wnewC m n s t = 0 → ∃ bj rv, v = ptr bj ∧ JobSt Z (Grow (fun _ => False) h h') h' bj bf vf bt vt p q rv ⟨m, s, t⟩ t.y (lnF s.y t.y) n (roomN (mostL s.y.lines)) (zcR (t.w * m.c)))
theorem c_wNew {h : Heap} (G : GlobB h) {Z : Nat → Prop} {bf bt : Nat} {vf vt p q : Value} {m n : Pic} {s : Stg} {t : TileD} (I : IsImg h bf vf m) (O : IsImg h bt vt n) (hne : bf ≠ bt) (W : m.Wf) (WO : n.Wf) (hp : IsTbl Z h p s.x) (hq : IsTbl Z h q s.y) (WS : s.Wf)
  (zf : Z bf ∧ ∀ c, blk vf c → Z c) (zz : ∀ c, Z c → ¬ blk vt c) (zl : ∀ c, Z c → c < h.size) :
  FCall prog za8 #[ptr bf, ptr bt, .agg #[p, q, .int .i64 s.border], .agg (tileC t).toArray] h (WNew Z h bf vf bt vt p q m n s t) := by
 apply zkA
 unfold zgG
 simp only [zax]
 have HS : IsStg Z h (.agg #[p, q, .int .i64 s.border]) s := ⟨p, q, rfl, hp, hq⟩
 refine zag fun b1 h1 r1 e1 n1 => zag fun b2 h2 r2 e2 n2 => ?_
 have E2 := e1.trans e2
 have r1 := e2.row r1
 rw [zal (l := [p, q, .int .i64 s.border]) r1 3 rfl, zaa]
 refine FCall.to (zmU (G.ext E2) (I.ext E2) (O.ext E2) hne (HS.ext E2)) fun h3 e3 => ?_
 have E3 := E2.trans e3
 by_cases g1 : zcX m n s
 case neg =>
  have hc : wnewC m n s t = 6 := by unfold wnewC; rw [if_pos g1]
  simp only [go_sem, decide_eq_false g1]
  exact ⟨E3, _, by rw [hc], fun _ => rfl, fun h0 => absurd (h0.symm.trans hc) (by decide)⟩
 simp only [go_sem, decide_eq_true g1]
 have r1 := e3.row r1
 have r2 := e3.row r2
 rw [zal (l := [p, q, .int .i64 s.border]) r1 3 rfl, zaa, zaM r2 (0 + 1) 4 [.int .i64 t.x, .int .i64 t.y, .int .i64 t.w, .int .i64 t.h] rfl rfl, zaa]
 refine FCall.to (c_within (HS.ext E3) WS) fun h4 e4 => ?_
 have E4 := E3.trans e4
 by_cases g2 : zaY s t.x t.y t.w t.h
 case neg =>
  have hc : wnewC m n s t = 9 := by unfold wnewC; rw [if_neg (by simpa using g1), if_pos g2]
  simp only [go_sem, decide_eq_false g2]
  exact ⟨E4, _, by rw [hc], fun _ => rfl, fun h0 => absurd (h0.symm.trans hc) (by decide)⟩
 simp only [go_sem, decide_eq_true g2]
 have hc : wnewC m n s t = 0 := zda.2 ⟨g1, g2⟩
 have r1 := e4.row r1
 have r2 := e4.row r2
 have WJ := zmk (t := t) W WS hc
 have hb := JobD.bd WJ
 have hw1 := WJ.w1
 have hx0 := WJ.x0
 have hf := zbn W.fits
 refine zak (Ext h4) (Ext.refl _) ?_
 refine zae (.agg #[p, q, .int .i64 s.border]) (fun h' e => zal (l := [p, q, .int .i64 s.border]) (e.row r1) 3 rfl) ?_
 refine zae (.agg (tileC t).toArray) (fun h' e => zal (e.row r2) 10 rfl) ?_
 try simp only [go_sem, Nat.zero_add]
 refine zae q (fun h' e => zac (e.row r1)) ?_
 try simp only [go_sem, Nat.zero_add]
 refine zae (.int .i64 t.w) (fun h' e => zac (e.row r2)) ?_
 try simp only [go_sem, Nat.zero_add]
 refine zae (.int .i64 t.y) (fun h' e => zac (e.row r2)) ?_
 refine FCall.at (zpz (hq.ext E4)) ?_
 refine ⟨Ext.refl _, ?_⟩
 refine FCall.at (zbb (I.ext E4)) ?_
 refine ⟨Ext.refl _, ?_⟩
 have hwc : 0 ≤ t.w * m.c ∧ t.w * m.c ≤ 65536 * 3 := by
  have h1 : (1 : Int) ≤ t.w := hw1
  have h2 : t.x + t.w ≤ 65536 := hb.1
  have h3 : 0 ≤ t.x := hx0
  have := Int.mul_le_mul (show t.w ≤ 65536 by omega) hf.2.2.2.2.2.1 (by omega) (by omega)
  exact ⟨Int.mul_nonneg (by omega) (by omega), this⟩
 simp only [go_sem]
 rw [w64 (n := t.w * m.c) (by omega) (by omega)]
 refine (c_RNew (mostL s.y.lines) (t.w * m.c)).mono fun rv h5 ⟨M, R, e5, hM⟩ => ?_
 refine ⟨e5, ?_⟩
 have E5 := E4.trans e5
 have hr : zam rv = true := by obtain ⟨_, _, _, _, _, _, e, _⟩ := R; rw [e]; rfl
 have hfj : fillL zeroJ [(0, 1, ptr bf), (1, 1, ptr bt), (2, 3, .agg #[p, q, .int .i64 s.border]), (5, 10, .agg (tileC t).toArray), (15, 1, rv), (16, 1, .int .i64 t.y)] = some (jobC bf bt p q rv ⟨m, s, t⟩ t.y).toArray := fill_job (d := ⟨m, s, t⟩) hr
 rw [hfj, zaA, zaa]
 refine zag fun bj h6 r6 e6 n6 => ?_
 have E6 := E5.trans e6
 have hbt := O.lt
 have hs5 := E5.1
 have hs4 := E4.1
 refine ⟨E6, _, by rw [hc], fun h0 => absurd hc h0, fun _ => ⟨bj, rv, rfl, ⟨M, [], ⟨r6, I.ext E6, hp.ext E6, hq.ext E6, R.ext e6, O.ext E6, zf, fun c hz => ⟨fun hm => ?_, fun he => ?_, zz c hz⟩, ⟨fun hm => ?_, fun hm => ?_, fun c hv hm => ?_⟩, ⟨by omega, fun hv => ?_⟩, Int.le_refl _, ?_, fun c hz => Nat.lt_of_lt_of_le (zl c hz) E6.1⟩, fun c hm => .inr ⟨?_, ?_⟩, fun _ => ⟨Held.start _ _, Int.le_refl _, ?_⟩⟩, .inr ⟨by omega, zaB r6⟩, fun c hc => hc.elim (fun h => h.elim) fun h => h.2, fun c hc => ?_, zgR WO hc⟩⟩
 ·have := hM c hm; have := zl c hz; omega
 ·have := zl c hz; omega
 ·have := R.lt hm; omega
 ·have := hM bt hm; omega
 ·have := hM c hm; have := O.ltv hv; omega
 ·have := O.ltv hv; omega
 ·show t.y ≤ t.y + t.h
  have := WJ.h1
  have : (1 : Int) ≤ t.h := this
  omega
 ·have := hM c hm; omega
 ·have := R.lt hm; have := e6.1; omega
 ·show lnF s.y t.y ≤ lnE s.y t.y
  unfold lnF lnE; omega
 ·rcases hc with h | h
  ·exact h.elim
  ·exact ⟨fun hz => by have := zl c hz; omega, by omega, fun hv => by have := O.ltv hv; omega⟩
section
theorem zoS {a b : Int} (ha : 1 ≤ a) (hb : 1 ≤ b) : max a b ≤ a * b := by
 have h1 : a * 1 ≤ a * b := Int.mul_le_mul_of_nonneg_left hb (by omega)
 have h2 : 1 * b ≤ a * b := Int.mul_le_mul_of_nonneg_right ha (by omega)
 omega
theorem span0 (X : Int) {n m : Int} (hn : 1 ≤ n) (hm : 1 ≤ m) : -(-(X + n) / m) - X / m ≤ 6 * n + 4 := by
 have a1 := Int.mul_ediv_add_emod (-(X + n)) m
 have a2 := Int.mul_ediv_add_emod X m
 have b1 := Int.emod_lt_of_pos (-(X + n)) (show 0 < m by omega)
 have b2 := Int.emod_lt_of_pos X (show 0 < m by omega)
 have hmn := zoS hn hm
 revert a1 a2 b1 b2
 generalize -(X + n) / m = q1
 generalize X / m = q2
 generalize -(X + n) % m = r1
 generalize X % m = r2
 intro a1 a2 b1 b2
 rcases Int.lt_or_le (6 * n + 4) (-q1 - q2) with h | h
 ·exfalso
  have h1 : m * (6 * n + 5) ≤ m * (-q1 - q2) := Int.mul_le_mul_of_nonneg_left (by omega) (by omega)
  have h2 : m * (6 * n + 5) = 6 * (n * m) + 5 * m := by grind
  have h3 : m * (-q1 - q2) = -(m * q1) - m * q2 := by grind
  rw [h2, h3] at h1
  omega
 ·omega
theorem span1 (X R : Int) {n m : Int} (hn : 1 ≤ n) (hm : 1 ≤ m) (hR : R ≤ 6 * (n * m)) : -(-(X + R) / (2 * m)) - ((X - R) / (2 * m) + 1) ≤ 6 * n + 4 := by
 have a1 := Int.mul_ediv_add_emod (-(X + R)) (2 * m)
 have a2 := Int.mul_ediv_add_emod (X - R) (2 * m)
 have b1 := Int.emod_lt_of_pos (-(X + R)) (show 0 < 2 * m by omega)
 have b2 := Int.emod_lt_of_pos (X - R) (show 0 < 2 * m by omega)
 revert a1 a2 b1 b2
 generalize -(X + R) / (2 * m) = q1
 generalize (X - R) / (2 * m) = q2
 generalize -(X + R) % (2 * m) = r1
 generalize (X - R) % (2 * m) = r2
 intro a1 a2 b1 b2
 rcases Int.lt_or_le (6 * n + 4) (-q1 - (q2 + 1)) with h | h
 ·exfalso
  have h1 : 2 * m * (6 * n + 5) ≤ 2 * m * (-q1 - (q2 + 1)) := Int.mul_le_mul_of_nonneg_left (by omega) (by omega)
  have h2 : 2 * m * (6 * n + 5) = 12 * (n * m) + 10 * m := by grind
  have h3 : 2 * m * (-q1 - (q2 + 1)) = -(2 * m * q1) - 2 * m * q2 - 2 * m := by grind
  rw [h2, h3] at h1
  omega
 ·omega
theorem span_bd {f n m i : Int} (hf : 0 ≤ f ∧ f < 3) (hn : 1 ≤ n) (hm : 1 ≤ m) : highW f n m i - lowW f n m i ≤ 6 * n + 4 := by
 have hmn := zoS hn hm
 unfold highW lowW ceilD
 by_cases h0 : f = 0
 ·rw [if_pos h0, if_pos h0]
  rw [show (i + 1) * n = i * n + n by rw [Int.add_mul, Int.one_mul]]
  exact span0 (i * n) hn hm
 ·rw [if_neg h0, if_neg h0]
  have hR : zaX f * 2 * max n m ≤ 6 * (n * m) ∧ 0 ≤ zaX f * 2 * max n m := by
   have : (zaX f = 2 ∨ zaX f = 3) := by unfold zaX; rw [if_neg h0]; split <;> simp
   rcases this with h | h <;> rw [h] <;> omega
  generalize zaX f * 2 * max n m = R at *
  exact span1 _ _ hn hm hR.1
theorem zgx {ls : List (Int × List Int)} {c : Int} (h0 : 0 ≤ c) (h : ∀ x ∈ ls, (x.2.length : Int) ≤ c) : mostL ls ≤ c := by
 unfold mostL
 have : ∀ (l : List (Int × List Int)) (a : Int), a ≤ c → (∀ x ∈ l, (x.2.length : Int) ≤ c) → l.foldl (fun m x => max m (x.2.length : Int)) a ≤ c := by
  intro l
  induction l with
  | nil => intro a ha _; exact ha
  | cons y l ih =>
   intro a ha hl
   rw [List.foldl_cons]
   exact ih _ (by have := hl y (by simp); omega) fun x hx => hl x (by simp [hx])
 exact this ls 0 h0 h
theorem most_nn (ls : List (Int × List Int)) : 0 ≤ mostL ls := (znJ ls 0).1
theorem resize_most {f n m : Int} (hc : za2 f n m = 0) (hs : n ≤ 10000) : mostL (zbA f n m).lines ≤ 65536 := by
 have h0 : ¬ (¬ (0 ≤ f ∧ f < 3) ∨ ¬ zao n ∨ ¬ zao m) := fun h => by unfold za2 at hc; rw [if_pos h] at hc; cases hc
 have hz := hc
 unfold za2 at hz
 rw [if_neg h0] at hz
 have hf : 0 ≤ f ∧ f < 3 := Decidable.of_not_not fun h => h0 (.inl h)
 have hn : zao n := Decidable.of_not_not fun h => h0 (.inr (.inl h))
 have hm : zao m := Decidable.of_not_not fun h => h0 (.inr (.inr h))
 unfold zao at hn hm
 refine zgx (by omega) fun x hx => ?_
 obtain ⟨i, hi, rfl⟩ := List.mem_map.1 hx
 have hi := List.mem_range.1 hi
 have h2 := zdq hz i hi
 show ((zaC (zaW f n m i)).length : Int) ≤ _
 rw [zdN h2]
 unfold zaW
 rw [if_pos ⟨hf.1, hf.2, hn.1, hn.2, hm.1, hm.2, by omega, by omega⟩]
 unfold rowW
 rw [List.length_map, List.length_range]
 have := span_bd (i := i) hf hn.1 hm.1
 omega
theorem filter_most (l : List Int) (hl : l.length ≤ 1024) (n : Int) (hc : zcx l n = 0) : mostL (zc1 l n).lines ≤ 65536 := by
 refine zgx (by omega) fun x hx => ?_
 obtain ⟨i, hi, rfl⟩ := List.mem_map.1 hx
 show ((zaC l).length : Int) ≤ _
 have h0 : zaS l = 0 := by
  unfold zcx at hc
  split at hc
  ·cases hc
  ·split at hc
   ·cases hc
   ·exact hc
 rw [zdN h0]
 omega
theorem makeS_most {o : OpD} {w h : Int} (hc : makeC o w h = 0) (hs : h ≤ 10000) : mostL (makeS o w h).y.lines ≤ 65536 := by
 have ht : zcp o w h = 0 := by
  unfold makeC at hc
  split at hc
  ·cases hc
  ·exact hc
 show mostL (zbI o h).lines ≤ _
 unfold zcp at ht
 unfold zbI
 split
 ·rename_i hk
  rw [if_pos hk] at ht
  by_cases h1 : za2 o.filter w o.w = 0
  ·rw [if_neg (by simpa using h1)] at ht
   exact resize_most ht hs
  ·rw [if_pos h1] at ht
   exact absurd ht h1
 ·rename_i hk
  rw [if_neg hk] at ht
  refine filter_most _ (zgD o).2 _ ?_
  split at ht
  ·exact absurd ht (by assumption)
  ·split at ht
   ·exact absurd ht (by assumption)
   ·exact ht
structure StgOk (s : Stg) : Prop where
 wf : s.Wf
 mono : zjG s.y
 most : mostL s.y.lines ≤ 65536
 side : s.x.lines.length ≤ 300
theorem makeS_ok {o : OpD} {w h : Int} (hc : makeC o w h = 0) (hs : h ≤ 10000) (hx : sizeW o w ≤ 300) : StgOk (makeS o w h) :=
 ⟨(ziv hc).1, makeS_mono hc, makeS_most hc hs, by have := (znP hc).1; omega⟩
theorem StgOk.room {s : Stg} (H : StgOk s) {m n : Pic} {t : TileD} (W : m.Wf) (hc : wnewC m n s t = 0) : RoomOk ⟨m, s, t⟩ (roomN (mostL s.y.lines)) (zcR (t.w * m.c)) := by
 have hw := zmk (t := t) W H.wf hc
 have hf := zbn W.fits
 have h1 : 1 ≤ t.w := hw.w1
 have h2 : 0 ≤ t.x := hw.x0
 have h3 : t.x + t.w ≤ s.x.lines.length := hw.xw
 have h4 := H.side
 have h5 := H.most
 have hwc : 0 ≤ t.w * m.c ∧ t.w * m.c ≤ 300 * 3 := ⟨Int.mul_nonneg (by omega) (by omega), Int.mul_le_mul (show t.w ≤ 300 by omega) hf.2.2.2.2.2.1 (by omega) (by omega)⟩
 refine ⟨H.mono, ?_, ?_, ?_, ?_⟩
 ·unfold roomN; show mostL s.y.lines ≤ _; omega
 ·unfold roomN; omega
 ·unfold zcR; show _ = t.w * m.c; omega
 ·show t.w ≤ 300; omega
def leftN (d : JobD) : Nat → Int → Int → Nat
 | 0, _, _ => 0
 | k + 1, y, e => (lnE d.s.y y - e).toNat + 1 + leftN d k (y + 1) (max (lnE d.s.y y) (lnF d.s.y (y + 1)))
def leftZ (d : JobD) (y e : Int) : Nat := leftN d (d.t.y + d.t.h - y).toNat y e
theorem znR {d : JobD} {y e : Int} (h : d.t.y + d.t.h ≤ y) : leftZ d y e = 0 := by
 unfold leftZ
 rw [show (d.t.y + d.t.h - y).toNat = 0 by omega]; rfl
theorem zkV {d : JobD} {y e : Int} (h : y < d.t.y + d.t.h) : leftZ d y e = (lnE d.s.y y - e).toNat + 1 + leftZ d (y + 1) (max (lnE d.s.y y) (lnF d.s.y (y + 1))) := by
 unfold leftZ
 rw [show (d.t.y + d.t.h - y).toNat = (d.t.y + d.t.h - (y + 1)).toNat + 1 by omega]; rfl
theorem left_step {d : JobD} {y e : Int} (hk : stepK d y e ≠ 0) (he : e ≤ lnE d.s.y y) : leftZ d (stepY d y e) (stepE d y e) + 1 = leftZ d y e := by
 have hno : ¬ d.t.y + d.t.h ≤ y := fun h => hk (by unfold stepK; rw [if_pos h])
 have hl := zkV (e := e) (show y < d.t.y + d.t.h by omega)
 by_cases h1 : e < lnE d.s.y y
 ·have k1 : stepK d y e = 1 := by unfold stepK; rw [if_neg hno, if_pos h1]
  have hy : stepY d y e = y := by unfold stepY; rw [if_neg (by omega)]
  have hE : stepE d y e = e + 1 := by unfold stepE; rw [if_pos k1]
  rw [hy, hE, hl, zkV (e := e + 1) (by omega)]
  omega
 ·have k2 : stepK d y e = 2 := by unfold stepK; rw [if_neg hno, if_neg h1]
  have hy : stepY d y e = y + 1 := by unfold stepY; rw [if_pos k2]
  have hE : stepE d y e = max e (lnF d.s.y (y + 1)) := by unfold stepE; rw [if_neg (by omega), if_pos k2]
  have hee : e = lnE d.s.y y := by omega
  rw [hy, hE, hl, hee]
  omega
theorem left_pos {d : JobD} {y e : Int} : leftZ d y e = 0 ↔ stepK d y e = 0 := by
 unfold stepK
 by_cases h : d.t.y + d.t.h ≤ y
 ·rw [if_pos h, znR h]
  simp
 ·rw [if_neg h, zkV (by omega)]
  constructor
  ·intro h; omega
  ·split <;> intro h <;> cases h
theorem zmP {d : JobD} (W : d.s.y.Wf) : ∀ (k : Nat) (y e : Int), lnF d.s.y y ≤ e → leftN d k y e ≤ k * 1048577
 | 0, _, _, _ => Nat.le_refl _
 | k + 1, y, e, he => by
  have h1 := zmP W k (y + 1) (max (lnE d.s.y y) (lnF d.s.y (y + 1))) (by omega)
  have h2 := zdK W y
  unfold leftN
  unfold lnE lnF at *
  omega
theorem left_bd {d : JobD} (W : d.Wf) {y e : Int} (hy : d.t.y ≤ y) (he : y < d.t.y + d.t.h → lnF d.s.y y ≤ e) : leftZ d y e ≤ 68719542272 := by
 by_cases h : y < d.t.y + d.t.h
 ·have h1 := zmP W.s.y (d.t.y + d.t.h - y).toNat y e (he h)
  have h2 := JobD.bd W
  have h3 := W.y0
  unfold leftZ
  omega
 ·rw [znR (by omega)]; omega
theorem JobSt.inv {Z B : Nat → Prop} {h : Heap} {bj bf : Nat} {vf : Value} {bt : Nat} {vt p q rv : Value} {d : JobD} {y e : Int} {n : Pic} {room w : Nat} (S : JobSt Z B h bj bf vf bt vt p q rv d y e n room w) : d.t.y ≤ y ∧ y ≤ d.t.y + d.t.h ∧ (y < d.t.y + d.t.h → lnF d.s.y y ≤ e ∧ e ≤ lnE d.s.y y) := by
 obtain ⟨⟨M, rs, J, a, b⟩, _⟩ := S
 exact ⟨J.y0, J.y1, fun h => (b h).2⟩
theorem JobSt.left_bd {Z B : Nat → Prop} {h : Heap} {bj bf : Nat} {vf : Value} {bt : Nat} {vt p q rv : Value} {d : JobD} {y e : Int} {n : Pic} {room w : Nat} (S : JobSt Z B h bj bf vf bt vt p q rv d y e n room w) (W : d.Wf) : leftZ d y e ≤ 68719542272 :=
 Go.Proofs.YtojmncnelbnceaaGreatDoor.left_bd W S.inv.1 fun h => (S.inv.2.2 h).1
theorem JobSt.left_step {Z B : Nat → Prop} {h : Heap} {bj bf : Nat} {vf : Value} {bt : Nat} {vt p q rv : Value} {d : JobD} {y e : Int} {n : Pic} {room w : Nat} (S : JobSt Z B h bj bf vf bt vt p q rv d y e n room w) (hk : stepK d y e ≠ 0) : leftZ d (stepY d y e) (stepE d y e) + 1 = leftZ d y e := by
 refine Go.Proofs.YtojmncnelbnceaaGreatDoor.left_step hk (S.inv.2.2 ?_).2
 rcases Int.lt_or_le y (d.t.y + d.t.h) with h | h
 ·exact h
 ·exact absurd (by unfold stepK; rw [if_pos h]) hk
def Wrote (d : JobD) (n0 n : Pic) (y : Int) : Prop := ∀ x' y' c', inP n0 x' y' c' → atP n x' y' c' = if d.t.x ≤ x' ∧ x' < d.t.x + d.t.w ∧ d.t.y ≤ y' ∧ y' < y then pixZ d.m d.s x' y' c' else atP n0 x' y' c'
theorem Wrote.start (d : JobD) (n : Pic) : Wrote d n n d.t.y := fun x y c h => by rw [if_neg]; omega
theorem out_same {d : JobD} {n n' : Pic} (O : OutOk d n) (O' : OutOk d n') (x y c : Int) : inP n x y c ↔ inP n' x y c := by
 unfold inP
 rw [O.w, O.h, O.c, O'.w, O'.h, O'.c]
theorem Wrote.step {d : JobD} {n0 n n' : Pic} {y e : Int} {w : Nat} (H : Wrote d n0 n y) (O0 : OutOk d n0) (O : OutOk d n) (W : d.Wf) (hw : (w : Int) = d.t.w * d.m.c) (hy : d.t.y ≤ y)
  (h1 : stepK d y e ≠ 2 → n' = n) (h2 : stepK d y e = 2 → ∀ x' y' c', inP n x' y' c' → atP n' x' y' c' = if wrote d y w x' y' c' then pixZ d.m d.s x' y' c' else atP n x' y' c') : Wrote d n0 n' (stepY d y e) := by
 by_cases hk : stepK d y e = 2
 ·have hY : stepY d y e = y + 1 := by unfold stepY; rw [if_pos hk]
  rw [hY]
  intro x' y' c' hi
  have hi2 := (out_same O0 O x' y' c').1 hi
  rw [h2 hk x' y' c' hi2, H x' y' c' hi]
  have hc : 0 ≤ c' ∧ c' < d.m.c := by
   have := hi.2.2.2.2
   rw [O0.c] at this
   exact this
  have hw1 : d.t.x ≤ x' → x' < d.t.x + d.t.w → (x' - d.t.x) * d.m.c + c' < w := fun a1 a2 => by
   have := Int.mul_le_mul_of_nonneg_right (show x' - d.t.x + 1 ≤ d.t.w by omega) (show 0 ≤ d.m.c by omega)
   rw [Int.add_mul, Int.one_mul] at this
   omega
  by_cases g : wrote d y w x' y' c'
  ·rw [if_pos g, if_pos]
   obtain ⟨g1, g2, g3, g4⟩ := g
   omega
  ·rw [if_neg g]
   have : ¬ (y' = y ∧ d.t.x ≤ x' ∧ x' < d.t.x + d.t.w) := fun ⟨a, b, c⟩ => g ⟨a, b, c, hw1 b c⟩
   by_cases g2 : d.t.x ≤ x' ∧ x' < d.t.x + d.t.w ∧ d.t.y ≤ y' ∧ y' < y
   ·rw [if_pos g2, if_pos (by omega)]
   ·rw [if_neg g2, if_neg (by omega)]
 ·have hY : stepY d y e = y := by unfold stepY; rw [if_neg hk]
  rw [hY, h1 hk]
  exact H
theorem grow_grow {B : Nat → Prop} {h h1 h2 : Heap} (a : h.size ≤ h1.size) (b : h1.size ≤ h2.size) : Grow (Grow B h h1) h1 h2 = Grow B h h2 := by
 funext c
 unfold Grow
 apply propext
 constructor
 ·rintro ((h | h) | h)
  ·exact .inl h
  ·exact .inr ⟨h.1, by omega⟩
  ·exact .inr ⟨by omega, h.2⟩
 ·rintro (h | h)
  ·exact .inl (.inl h)
  ·by_cases hc : c < h1.size
   ·exact .inl (.inr ⟨h.1, hc⟩)
   ·exact .inr ⟨by omega, h.2⟩
theorem grow_self {B : Nat → Prop} {h : Heap} : Grow B h h = B := by
 funext c
 unfold Grow
 apply propext
 constructor
 ·rintro (h | h)
  ·exact h
  ·omega
 ·exact .inl
section
variable {Z B : Nat → Prop} {h : Heap} {bj bf : Nat} {vf : Value} {bt : Nat} {vt p q rv : Value} {d : JobD} {y e : Int} {n : Pic} {room w : Nat}
theorem c_Run (S : JobSt Z B h bj bf vf bt vt p q rv d y e n room w) (W : d.Wf) (R : RoomOk d room w) : FCall prog zbp #[ptr bj] h fun r h' =>
  r = .int .i64 (leftZ d y e : Nat) ∧ ∃ y' e' n', d.t.y + d.t.h ≤ y' ∧ JobSt Z (Grow B h h') h' bj bf vf bt vt p q rv d y' e' n' room w ∧ Fr (fun c => blk vt c ∨ B c) h h' ∧ ∀ n0, OutOk d n0 → Wrote d n0 n y → Wrote d n0 n' (d.t.y + d.t.h) := by
 apply zlo
 unfold zgl
 have hb := S.left_bd W
 refine zaz (α := Int × Int × Pic) (leftZ d y e) 0 (fun i _ => [.int .i64 (i : Int)])
  (fun i a h' => JobSt Z (Grow B h h') h' bj bf vf bt vt p q rv d a.1 a.2.1 a.2.2 room w ∧ Fr (fun c => blk vt c ∨ B c) h h' ∧ (∀ n0, OutOk d n0 → Wrote d n0 n y → Wrote d n0 a.2.2 a.1) ∧ leftZ d a.1 a.2.1 + i = leftZ d y e) (y, e, n) rfl (Nat.zero_le _)
  ⟨by rw [grow_self]; exact S, Fr.refl _ _, fun _ _ => id, rfl⟩ fun i a h1 again ρ1 _ hi ⟨S1, f1, H1, hl⟩ Hag => ?_
 obtain ⟨y1, e1, n1⟩ := a
 have S1 : JobSt Z (Grow B h h1) h1 bj bf vf bt vt p q rv d y1 e1 n1 room w := S1
 have H1 : ∀ n0, OutOk d n0 → Wrote d n0 n y → Wrote d n0 n1 y1 := H1
 have hl : leftZ d y1 e1 + i = leftZ d y e := hl
 refine (c_Step S1 W R).mono fun r h2 ⟨er, n2, S2, f2, a1, a2⟩ => ?_
 subst er
 have hp : partV false 1 0 (moveV (stepK d y1 e1) (stepJ d y1 e1)) = some (.int .i64 (stepK d y1 e1)) := rfl
 have e0 : Grow (Grow B h h1) h1 h2 = Grow B h h2 := grow_grow f1.1 f2.1
 rw [e0] at S2
 have f12 : Fr (fun c => blk vt c ∨ B c) h h2 := f1.after f2 fun c hc hm => hm.imp id fun hg => hg.elim id fun hh => by omega
 simp only [go_sem, hp]
 refine zab (fun hk => ?_) (fun hk => ?_)
 ·have hls := S1.left_step hk
  rw [w64 (by omega) (by omega)]
  exact Hag (stepY d y1 e1, stepE d y1 e1, n2) h2 (by omega) ⟨S2, f12, fun n0 O0 H0 => (H1 n0 O0 H0).step O0 S1.out W R.wid S1.inv.1 a1 a2, by show leftZ d (stepY d y1 e1) (stepE d y1 e1) + (i + 1) = _; omega⟩
 ·have hk : stepK d y1 e1 = 0 := Decidable.of_not_not hk
  have h0 := left_pos.2 hk
  have hi : i = leftZ d y e := by omega
  subst hi
  have hy : stepY d y1 e1 = y1 := by unfold stepY; rw [if_neg (by omega)]
  have hE : stepE d y1 e1 = e1 := by unfold stepE; rw [if_neg (by omega), if_neg (by omega)]
  rw [hy, hE] at S2
  have hov : d.t.y + d.t.h ≤ y1 := by
   unfold stepK at hk
   by_cases h9 : d.t.y + d.t.h ≤ y1
   ·exact h9
   ·rw [if_neg h9] at hk; split at hk <;> cases hk
  have hyy : y1 = d.t.y + d.t.h := by have := S1.inv.2.1; omega
  have hn : n2 = n1 := a1 (by omega)
  refine ⟨rfl, y1, e1, n2, hov, S2, f12, fun n0 O0 H0 => ?_⟩
  rw [hn, ← hyy]
  exact H1 n0 O0 H0
theorem c_jobTile (S : JobSt Z B h bj bf vf bt vt p q rv d y e n room w) : FCall prog zdP #[ptr bj] h fun r h' => r = .agg (tileC d.t).toArray ∧ Ext h h' := by
 apply zkD
 unfold zfC
 obtain ⟨⟨M, rs, J, a, b⟩, _⟩ := S
 refine zag fun b1 h1 r1 e1 n1 => ?_
 simp only [go_sem]
 rw [zaM (e1.row J.row) (0 + 5) 10 (tileC d.t) rfl rfl, zaa]
 refine zbt (l := tileC d.t) r1 rfl (zbO _) rfl fun h3 r3 u3 => ?_
 rw [zal r3 10 rfl, zaa]
 exact ⟨rfl, e1.upd n1 u3⟩
theorem c_jobWords (S : JobSt Z B h bj bf vf bt vt p q rv d y e n room w) : FCall prog zdu #[ptr bj] h fun r h' => r = .int .i64 ((room : Int) * w) ∧ h' = h := by
 apply zju
 unfold ze6
 obtain ⟨⟨M, rs, J, a, b⟩, _⟩ := S
 simp only [go_sem, J.c15 (Ext.refl _)]
 exact c_RWords J.ring
theorem c_jobHeld (S : JobSt Z B h bj bf vf bt vt p q rv d y e n room w) : FCall prog zcF #[ptr bj] h fun r h' => (∃ k : Nat, r = .int .i64 (k : Int) ∧ k ≤ room) ∧ h' = h := by
 apply zkG
 unfold zfF
 obtain ⟨⟨M, rs, J, a, b⟩, _⟩ := S
 simp only [go_sem, J.c15 (Ext.refl _)]
 exact (c_RLen J.ring).mono fun r h' ⟨e, w⟩ => ⟨⟨_, e, J.ring.nums.2.2.2.1⟩, w⟩
end
def zev (s : Stg) (t : TileD) (m : Pic) : Nat := leftZ ⟨m, s, t⟩ t.y (lnF s.y t.y)
theorem zqV {Z : Nat → Prop} {h : Heap} {p q : Value} {s : Stg} {t : TileD} (m : Pic) (hp : IsTbl Z h p s.x) (hq : IsTbl Z h q s.y) (OK : StgOk s) :
  FCall prog zcl #[.agg #[p, q, .int .i64 s.border], .agg (tileC t).toArray] h fun r h' => r = .int .i64 (if zaY s t.x t.y t.w t.h then (zev s t m : Int) else 0) ∧ Ext h h' := by
 apply znu
 unfold zhD
 simp only [zax]
 have HS : IsStg Z h (.agg #[p, q, .int .i64 s.border]) s := ⟨p, q, rfl, hp, hq⟩
 refine zag fun b1 h1 r1 e1 n1 => zag fun b2 h2 r2 e2 n2 => ?_
 have E2 := e1.trans e2
 have r1 := e2.row r1
 rw [zal (l := [p, q, .int .i64 s.border]) r1 3 rfl, zaa, zix, zaa, zaM r2 (0 + 1) 4 [.int .i64 t.x, .int .i64 t.y, .int .i64 t.w, .int .i64 t.h] rfl rfl, zaa]
 refine FCall.to (c_within (HS.ext E2) OK.wf) fun h4 e4 => ?_
 have E4 := E2.trans e4
 have r1 := e4.row r1
 have r2 := e4.row r2
 by_cases g : zaY s t.x t.y t.w t.h
 case neg =>
  rw [if_neg g]
  simp only [go_sem, decide_eq_false g]
  exact ⟨trivial, E4⟩
 rw [if_pos g]
 obtain ⟨g1, g2, g3, g4, g5, g6, g7, g8⟩ := g
 have q1 : zah h4 ⟨b1, 1, none⟩ = some q := zac r1
 have t4 : zah h4 ⟨b2, 4, none⟩ = some (.int .i64 t.h) := zac r2
 have t2 : zah h4 ⟨b2, 2, none⟩ = some (.int .i64 t.y) := zac r2
 simp only [go_sem, decide_eq_true (show zaY s t.x t.y t.w t.h from ⟨g1, g2, g3, g4, g5, g6, g7, g8⟩), t4, q1, t2]
 refine (zmr (hq.ext E4) OK.wf.y).mono fun r h5 ⟨u, e, S, e5⟩ => ?_
 subst e
 have E5 := E4.trans e5
 have hpt : partV false 1 0 (.agg #[.int .i64 (lineT s.y t.y).1, u]) = some (.int .i64 (lnF s.y t.y)) := rfl
 have t4 : zah h5 ⟨b2, 4, none⟩ = some (.int .i64 t.h) := zac (e5.row r2)
 simp only [go_sem, hpt, t4]
 obtain ⟨H, hH⟩ : ∃ H : Nat, t.h = (H : Int) := ⟨t.h.toNat, by omega⟩
 have hly := OK.wf.y.len
 have hmo := OK.mono
 obtain ⟨d, hd⟩ : ∃ d : JobD, d = ⟨m, s, t⟩ := ⟨_, rfl⟩
 have hds : d.s = s := by rw [hd]
 have htot : zev s t m = leftN d H t.y (lnF s.y t.y) := by
  unfold zev leftZ
  rw [hd]
  show leftN _ (t.y + t.h - t.y).toNat _ _ = _
  rw [show (t.y + t.h - t.y).toNat = H by omega]
 have hbd : ∀ k y e, lnF s.y y ≤ e → leftN d k y e ≤ k * 1048577 := fun k y e he => zmP (by rw [hds]; exact OK.wf.y) k y e (by rw [hds]; exact he)
 have htb := hbd H t.y (lnF s.y t.y) (Int.le_refl _)
 rw [hH]
 refine zaz (α := Int × Int) H 0 (fun k a => [.int .i64 a.1, .int .i64 a.2, .int .i64 (k : Int)])
  (fun k a h' => Ext h h' ∧ h'[b1]? = some (.cells #[p, q, .int .i64 s.border] 36 (0, 0)) ∧ h'[b2]? = some (.cells (tileC t).toArray 43 (0, 0)) ∧ 0 ≤ a.1 ∧ a.1 + leftN d (H - k) (t.y + k) (max a.2 (lnF s.y (t.y + k))) - (H - k : Nat) = zev s t m ∧ (k < H → a.2 ≤ lnE s.y (t.y + k) ∧ lnF s.y t.y ≤ a.2)) ((H : Int), lnF s.y t.y) rfl (Nat.zero_le _)
  ⟨E5, e5.row r1, e5.row r2, by show (0 : Int) ≤ (H : Int); omega, by
   show ((H : Int) + (leftN d (H - 0) (t.y + (0 : Nat)) (max (lnF s.y t.y) (lnF s.y (t.y + (0 : Nat)))) : Int)) - _ = _
   rw [show t.y + ((0 : Nat) : Int) = t.y by omega, show max (lnF s.y t.y) (lnF s.y t.y) = lnF s.y t.y by omega, htot, Nat.sub_zero]
   omega, fun _ => by
   show lnF s.y t.y ≤ lnE s.y (t.y + (0 : Nat)) ∧ _
   rw [show t.y + ((0 : Nat) : Int) = t.y by omega]
   exact ⟨by unfold lnE lnF; omega, Int.le_refl _⟩⟩ fun k a h6 again ρ1 _ hk ⟨E6, r16, r26, a0, hI, hL⟩ Hag => ?_
 obtain ⟨n, last⟩ := a
 have a0 : 0 ≤ n := a0
 have hI : n + leftN d (H - k) (t.y + k) (max last (lnF s.y (t.y + k))) - (H - k : Nat) = zev s t m := hI
 have hL : k < H → last ≤ lnE s.y (t.y + k) ∧ lnF s.y t.y ≤ last := hL
 simp only [go_sem]
 refine zab (fun h7 => ?_) (fun h7 => ?_)
 ·have hk' : k < H := by omega
  obtain ⟨hL, hL2⟩ := hL hk'
  have q1 : zah h6 ⟨b1, 1, none⟩ = some q := zac r16
  have t2 : zah h6 ⟨b2, 2, none⟩ = some (.int .i64 t.y) := zac r26
  simp only [go_sem, q1, t2]
  rw [w64 (n := t.y + (k : Int)) (by omega) (by omega)]
  refine (zmr (hq.ext E6) OK.wf.y).mono fun r h7 ⟨u, e, S, e7⟩ => ?_
  subst e
  have hl := zdK OK.wf.y (t.y + k)
  refine zaR (cs := [.int .i64 (lineT s.y (t.y + k)).1, u]) rfl (zad rfl (zad S.one zaq)) rfl fun b8 h8 r8 e8 n8 => ?_
  obtain ⟨au, cu, eu⟩ := S.isSl
  have eu2 : zaf u = some (.int .i64 ((lineT s.y (t.y + k)).2.length : Int)) := by rw [eu]; rfl
  have c0 : zah h8 ⟨b8, 0, none⟩ = some (.int .i64 (lineT s.y (t.y + k)).1) := zac r8
  have c1 : zah h8 ⟨b8, 1, none⟩ = some u := zac r8
  simp only [go_sem, Nat.zero_add, c0, c1, eu2]
  have hEe : (lineT s.y (t.y + k)).1 + ((lineT s.y (t.y + k)).2.length : Int) = lnE s.y (t.y + k) := rfl
  have hFe : (lineT s.y (t.y + k)).1 = lnF s.y (t.y + k) := rfl
  have hFE : lnF s.y (t.y + k) ≤ lnE s.y (t.y + k) := by unfold lnE lnF; omega
  have hEb : -70368744177664 ≤ lnE s.y (t.y + k) ∧ lnE s.y (t.y + k) ≤ 70368745226240 := by unfold lnE; omega
  have hFb := zdK OK.wf.y t.y
  have hFb2 : -70368744177664 ≤ lnF s.y t.y ∧ lnF s.y t.y ≤ 70368744177664 := ⟨hFb.2.1, hFb.2.2⟩
  have hFk : -70368744177664 ≤ lnF s.y (t.y + k) := hl.2.1
  rw [w64 (n := (lineT s.y (t.y + k)).1 + ((lineT s.y (t.y + k)).2.length : Int)) (by omega) (by omega), hEe, hFe]
  have hsplit : leftN d (H - k) (t.y + k) (max last (lnF s.y (t.y + k))) = (lnE s.y (t.y + k) - max last (lnF s.y (t.y + k))).toNat + 1 + leftN d (H - (k + 1)) (t.y + (k + 1 : Nat)) (max (lnE s.y (t.y + k)) (lnF s.y (t.y + (k + 1 : Nat)))) := by
   rw [show H - k = (H - (k + 1)) + 1 by omega]
   rw [leftN, hds, show t.y + (k : Int) + 1 = t.y + ((k + 1 : Nat) : Int) by omega]
  have hlb := hbd (H - (k + 1)) (t.y + (k + 1 : Nat)) (max (lnE s.y (t.y + k)) (lnF s.y (t.y + (k + 1 : Nat)))) (by omega)
  rw [hsplit] at hI
  generalize hld : leftN d (H - (k + 1)) (t.y + (k + 1 : Nat)) (max (lnE s.y (t.y + k)) (lnF s.y (t.y + (k + 1 : Nat)))) = LL at *
  rw [w64 (n := lnE s.y (t.y + k) - max last (lnF s.y (t.y + k))) (by omega) (by omega), w64 (n := n + max 0 (lnE s.y (t.y + k) - max last (lnF s.y (t.y + k)))) (by omega) (by omega), w64 (n := (k : Int) + 1) (by omega) (by omega)]
  refine Hag (n + max 0 (lnE s.y (t.y + k) - max last (lnF s.y (t.y + k))), max last (lnE s.y (t.y + k))) h8 hk' ⟨E6.trans (e7.trans e8), (e7.trans e8).row r16, (e7.trans e8).row r26, ?_, ?_, fun hk2 => ?_⟩
  ·show 0 ≤ n + max 0 (lnE s.y (t.y + k) - max last (lnF s.y (t.y + k))); omega
  ·show n + max 0 (lnE s.y (t.y + k) - max last (lnF s.y (t.y + k))) + (leftN d (H - (k + 1)) (t.y + (k + 1 : Nat)) (max (max last (lnE s.y (t.y + k))) (lnF s.y (t.y + (k + 1 : Nat)))) : Int) - _ = _
   rw [show max last (lnE s.y (t.y + k)) = lnE s.y (t.y + k) by omega, hld]
   omega
  ·have := hmo.e (t.y + k) (t.y + (k + 1 : Nat)) (by omega) (by omega) (by omega)
   show max last (lnE s.y (t.y + k)) ≤ lnE s.y (t.y + (k + 1 : Nat)) ∧ lnF s.y t.y ≤ max last (lnE s.y (t.y + k))
   omega
 ·have hkH : k = H := by omega
  subst hkH
  refine ⟨?_, E6⟩
  rw [Nat.sub_self] at hI
  have : n = zev s t m := by unfold leftN at hI; omega
  rw [this]
end
theorem sum_turn (a b : Nat → Int) (v : Nat → Nat → Int) (n m : Nat) : sumN (fun i => a i * sumN (fun k => b k * v i k) m) n = sumN (fun k => b k * sumN (fun i => a i * v i k) n) m := by
 have e1 : ∀ i, a i * sumN (fun k => b k * v i k) m = sumN (fun k => a i * (b k * v i k)) m := fun i => (zpJ (a i) _ m).symm
 have e2 : ∀ k, b k * sumN (fun i => a i * v i k) n = sumN (fun i => a i * (b k * v i k)) n := fun k => by
  rw [← zpJ]
  exact zit fun i _ => by rw [← Int.mul_assoc, ← Int.mul_assoc, Int.mul_comm (b k) (a i)]
 rw [zit fun i _ => e1 i, sumN_swap, zit fun k _ => (e2 k).symm]
theorem zmO {t : Tbl} {i : Nat} (hi : i < t.lines.length) : t.lines[i] = lineT t (i : Int) := by
 unfold lineT
 rw [if_pos (by omega)]
 simp [List.getD_eq_getElem?_getD, hi]
theorem c_r15Round {h : Heap} {n most : Int} (hn : I64 n) : FCall prog zgZ #[.int .i64 n, .int .i64 most] h fun r h' => r = .int .u16 (zhu n most) ∧ Ext h h' := by
 apply zon
 unfold ziX
 refine FCall.to (zk7 hn (by unfold I64; omega)) fun h1 e1 => ?_
 unfold zhu
 generalize ze4 n 28 = v
 refine zat (fun xs h' => xs = [.int .i64 (max 0 most)] ∧ h' = h1) ?_ ?_
 ·simp only [go_sem]
  refine zab (fun h2 => ?_) (fun h2 => ?_)
  ·rw [show max 0 most = 0 by omega]; exact ⟨rfl, trivial⟩
  ·rw [show max 0 most = most by omega]; exact ⟨rfl, trivial⟩
 rintro _ ρ h' ⟨rfl, w⟩
 have w := w.symm
 subst w
 simp only [go_sem]
 refine zab (fun h2 => ?_) (fun h2 => ?_)
 ·refine zab (fun h3 => ?_) (fun h3 => ?_)
  ·rw [show max 0 (min v (max 0 (min most 65535))) = 0 by omega]; exact ⟨rfl, e1⟩
  refine zab (fun h4 => ?_) (fun h4 => ?_)
  ·rw [wu16 (by omega) (by omega), show max 0 (min v (max 0 (min most 65535))) = 65535 by omega]; exact ⟨rfl, e1⟩
  ·rw [wu16 (by omega) (by omega), show max 0 (min v (max 0 (min most 65535))) = v by omega]; exact ⟨rfl, e1⟩
 ·refine zab (fun h3 => ?_) (fun h3 => ?_)
  ·rw [show max 0 (min v (max 0 (min most 65535))) = 0 by omega]; exact ⟨rfl, e1⟩
  refine zab (fun h4 => ?_) (fun h4 => ?_)
  ·rw [wu16 (by omega) (by omega), show max 0 (min v (max 0 (min most 65535))) = max 0 most by omega]; exact ⟨rfl, e1⟩
  ·rw [wu16 (by omega) (by omega), show max 0 (min v (max 0 (min most 65535))) = v by omega]; exact ⟨rfl, e1⟩
theorem c_r15Sum {h : Heap} {Z Z' : Nat → Prop} {cs ds : List Value} {m : Pic} {s : Stg} (H : rPic.R Z h cs m) (W : m.Wf) (K : rStg.R Z' h ds s) (WS : s.Wf) {x y : Nat} (hx : x < s.x.lines.length) (hy : y < s.y.lines.length) {c : Int} :
  FCall prog zjI #[.agg cs.toArray, .agg ds.toArray, .int .i64 (x : Int), .int .i64 (y : Int), .int .i64 c] h fun r h' => r = .int .i64 (IntKind.i64.wrap (totZ m s x y c)) ∧ Ext h h' := by
 apply ok_ref15_Sum
 unfold zl0
 have H0 := H
 obtain ⟨u, rfl, Hu⟩ := H
 obtain ⟨X, Y, rfl, HX, HY⟩ := K
 simp only [zax]
 refine zag fun b1 h1 r1 e1 n1 => zag fun b2 h2 r2 e2 n2 => ?_
 have E2 := e1.trans e2
 have r1 := e2.row r1
 have k0 : zah h2 ⟨b2, 0, none⟩ = some X := zac r2
 simp only [go_sem, Nat.zero_add, k0]
 obtain ⟨bx, ox, cx, ix1, lx, ax, Rx, _⟩ := HX.atp (show 0 < 2 by omega) (k := .i64) hx
 obtain ⟨ux, rfl, Sx⟩ := Rx
 rw [zmO hx] at ax Sx
 obtain ⟨by', oy, cy, iy1, ly, ay, Ry, _⟩ := HY.atp (show 0 < 2 by omega) (k := .i64) hy
 obtain ⟨uy, rfl, Sy⟩ := Ry
 rw [zmO hy] at ay Sy
 have ix1 : idxV 2 X (.int .i64 (x : Int)) = some (.pointer (some ⟨bx, ox, none⟩)) := ix1
 have iy1 : idxV 2 Y (.int .i64 (y : Int)) = some (.pointer (some ⟨by', oy, none⟩)) := iy1
 have x0 := ax 0 (by simp)
 have x1 := ax 1 (by simp)
 have y0 := ay 0 (by simp)
 have y1 := ay 1 (by simp)
 simp only [Nat.add_zero, List.getElem_cons_zero, List.getElem_cons_succ] at x0 x1 y0 y1
 have hlx := zdK WS.x (x : Int)
 have hly := zdK WS.y (y : Int)
 have hf := zbn W.fits
 have htot : totZ m s x y c = sumN (fun i => (lineT s.x x).2.getD i 0 * sumN (fun k => (lineT s.y y).2.getD k 0 * atP m (atZ s.border ((lineT s.x x).1 + i) m.w) (atZ s.border ((lineT s.y y).1 + k) m.h) c) (lineT s.y y).2.length) (lineT s.x x).2.length := by
  unfold totZ zgb
  exact (sum_turn _ _ (fun i k => atP m (atZ s.border ((lineT s.x x).1 + i) m.w) (atZ s.border ((lineT s.y y).1 + k) m.h) c) _ _).symm
 rw [htot]
 clear htot
 generalize lineT s.x x = Lx at *
 generalize lineT s.y y = Ly at *
 obtain ⟨aux, cux, eux⟩ := Sx.isSl
 have eux2 : zaf ux = some (.int .i64 (Lx.2.length : Int)) := by rw [eux]; rfl
 obtain ⟨auy, cuy, euy⟩ := Sy.isSl
 have euy2 : zaf uy = some (.int .i64 (Ly.2.length : Int)) := by rw [euy]; rfl
 simp only [go_sem, ix1, E2.cell x1, eux2]
 refine zaz (α := Unit) Lx.2.length 0 (fun i _ => [.int .i64 (IntKind.i64.wrap (sumN (fun i => Lx.2.getD i 0 * sumN (fun k => Ly.2.getD k 0 * atP m (atZ s.border (Lx.1 + i) m.w) (atZ s.border (Ly.1 + k) m.h) c) Ly.2.length) i)), .int .i64 (i : Int)]) (fun i _ h' => Ext h2 h') () rfl (Nat.zero_le _) (Ext.refl _)
  fun i _ h3 again ρ1 _ hi E3 Hag => ?_
 simp only [go_sem]
 refine zab (fun g1 => ?_) (fun g1 => ?_)
 ·have hi' : i < Lx.2.length := by omega
  have E03 := E2.trans E3
  obtain ⟨pi, p1, p2⟩ := (Sx.ext E03).int_at (k' := .i64) hi'
  have ea : Lx.2.getD i 0 = Lx.2[i] := by simp [List.getD_eq_getElem?_getD, hi']
  rw [p1, zaa, p2, zaa, ← ea]
  have r13 := E3.row r1
  have r23 := E3.row r2
  refine zak (fun h' => h' = h3) rfl ?_
  try simp only [go_sem, Nat.zero_add]
  refine zae (.int .i64 s.border) (fun h' e => by rw [e]; exact zac r23) ?_
  refine zae X (fun h' e => by rw [e]; exact zac r23) ?_
  simp only [go_sem, ix1]
  refine zae (.int .i64 Lx.1) (fun h' e => by rw [e]; exact E03.cell x0) ?_
  try simp only [go_sem]
  refine zae (.int .i64 m.w) (fun h' e => by rw [e]; exact zac r13) ?_
  rw [w64 (n := Lx.1 + (i : Int)) (by omega) (by omega)]
  refine FCall.at (c_r7At (by unfold I64; omega)) ?_
  have k1 : zah h3 ⟨b2, 1, none⟩ = some Y := zac r23
  simp only [go_sem, k1, iy1, E03.cell y1, euy2]
  refine zaz (α := Unit) Ly.2.length 0 (fun k _ => [.int .i64 (IntKind.i64.wrap (sumN (fun k => Ly.2.getD k 0 * atP m (atZ s.border (Lx.1 + i) m.w) (atZ s.border (Ly.1 + k) m.h) c) k)), .int .i64 (k : Int)]) (fun i _ h' => Ext h2 h') () rfl (Nat.zero_le _) E3
   fun k _ h4 again2 ρ2 _ hk E4 Hag2 => ?_
  simp only [go_sem]
  refine zab (fun g2 => ?_) (fun g2 => ?_)
  ·have hk' : k < Ly.2.length := by omega
   have E04 := E2.trans E4
   obtain ⟨pk, q1, q2⟩ := (Sy.ext E04).int_at (k' := .i64) hk'
   have eb : Ly.2.getD k 0 = Ly.2[k] := by simp [List.getD_eq_getElem?_getD, hk']
   rw [q1, zaa, q2, zaa, ← eb]
   have r14 := E4.row r1
   have r24 := E4.row r2
   refine zak (fun h' => h' = h4) rfl ?_
   try simp only [go_sem, Nat.zero_add]
   refine zae (.int .i64 s.border) (fun h' e => by rw [e]; exact zac r24) ?_
   refine zae Y (fun h' e => by rw [e]; exact zac r24) ?_
   simp only [go_sem, iy1]
   refine zae (.int .i64 Ly.1) (fun h' e => by rw [e]; exact E04.cell y0) ?_
   try simp only [go_sem]
   refine zae (.int .i64 m.h) (fun h' e => by rw [e]; exact zac r14) ?_
   rw [w64 (n := Ly.1 + (k : Int)) (by omega) (by omega)]
   refine FCall.at (c_r7At (by unfold I64; omega)) ?_
   rw [zal (l := [.int .i64 m.w, .int .i64 m.h, .int .i64 m.c, .int .i64 m.most, u]) r14 5 rfl, zaa]
   refine FCall.to (c_r9At (rPic.ext H0 E04) W) fun h5 e5 => ?_
   have hv := atP_bd W (atZ s.border (Lx.1 + (i : Int)) m.w) (atZ s.border (Ly.1 + (k : Int)) m.h) c
   have hm := W.m2
   simp only [go_sem]
   rw [w64 (n := atP m (atZ s.border (Lx.1 + (i : Int)) m.w) (atZ s.border (Ly.1 + (k : Int)) m.h) c) (by omega) (by omega), zjT, w64 (n := (k : Int) + 1) (by omega) (by omega)]
   exact Hag2 () h5 hk' (E4.trans e5)
  ·have hkL : k = Ly.2.length := by omega
   subst hkL
   rw [ziq, zjT, w64 (n := (i : Int) + 1) (by omega) (by omega)]
   exact Hag () h4 hi' E4
 ·have hiL : i = Lx.2.length := by omega
  subst hiL
  exact ⟨rfl, E2.trans E3⟩
def pixL (m : Pic) (s : Stg) (i : Nat) : Int := pixZ m s ((i / m.c.toNat % s.x.lines.length : Nat) : Int) ((i / m.c.toNat / s.x.lines.length : Nat) : Int) ((i % m.c.toNat : Nat) : Int)
def zlb (m : Pic) (s : Stg) : Pic := ⟨s.x.lines.length, s.y.lines.length, m.c, m.most, (List.range (s.y.lines.length * s.x.lines.length * m.c.toNat)).map fun i : Nat => pixL m s i⟩
theorem pixL_at {m : Pic} {s : Stg} {x y c : Nat} (hx : x < s.x.lines.length) (hc : c < m.c.toNat) : pixL m s ((y * s.x.lines.length + x) * m.c.toNat + c) = pixZ m s x y c := by
 unfold pixL
 have e1 : ((y * s.x.lines.length + x) * m.c.toNat + c) / m.c.toNat = y * s.x.lines.length + x := by
  rw [Nat.mul_comm, Nat.mul_add_div (by omega), Nat.div_eq_of_lt hc, Nat.add_zero]
 have e2 : ((y * s.x.lines.length + x) * m.c.toNat + c) % m.c.toNat = c := by
  rw [Nat.mul_comm, Nat.mul_add_mod, Nat.mod_eq_of_lt hc]
 rw [e1, e2]
 have e3 : (y * s.x.lines.length + x) % s.x.lines.length = x := by rw [Nat.mul_comm, Nat.mul_add_mod, Nat.mod_eq_of_lt hx]
 have e4 : (y * s.x.lines.length + x) / s.x.lines.length = y := by rw [Nat.mul_comm, Nat.mul_add_div (by omega), Nat.div_eq_of_lt hx, Nat.add_zero]
 rw [e3, e4]
theorem pixZ_bd {m : Pic} (W : m.Wf) (s : Stg) (x y c : Int) : 0 ≤ pixZ m s x y c ∧ pixZ m s x y c ≤ m.most := by
 have := znk (IntKind.i64.wrap (totZ m s x y c)) (most := m.most) (by have := W.m1; omega)
 unfold pixZ
 exact ⟨this.1, this.2.2⟩
theorem applyP_wf {m : Pic} {s : Stg} (W : m.Wf) (hf : fitsZ s.x.lines.length s.y.lines.length m.c) : (zlb m s).Wf := by
 have hb := zbn hf
 refine ⟨hf, W.m1, W.m2, ?_, ?_⟩
 ·show (((List.range _).map _).length : Int) = (s.x.lines.length : Int) * (s.y.lines.length : Int) * m.c
  rw [List.length_map, List.length_range, Int.natCast_mul, Int.natCast_mul, Int.toNat_of_nonneg (by omega), Int.mul_comm (s.y.lines.length : Int)]
 ·intro x hx
  obtain ⟨i, _, rfl⟩ := List.mem_map.1 hx
  exact pixZ_bd W s _ _ _
theorem applyP_at {m : Pic} {s : Stg} {x y c : Int} (hi : inP (zlb m s) x y c) : atP (zlb m s) x y c = pixZ m s x y c := by
 unfold atP
 rw [if_pos hi]
 obtain ⟨x0, x1, y0, y1, c0, c1⟩ := hi
 have x1 : x < s.x.lines.length := x1
 have y1 : y < s.y.lines.length := y1
 have c1 : c < m.c := c1
 obtain ⟨a, rfl⟩ : ∃ a : Nat, x = a := ⟨x.toNat, by omega⟩
 obtain ⟨b, rfl⟩ : ∃ b : Nat, y = b := ⟨y.toNat, by omega⟩
 obtain ⟨e, rfl⟩ : ∃ e : Nat, c = e := ⟨c.toNat, by omega⟩
 have hp : (posP (zlb m s) a b e).toNat = (b * s.x.lines.length + a) * m.c.toNat + e := by
  show (((b : Int) * (s.x.lines.length : Int) + a) * m.c + e).toNat = _
  have : ((((b * s.x.lines.length + a) * m.c.toNat + e : Nat)) : Int) = ((b : Int) * (s.x.lines.length : Int) + a) * m.c + e := by
   rw [Int.natCast_add, Int.natCast_mul, Int.natCast_add, Int.natCast_mul, Int.toNat_of_nonneg (by omega)]
  omega
 rw [hp]
 have h1 : b * s.x.lines.length + a < s.y.lines.length * s.x.lines.length := by
  have : (b + 1) * s.x.lines.length ≤ s.y.lines.length * s.x.lines.length := Nat.mul_le_mul_right _ (by omega)
  rw [Nat.add_mul, Nat.one_mul] at this
  omega
 have h2 : (b * s.x.lines.length + a) * m.c.toNat + e < s.y.lines.length * s.x.lines.length * m.c.toNat := by
  have : (b * s.x.lines.length + a + 1) * m.c.toNat ≤ s.y.lines.length * s.x.lines.length * m.c.toNat := Nat.mul_le_mul_right _ (by omega)
  rw [Nat.add_mul, Nat.one_mul] at this
  omega
 show ((List.range _).map _).getD _ 0 = _
 rw [List.getD_eq_getElem?_getD, List.getElem?_map, List.getElem?_range h2]
 exact pixL_at (by omega) (by omega)
theorem c_r15Apply {h : Heap} {Z Z' : Nat → Prop} {cs ds : List Value} {m : Pic} {s : Stg} (H : rPic.R Z h cs m) (W : m.Wf) (K : rStg.R Z' h ds s) (WS : s.Wf) (hf : fitsZ s.x.lines.length s.y.lines.length m.c) :
  FCall prog zg0 #[.agg cs.toArray, .agg ds.toArray] h fun r h' => ∃ es, r = .agg es.toArray ∧ rPic.R (Since h h') h' es (zlb m s) ∧ Ext h h' := by
 apply zoo
 unfold ziY
 have H0 := H
 have K0 := K
 obtain ⟨u, rfl, Hu⟩ := H
 obtain ⟨X, Y, rfl, HX, HY⟩ := K
 simp only [zax]
 refine zag fun b1 h1 r1 e1 n1 => zag fun b2 h2 r2 e2 n2 => zag fun b3 h3 r3 e3 n3 => ?_
 have r1 := (e2.trans e3).row r1
 have r2 := e3.row r2
 have E3 := e1.trans (e2.trans e3)
 obtain ⟨aX, cX, eX⟩ := HX.isSl
 have eX2 : zaf X = some (.int .i64 (s.x.lines.length : Int)) := by rw [eX]; rfl
 obtain ⟨aY, cY, eY⟩ := HY.isSl
 have eY2 : zaf Y = some (.int .i64 (s.y.lines.length : Int)) := by rw [eY]; rfl
 have k0 : zah h3 ⟨b2, 0, none⟩ = some X := zac r2
 have k1 : zah h3 ⟨b2, 1, none⟩ = some Y := zac r2
 have k2 : zah h3 ⟨b1, 2, none⟩ = some (.int .i64 m.c) := zac r1
 have k3 : zah h3 ⟨b1, 3, none⟩ = some (.int .i64 m.most) := zac r1
 simp only [go_sem, Nat.zero_add, k0, k1, k2, k3, eX2, eY2]
 have hfl : fillL #[(.int .i64 0), (.int .i64 0), (.int .i64 0), (.int .i64 0), (.slice none 0 0)] [(0, 1, .int .i64 (s.x.lines.length : Int)), (1, 1, .int .i64 (s.y.lines.length : Int)), (2, 1, .int .i64 m.c), (3, 1, .int .i64 m.most)] = some #[.int .i64 (s.x.lines.length : Int), .int .i64 (s.y.lines.length : Int), .int .i64 m.c, .int .i64 m.most, .slice none 0 0] := rfl
 rw [hfl, zaA, zaa]
 refine zaR (cs := [.int .i64 (s.x.lines.length : Int), .int .i64 (s.y.lines.length : Int), .int .i64 m.c, .int .i64 m.most, .slice none 0 0]) rfl (zad rfl (zad rfl (zad rfl (zad rfl (zad rfl zaq))))) rfl fun b4 h4 r4 e4 n4 => ?_
 have r1' := r1
 have r2' := r2
 have k1 : zah h4 ⟨b2, 1, none⟩ = some Y := zac (e4.row r2)
 simp only [go_sem, Nat.zero_add, k1, eY2]
 have E4 := E3.trans e4
 have hb := zbn hf
 have E3' : Ext h h3 := E3
 obtain ⟨C, hC⟩ : ∃ C : Nat, m.c = (C : Int) := ⟨m.c.toNat, by omega⟩
 obtain ⟨Xn, hXn⟩ : ∃ Xn, Xn = s.x.lines.length := ⟨_, rfl⟩
 obtain ⟨Yn, hYn⟩ : ∃ Yn, Yn = s.y.lines.length := ⟨_, rfl⟩
 have hCn : m.c.toNat = C := by omega
 have htot : Yn * Xn * C ≤ 268435456 := by
  have h1 : ((Yn * Xn * C : Nat) : Int) = (Xn : Int) * (Yn : Int) * (C : Int) := by rw [Int.natCast_mul, Int.natCast_mul, Int.mul_comm (Yn : Int)]
  have := hb.2.2.2.2.2.2.2.2.2
  rw [← hXn, ← hYn, hC] at this
  omega
 have hpl : zlb m s = ⟨Xn, Yn, m.c, m.most, (List.range (Yn * Xn * C)).map fun i : Nat => pixL m s i⟩ := by unfold zlb; rw [← hXn, ← hYn, hCn]
 rw [← hXn, ← hYn, hC] at r4 hb
 rw [hC] at r1' H0
 rw [← hXn] at eX2
 rw [← hYn] at eY2
 rw [← hYn]
 -- what holds behind so many samples
 obtain ⟨I, hI⟩ : ∃ I : Nat → Value → Heap → Prop, I = fun N v h' => New rU h3 h' v ((List.range N).map fun i : Nat => pixL m s i) ∧ h'[b4]? = some (.cells #[.int .i64 (Xn : Int), .int .i64 (Yn : Int), .int .i64 (C : Int), .int .i64 m.most, v] 65 (0, 0)) ∧ ¬ blk v b4 := ⟨_, rfl⟩
 refine zaz (α := Value) Yn 0 (fun y _ => [.int .i64 (y : Int)]) (fun y v h' => I (y * Xn * C) v h') (.slice none 0 0) rfl (Nat.zero_le _)
  (by rw [hI, Nat.zero_mul, Nat.zero_mul]; exact ⟨New.nil e4, r4, fun hh => hh⟩) fun y v h5 again ρ1 _ hy HI Hag => ?_
 simp only [go_sem]
 refine zab (fun g1 => ?_) (fun g1 => ?_)
 ·have hy' : y < Yn := by omega
  have E5 : Ext h3 h5 := by rw [hI] at HI; exact HI.1.2.1
  have k0 : zah h5 ⟨b2, 0, none⟩ = some X := zac (E5.row r2')
  simp only [go_sem, Nat.zero_add, k0, eX2]
  refine zaz (α := Value) Xn 0 (fun x _ => [.int .i64 (x : Int)]) (fun x v h' => I ((y * Xn + x) * C) v h') v rfl (Nat.zero_le _)
   (by rw [Nat.add_zero]; exact HI) fun x v h6 again2 ρ2 _ hx HI6 Hag2 => ?_
  simp only [go_sem]
  refine zab (fun g2 => ?_) (fun g2 => ?_)
  ·have hx' : x < Xn := by omega
   have E6 : Ext h3 h6 := by rw [hI] at HI6; exact HI6.1.2.1
   have k2 : zah h6 ⟨b1, 2, none⟩ = some (.int .i64 (C : Int)) := zac (E6.row r1')
   simp only [go_sem, Nat.zero_add, k2]
   refine zaz (α := Value) C 0 (fun c _ => [.int .i64 (c : Int)]) (fun c v h' => I ((y * Xn + x) * C + c) v h') v rfl (Nat.zero_le _)
    (by rw [Nat.add_zero]; exact HI6) fun c v h7 again3 ρ3 _ hc HI7 Hag3 => ?_
   simp only [go_sem]
   refine zab (fun g3 => ?_) (fun g3 => ?_)
   ·have hc' : c < C := by omega
    rw [hI] at HI7
    obtain ⟨N7, r47, nb7⟩ := HI7
    have E7 := N7.2.1
    have E07 := E3'.trans E7
    have hlen : (y * Xn + x) * C + c < Yn * Xn * C := by
     have h1 : (y + 1) * Xn ≤ Yn * Xn := Nat.mul_le_mul_right _ (by omega)
     rw [Nat.add_mul, Nat.one_mul] at h1
     have h2 : (y * Xn + x + 1) * C ≤ Yn * Xn * C := Nat.mul_le_mul_right _ (by omega)
     rw [Nat.add_mul, Nat.one_mul] at h2
     omega
    refine zak (Ext h7) (Ext.refl _) ?_
    try simp only [go_sem, Nat.zero_add]
    refine zae v (fun h' e => zac (e.row r47)) ?_
    refine zae (.agg #[.int .i64 m.w, .int .i64 m.h, .int .i64 (C : Int), .int .i64 m.most, u]) (fun h' e => zal (l := [.int .i64 m.w, .int .i64 m.h, .int .i64 (C : Int), .int .i64 m.most, u]) ((E7.trans e).row r1') 5 rfl) ?_
    refine zae (.agg #[X, Y, .int .i64 s.x.n, .int .i64 s.y.n, .int .i64 s.border]) (fun h' e => zal (l := [X, Y, .int .i64 s.x.n, .int .i64 s.y.n, .int .i64 s.border]) ((E7.trans e).row r2') 5 rfl) ?_
    try simp only [go_sem, Nat.zero_add]
    refine zae (.int .i64 m.most) (fun h' e => zac ((E7.trans e).row r1')) ?_
    refine FCall.to (c_r15Sum (rPic.ext H0 E07) W (rStg.ext K0 E07) WS (x := x) (y := y) (by omega) (by omega)) fun h8 e8 => ?_
    refine ⟨e8, ?_⟩
    refine FCall.to (c_r15Round (zcA _)) fun h9 e9 => ?_
    have e89 := e8.trans e9
    refine ⟨e89, ?_⟩
    have hpx : zhu (IntKind.i64.wrap (totZ m s x y c)) m.most = pixL m s ((y * Xn + x) * C + c) := by
     have := pixL_at (m := m) (s := s) (x := x) (y := y) (c := c) (by omega) (by omega)
     rw [hCn, ← hXn] at this
     rw [this]; rfl
    rw [hpx]
    refine New.pushS (e := rU) (x := pixL m s ((y * Xn + x) * C + c)) rfl (N7.ext e89) rfl rfl (by rw [List.length_map, List.length_range]; omega) (by rw [List.length_map, List.length_range]; omega) (fun h' e => e89.trans e) fun v' h10 N10 f10 n10 => ?_
    have r410 := f10.row (e89.row r47) nb7
    refine zbl r410 (by simp) N10.sl.one fun h11 r11 u11 => ?_
    rw [w64 (by omega) (by omega)]
    have hb4 : h3.size ≤ b4 := n4
    have hnb : ¬ blk v' b4 := fun hv => by
     rcases n10 b4 hv with h | h
     ·exact nb7 h
     ·have := zaB r47; have := e89.1; omega
    refine Hag3 v' h11 hc' ?_
    rw [hI]
    refine ⟨?_, r11, hnb⟩
    rw [show (y * Xn + x) * C + (c + 1) = (y * Xn + x) * C + c + 1 by omega, List.range_succ, List.map_append]
    exact N10.fr u11.fr (fun b hb => by rw [hb]; exact hb4) fun b hb he => hnb (he ▸ hb)
   ·have : c = C := by omega
    subst this
    rw [w64 (by omega) (by omega)]
    refine Hag2 v h7 hx' ?_
    rw [show (y * Xn + (x + 1)) * c = (y * Xn + x) * c + c by rw [← Nat.add_assoc, Nat.add_mul (y * Xn + x) 1, Nat.one_mul]]
    exact HI7
  ·have : x = Xn := by omega
   subst this
   rw [w64 (by omega) (by omega)]
   refine Hag v h6 hy' ?_
   rw [show (y + 1) * x = y * x + x by rw [Nat.add_mul, Nat.one_mul]]
   exact HI6
 ·have : y = Yn := by omega
  subst this
  rw [hI] at HI
  obtain ⟨N5, r45, nb5⟩ := HI
  rw [zal (l := [.int .i64 (Xn : Int), .int .i64 (y : Int), .int .i64 (C : Int), .int .i64 m.most, v]) r45 5 rfl, zaa]
  have r35 := N5.2.1.row r3
  refine zbt (l := [.int .i64 (Xn : Int), .int .i64 (y : Int), .int .i64 (C : Int), .int .i64 m.most, v]) r35 rfl (zad rfl (zad rfl (zad rfl (zad rfl (zad N5.sl.one zaq))))) rfl fun h6 r6 u6 => ?_
  rw [zal r6 5 rfl, zaa]
  refine ⟨_, rfl, ⟨v, by rw [hpl]; show _ = [Value.int .i64 (Xn : Int), .int .i64 (y : Int), .int .i64 m.c, .int .i64 m.most, v]; rw [hC], ?_⟩, (E3'.trans N5.2.1).upd (Nat.le_trans (e1.trans e2).1 n3) u6⟩
  rw [hpl]
  have hb3 : b3 < h3.size := zaB r3
  refine (N5.sl.fr u6.fr fun c _ hc he => ?_).mono fun c hc hv => ⟨Nat.le_trans E3'.1 (N5.2.2 c hv), hc⟩
  have := N5.2.2 c hc
  omega
end Go.Proofs.YtojmncnelbnceaaGreatDoor
namespace Go.Crisp
open Go
def OwnO (w : Nat) (h : Heap) (v : Value) (n : Nat) (cs : List Value) : Prop :=
 (v = .slice none 0 0 ∧ n = 0 ∧ cs = []) ∨ ∃ b cap p r e, v = .slice (some ⟨b, p.length, none⟩) n cap ∧ n ≤ cap ∧ cs.length = n * w ∧ (cs ++ r).length = cap * w ∧ h[b]? = some (.cells (p ++ (cs ++ r)).toArray e (0, 0))
theorem OwnO.nil {w : Nat} {h : Heap} : OwnO w h (.slice none 0 0) 0 [] := .inl ⟨rfl, rfl, rfl⟩
theorem Own.o {w : Nat} {h : Heap} {v : Value} {n : Nat} {cs : List Value} (H : Own w h v n cs) : OwnO w h v n cs := by
 rcases H with H | ⟨b, cap, r, e, rfl, h1, h2, h3, h4⟩
 ·exact .inl H
 ·exact .inr ⟨b, cap, [], r, e, rfl, h1, h2, h3, h4⟩
theorem OwnO.fr {w : Nat} {M : Nat → Prop} {h h' : Heap} {v : Value} {n : Nat} {cs : List Value} (H : OwnO w h v n cs) (f : Fr M h h') (hm : ∀ b, blk v b → ¬ M b) : OwnO w h' v n cs := by
 rcases H with ⟨rfl, rfl, rfl⟩ | ⟨b, cap, p, r, e, rfl, hc, hl, hr, hb⟩
 ·exact .inl ⟨rfl, rfl, rfl⟩
 ·exact .inr ⟨b, cap, p, r, e, rfl, hc, hl, hr, f.row hb (hm b rfl)⟩
theorem OwnO.ext {w : Nat} {h h' : Heap} {v : Value} {n : Nat} {cs : List Value} (H : OwnO w h v n cs) (f : Ext h h') : OwnO w h' v n cs := H.fr (M := fun _ => False) f.fr fun _ _ => id
theorem OwnO.lt {w : Nat} {h : Heap} {v : Value} {n : Nat} {cs : List Value} (H : OwnO w h v n cs) {b : Nat} (hb : blk v b) : b < h.size := by
 rcases H with ⟨rfl, rfl, rfl⟩ | ⟨b', cap, p, r, e, rfl, hc, hl, hr, h'⟩
 ·cases hb
 ·rw [show b = b' from hb]; exact (Array.getElem?_eq_some_iff.1 h').1
theorem OwnO.sl {w : Nat} {h : Heap} {v : Value} {n : Nat} {cs : List Value} (H : OwnO w h v n cs) : SlC w h v n cs := by
 rcases H with ⟨rfl, rfl, rfl⟩ | ⟨b, cap, p, r, e, rfl, hc, hl, _, hb⟩
 ·exact ⟨by simp, none, 0, rfl, .inl rfl⟩
 ·refine ⟨hl, _, cap, rfl, .inr ⟨b, p.length, rfl, fun j hj => ?_⟩⟩
  rw [zac hb]
  simp only [List.getElem?_toArray]
  rw [List.getElem?_append_right (Nat.le_add_right _ _), Nat.add_sub_cancel_left, List.getElem?_append_left hj]
  simp [hj]
theorem wrL_off (ds p cs r : List Value) (h : ds.length ≤ r.length) : wrL (p ++ (cs ++ r)).toArray (p.length + cs.length) ds = (p ++ (cs ++ ds ++ r.drop ds.length)).toArray := by
 have := zm1 ds (p ++ cs) r h
 rw [List.length_append] at this
 rw [← List.append_assoc, this]
 simp
theorem appK_ownO {z : Value} {e : TypeId} {w bytes n m : Nat} {s x : Value} {h : Heap} {cs ds : List Value} {K : Value → Heap → Prop}
  (hs : OwnO w h s n cs) (hx : SlC w h x m ds) (ho : ∀ v ∈ ds, zam v = true) (hz : z.cells.size = w) (hb : (n + m) * bytes ≤ 140737488355328) (hn : n + m ≤ 9223372036854775807)
  (H : ∀ s' h', OwnO w h' s' (n + m) (cs ++ ds) → Fr (blk s) h h' → (∀ b, blk s' b → blk s b ∨ h.size ≤ b) → K s' h') : appK z e w bytes s x h K := by
 rcases hs with ⟨rfl, rfl, rfl⟩ | ⟨b, cap, p, r, e0, rfl, hc, hl, hr, hbk⟩
 ·exact zmY (.inl ⟨rfl, rfl, rfl⟩) hx ho hz hb hn fun s' h' o => H s' h' o.o
 ·have hsl : SlC w h (.slice (some ⟨b, p.length, none⟩) n cap) n cs := OwnO.sl (.inr ⟨b, cap, p, r, e0, rfl, hc, hl, hr, hbk⟩)
  have hsl := hsl.loads
  have hxl := hx.loads
  obtain ⟨hdl, a', cap', rfl, hx'⟩ := hx
  unfold appK
  simp only [lenN]
  split
  ·rename_i h0
   rw [hxl]
   have hrl : ds.length ≤ r.length := by
    rw [List.length_append] at hr
    rw [hdl]
    have : (n + m) * w ≤ cap * w := Nat.mul_le_mul_right w h0
    rw [Nat.add_mul] at this
    omega
   have hst := zdH (o := p.length + n * w) ds 0 h _ hbk (by simp; omega) ho
   simp only [zep, hst]
   rw [Nat.add_zero, ← hl, wrL_off ds p cs r hrl]
   refine H _ _ (.inr ⟨b, cap, p, r.drop ds.length, e0, rfl, h0, ?_, ?_, zel hbk⟩) (Upd.set.fr) (fun k hk => .inl hk)
   ·simp [hl, hdl, Nat.add_mul]
   ·rw [← hr]; simp; omega
  ·rename_i h0
   rw [hsl, hxl]
   refine ⟨by simp only [IntKind.max]; simp only [IntKind.signed, IntKind.bits]; omega, Nat.le_trans (growslice_fits (by omega) hb) (by decide), fun newCap h1 h2 => ?_⟩
   refine H _ _ (.inr ⟨h.size, newCap, [], (Builtin.zeroCells z.cells (newCap - (n + m))).toList, e, rfl, h1, ?_, ?_, ?_⟩) (Ext.push h _).fr (fun b hb => .inr (by rw [show b = h.size from hb]; exact Nat.le_refl _))
   ·simp [hl, hdl, Nat.add_mul]
   ·simp [hl, hdl, size_zc, hz]; rw [← Nat.add_mul, ← Nat.add_mul]; congr 1; omega
   ·rw [zgK]; simp
theorem OwnO.tail {w : Nat} {h : Heap} {v x : Value} {n : Nat} {cs ds : List Value} (H : OwnO w h v (n + 1) (ds ++ cs)) (hd : ds.length = w) (hn : 0 < n) {k : IntKind} :
  ∃ v', slcV w v (some (.int k 1)) none = some v' ∧ OwnO w h v' n cs ∧ ∀ b, blk v' b → blk v b := by
 rcases H with ⟨_, h0, _⟩ | ⟨b, cap, p, r, e, rfl, hc, hl, hr, hb⟩
 ·cases h0
 ·have hne : ¬ cap = 1 := by omega
  refine ⟨.slice (some ⟨b, p.length + w, none⟩) n (cap - 1), ?_, .inr ⟨b, cap - 1, p ++ ds, r, e, by rw [List.length_append, hd], by omega, ?_, ?_, ?_⟩, fun c hc => hc⟩
  ·have e0 : bdV (some (Value.int k 1)) 0 (n + 1) = some 1 := zlK k 1 0 (n + 1) (by omega)
   simp only [slcV, bdV, e0, if_neg hne, Option.map_some, zep, Nat.one_mul, Nat.add_sub_cancel]
   rw [if_pos (by omega)]
   simp [hne]
  ·rw [List.length_append, hd, Nat.add_mul, Nat.one_mul] at hl; omega
  ·simp only [List.length_append] at hr ⊢
   rw [hd] at hr
   have : cap * w = (cap - 1) * w + w := by rw [← Nat.succ_mul]; congr 1; omega
   omega
  ·rw [hb]; simp
def OwO (k : IntKind) (h : Heap) (v : Value) (l : List Int) : Prop := OwnO 1 h v l.length (l.map fun x => Value.int k x)
theorem OwO.nil {k : IntKind} {h : Heap} : OwO k h (.slice none 0 0) [] := OwnO.nil
theorem OwO.sl {k : IntKind} {h : Heap} {v : Value} {l : List Int} (H : OwO k h v l) : Rp.Sl (Rp.int k) (blk v) h v l := by
 have s := OwnO.sl H
 refine ⟨_, s, fun _ b hb => hb, fun i hi => ?_⟩
 show Rp.el 1 (l.map fun x => Value.int k x) i = [Value.int k l[i]]
 rw [Rp.el_one (by simpa using hi)]
 simp
theorem OwO.push {k : IntKind} {z z' : Value} {t t' : TypeId} {bytes : Nat} {s : Value} {h : Heap} {l : List Int} {x : Int} {K : Value → Heap → Prop} (hs : OwO k h s l) (hz : z.cells.size = 1)
  (hb : (l.length + 1) * bytes ≤ 140737488355328) (hn : l.length + 1 ≤ 9223372036854775807)
  (H : ∀ s' h', OwO k h' s' (l ++ [x]) → Fr (blk s) h h' → (∀ b, blk s' b → blk s b ∨ h.size ≤ b) → K s' h') : rowK #[z'] t 1 [(0, 1, .int k x)] h fun v2 h3 => appK z t' 1 bytes s v2 h3 K := by
 refine zbZ (Rp.fill_one rfl) fun b h1 r1 e1 n1 => ?_
 refine appK_ownO (OwnO.ext hs e1) (Rp.SlC.single (cs := [.int k x]) r1) (zad (a := Value.int k x) rfl zaq) hz hb hn fun s' h' o' f' n' => H s' h' ?_ (e1.fr.trans f') fun c hc => (n' c hc).imp id fun h2 => Nat.le_trans e1.1 h2
 unfold OwO
 rw [List.length_append, List.map_append]
 exact o'
theorem OwO.tail {k k' : IntKind} {h : Heap} {v : Value} {x : Int} {l : List Int} (H : OwO k h v (x :: l)) (hn : 0 < l.length) :
  ∃ v', slcV 1 v (some (.int k' 1)) none = some v' ∧ OwO k h v' l ∧ ∀ b, blk v' b → blk v b :=
 OwnO.tail (x := v) (ds := [.int k x]) H rfl hn
end Go.Crisp
namespace Go.Proofs.YtojmncnelbnceaaGreatDoor
open Go Go.Crisp
attribute [local irreducible] FCall rowK newK stK iteK vK qK drawK gK joinK loopK mkK appK cpyK zqt znp bsK clK zgP zga newmK
open _root_.Go.Proofs.Tryz
def rowsM (e E : Int) : List (Int × Int) := (List.range (E - e).toNat).map fun i : Nat => ((1 : Int), e + (i : Int))
def zeI (d : JobD) : Nat → Int → Int → List (Int × Int)
 | 0, _, _ => []
 | k + 1, y, e => rowsM e (lnE d.s.y y) ++ (2, y) :: zeI d k (y + 1) (max (lnE d.s.y y) (lnF d.s.y (y + 1)))
def zcw (d : JobD) (y e : Int) : List (Int × Int) := zeI d (d.t.y + d.t.h - y).toNat y e
theorem zo1 {e E : Int} (h : E ≤ e) : rowsM e E = [] := by
 unfold rowsM; rw [show (E - e).toNat = 0 by omega]; rfl
theorem rowsM_cons {e E : Int} (h : e < E) : rowsM e E = (1, e) :: rowsM (e + 1) E := by
 unfold rowsM
 rw [show (E - e).toNat = (E - (e + 1)).toNat + 1 by omega, List.range_succ_eq_map, List.map_cons, List.map_map]
 congr 1
 ·simp
 ·apply List.map_congr_left
  intro i _
  show ((1 : Int), e + ((i + 1 : Nat) : Int)) = (1, e + 1 + (i : Int))
  congr 1
  omega
theorem rowsM_snoc {e E : Int} (h : e ≤ E) : rowsM e (E + 1) = rowsM e E ++ [(1, E)] := by
 unfold rowsM
 rw [show (E + 1 - e).toNat = (E - e).toNat + 1 by omega, List.range_succ, List.map_append]
 congr 1
 show [((1 : Int), e + ((E - e).toNat : Int))] = [(1, E)]
 rw [show e + ((E - e).toNat : Int) = E by omega]
theorem znj {e E : Int} : (rowsM e E).length = (E - e).toNat := by unfold rowsM; rw [List.length_map, List.length_range]
theorem zlx (d : JobD) : ∀ (k : Nat) (y e : Int), (zeI d k y e).length = leftN d k y e
 | 0, _, _ => rfl
 | k + 1, y, e => by
  unfold zeI leftN
  rw [List.length_append, List.length_cons, znj, zlx d k]
  omega
theorem znI (d : JobD) (y e : Int) : (zcw d y e).length = leftZ d y e := zlx d _ y e
theorem moves_over {d : JobD} {y e : Int} (h : d.t.y + d.t.h ≤ y) : zcw d y e = [] := by
 unfold zcw
 rw [show (d.t.y + d.t.h - y).toNat = 0 by omega]; rfl
theorem zpa {d : JobD} {y e : Int} (h : y < d.t.y + d.t.h) : zcw d y e = rowsM e (lnE d.s.y y) ++ (2, y) :: zcw d (y + 1) (max (lnE d.s.y y) (lnF d.s.y (y + 1))) := by
 unfold zcw
 rw [show (d.t.y + d.t.h - y).toNat = (d.t.y + d.t.h - (y + 1)).toNat + 1 by omega]; rfl
theorem moves_step {d : JobD} {y e : Int} (hk : stepK d y e ≠ 0) (he : e ≤ lnE d.s.y y) : zcw d y e = (stepK d y e, stepJ d y e) :: zcw d (stepY d y e) (stepE d y e) := by
 have hno : ¬ d.t.y + d.t.h ≤ y := fun h => hk (by unfold stepK; rw [if_pos h])
 have hl := zpa (e := e) (show y < d.t.y + d.t.h by omega)
 by_cases h1 : e < lnE d.s.y y
 ·have k1 : stepK d y e = 1 := by unfold stepK; rw [if_neg hno, if_pos h1]
  have j1 : stepJ d y e = e := by unfold stepJ; rw [if_neg hno, if_pos h1]
  have hy : stepY d y e = y := by unfold stepY; rw [if_neg (by omega)]
  have hE : stepE d y e = e + 1 := by unfold stepE; rw [if_pos k1]
  rw [hy, hE, k1, j1, hl, zpa (e := e + 1) (by omega), rowsM_cons h1]
  rfl
 ·have k2 : stepK d y e = 2 := by unfold stepK; rw [if_neg hno, if_neg h1]
  have j2 : stepJ d y e = y := by unfold stepJ; rw [if_neg hno, if_neg h1]
  have hy : stepY d y e = y + 1 := by unfold stepY; rw [if_pos k2]
  have hE : stepE d y e = max e (lnF d.s.y (y + 1)) := by unfold stepE; rw [if_neg (by omega), if_pos k2]
  have hee : e = lnE d.s.y y := by omega
  rw [hy, hE, k2, j2, hl, zo1 (by omega), hee]
  rfl
theorem left_stepN {d : JobD} {y e : Int} (hk : stepK d y e = 0) : zcw d y e = [] := by
 refine moves_over ?_
 unfold stepK at hk
 by_cases h : d.t.y + d.t.h ≤ y
 ·exact h
 ·rw [if_neg h] at hk; split at hk <;> cases hk
def rMove : Rp (Int × Int) where
 w := 2
 R := fun _ _ cs x => cs = [.int .i64 x.1, .int .i64 x.2]
 len := by rintro _ _ _ _ rfl; rfl
 one := by rintro _ _ _ _ rfl; exact zad rfl (zad rfl zaq)
 fr := by rintro _ _ _ _ _ _ h _ _; exact h
 mono := by rintro _ _ _ _ _ h _; exact h
theorem New.push2 {z : Value} {c : Array Value} {t t' : TypeId} {bytes : Nat} {h h1 : Heap} {v : Value} {l : List (Int × Int)} {a b : Int} {K : Value → Heap → Prop} (H : New rMove h h1 v l) (hc : c.size = 2) (hz : z.cells.size = 2) (hb : (l.length + 1) * bytes ≤ 140737488355328) (hn : l.length + 1 ≤ 9223372036854775807)
  (HK : ∀ s' h', New rMove h h' s' (l ++ [(a, b)]) → Fr (blk v) h1 h' → (∀ b, blk s' b → blk v b ∨ h1.size ≤ b) → K s' h') : rowK c t 1 [(0, 2, .agg #[.int .i64 a, .int .i64 b])] h1 fun v2 h3 => appK z t' 2 bytes v v2 h3 K := by
 refine Rp.push_ow (e := rMove) (cs := [.int .i64 a, .int .i64 b]) (x := (a, b)) H.1 rfl hc hz hb hn (fun b hb => hb.elim) fun s' h' o' f' n' => HK s' h' ⟨o', H.2.1.then_fr f' H.2.2, fun b hb => ?_⟩ f' n'
 rcases n' b hb with h1 | h1
 ·exact H.2.2 b h1
 ·exact Nat.le_trans H.2.1.1 h1
theorem c_r17in {h : Heap} {Z : Nat → Prop} {v : Value} {l : List Int} {j : Int} (H : Rp.Sl (Rp.int .i64) Z h v l) (hl : l.length ≤ 4611686018427387904) : FCall prog zlN #[v, .int .i64 j] h fun r h' => r = .bool (decide (j ∈ l)) ∧ h' = h := by
 apply ok_ref17_in
 unfold zm7
 obtain ⟨a, c, e⟩ := H.isSl
 have e2 : zaf v = some (.int .i64 (l.length : Int)) := by rw [e]; rfl
 rw [e2, zaa]
 refine zaz (α := Unit) l.length 0 (fun k _ => [.int .i64 (k : Int)]) (fun k _ h' => h' = h ∧ ∀ x ∈ l.take k, x ≠ j) () rfl (Nat.zero_le _) ⟨rfl, by simp⟩ fun k _ h1 again ρ1 _ hk ⟨w, hI⟩ Hag => ?_
 subst w
 simp only [go_sem]
 refine zab (fun h0 => ?_) (fun h0 => ?_)
 ·have hk' : k < l.length := by omega
  obtain ⟨p, q1, q2⟩ := H.int_at (k' := .i64) hk'
  simp only [go_sem, q1, q2]
  refine zab (fun h3 => ?_) (fun h3 => ?_)
  ·refine ⟨?_, trivial⟩
   rw [decide_eq_true]
   rw [← h3]; exact List.getElem_mem hk'
  ·rw [w64 (by omega) (by omega)]
   refine Hag () h1 hk' ⟨rfl, fun x hx => ?_⟩
   rw [List.take_succ_eq_append_getElem hk'] at hx
   rcases List.mem_append.1 hx with hx | hx
   ·exact hI x hx
   ·rw [List.mem_singleton.1 hx]; exact h3
 ·have : k = l.length := by omega
  subst this
  refine ⟨?_, trivial⟩
  rw [decide_eq_false]
  intro hm
  rw [List.take_length] at hI
  exact hI j hm rfl
structure HeldL (l : List Int) (F e : Int) (most : Nat) : Prop where
 up : l.Pairwise (· < ·)
 inn : ∀ j, F ≤ j → j < e → j ∈ l
 lt : ∀ x ∈ l, x < e
 len : l.length ≤ most
theorem HeldL.start (F : Int) (most : Nat) : HeldL [] F F most := ⟨List.Pairwise.nil, fun j a b => by omega, by simp, by simp⟩
theorem HeldL.move {l : List Int} {F e F' : Int} {most : Nat} (H : HeldL l F e most) (hF : F ≤ F') : HeldL l F' (max e F') most :=
 ⟨H.up, fun j a b => H.inn j (by omega) (by omega), fun x hx => by have := H.lt x hx; omega, H.len⟩
theorem HeldL.nodup {l : List Int} (h : l.Pairwise (· < ·)) : l.Nodup := h.imp fun a => by omega
theorem HeldL.push {l : List Int} {F e : Int} {most : Nat} (H : HeldL l F e most) : (l ++ [e]).Pairwise (· < ·) ∧ (∀ j, F ≤ j → j < e + 1 → j ∈ l ++ [e]) ∧ (∀ x ∈ l ++ [e], x < e + 1) := by
 refine ⟨?_, fun j a b => ?_, fun x hx => ?_⟩
 ·rw [List.pairwise_append]
  exact ⟨H.up, by simp, fun a ha b hb => by rw [List.mem_singleton.1 hb]; exact H.lt a ha⟩
 ·by_cases hj : j < e
  ·exact List.mem_append_left _ (H.inn j a hj)
  ·rw [show j = e by omega]; simp
 ·rcases List.mem_append.1 hx with h | h
  ·have := H.lt x h; omega
  ·rw [List.mem_singleton.1 h]; omega
theorem HeldL.next {l : List Int} {F e E : Int} {most : Nat} (H : HeldL l F e most) (he : F ≤ e) (hE : e < E) (hm : E - F ≤ most) : (l.length + 1 ≤ most ∧ HeldL (l ++ [e]) F (e + 1) most) ∨ (∃ x t, l ++ [e] = x :: t ∧ most < l.length + 1 ∧ 0 < t.length ∧ HeldL t F (e + 1) most) := by
 obtain ⟨p1, p2, p3⟩ := H.push
 by_cases h1 : l.length + 1 ≤ most
 ·exact .inl ⟨h1, p1, p2, p3, by simpa using h1⟩
 ·cases l with
  | nil => simp at h1; omega
  | cons x l =>
   have hl := H.len
   refine .inr ⟨x, l ++ [e], rfl, by omega, by simp, ?_⟩
   have hx : x < F := by
    rcases Int.lt_or_le x F with h | h
    ·exact h
    ·have hall : ∀ z ∈ x :: l, F ≤ z ∧ z < e := fun z hz => by
      refine ⟨?_, H.lt z hz⟩
      rcases List.mem_cons.1 hz with rfl | hz
      ·exact h
      ·have := (List.pairwise_cons.1 H.up).1 z hz; omega
     have := nodup_range (HeldL.nodup H.up) hall
     omega
   have p1' : (x :: (l ++ [e])).Pairwise (· < ·) := p1
   refine ⟨(List.pairwise_cons.1 p1').2, fun j a b => ?_, fun z hz => p3 z (List.mem_cons_of_mem _ hz), by simp at hl ⊢; omega⟩
   have := p2 j a b
   rcases List.mem_cons.1 (show j ∈ x :: (l ++ [e]) from this) with h | h
   ·omega
   ·exact h
theorem c_r17Steps {h : Heap} {Z : Nat → Prop} {ds : List Value} {s : Stg} {m : Pic} {t : TileD} (K : rStg.R Z h ds s) (OK : StgOk s) (hy : 0 ≤ t.y) (hh : 1 ≤ t.h) (hyh : t.y + t.h ≤ s.y.lines.length) :
  FCall prog zgY #[.agg ds.toArray, .int .i64 t.y, .int .i64 t.h] h fun r h' => New rMove h h' r (zcw ⟨m, s, t⟩ t.y (lnF s.y t.y)) := by
 apply zom
 unfold ziW
 obtain ⟨X, Y, rfl, HX, HY⟩ := K
 have WS := OK.wf
 have hYl := WS.y.len
 simp only [zax]
 refine zag fun b1 h1 r1 e1 n1 => ?_
 have k1 : zah h1 ⟨b1, 1, none⟩ = some Y := zac r1
 obtain ⟨aY, cY, eY⟩ := HY.isSl
 have eY2 : zaf Y = some (.int .i64 (s.y.lines.length : Int)) := by rw [eY]; rfl
 simp only [go_sem, Nat.zero_add, k1, eY2]
 -- a line, read into a variable
 have rd : ∀ {h2 : Heap} {i : Nat} (hi : i < s.y.lines.length), Ext h h2 → ∀ {Kp : Value → Heap → Prop}, (∀ b h3 u, h3[b]? = some (.cells #[.int .i64 (lineT s.y i).1, u] 114 (0, 0)) → Ext h2 h3 → h2.size ≤ b → zaf u = some (.int .i64 ((lineT s.y i).2.length : Int)) → Kp (ptr b) h3) →
   vK (idxV 2 Y (.int .i64 (i : Int))) fun v11 => vK (ldsV 2 h2 v11) fun v12 => newK #[(.int .i64 0), (.slice none 0 0)] 114 h2 fun v13 h14 => stK 2 v13 v12 h14 fun v15 h16 => Kp v13 h16 := by
  intro h2 i hi E Kp HK
  obtain ⟨p, cs, q1, q2, Rr⟩ := Rp.Sl.atw (e := rLine) (HY.ext E) (show 0 < 2 by omega) (k := .i64) hi
  rw [zmO hi] at Rr
  obtain ⟨u, rfl, Su⟩ := Rr
  have q1 : idxV 2 Y (.int .i64 (i : Int)) = some p := q1
  have q2 : ldsV 2 h2 p = some (.agg #[.int .i64 (lineT s.y i).1, u]) := q2
  rw [q1, zaa, q2, zaa]
  obtain ⟨au, cu, eu⟩ := Su.isSl
  exact zaR (cs := [.int .i64 (lineT s.y i).1, u]) rfl (zad rfl (zad Su.one zaq)) rfl fun b h3 r3 e3 n3 => HK b h3 u r3 e3 n3 (by rw [eu]; rfl)
 -- the most taps of a line
 have mstep : ∀ k, k < s.y.lines.length → mostL (s.y.lines.take (k + 1)) = max (mostL (s.y.lines.take k)) ((lineT s.y k).2.length : Int) := fun k hk => by
  rw [List.take_succ_eq_append_getElem hk, zpb, zmO hk]
 have hmost := OK.most
 have hm0 := most_nn s.y.lines
 have mle : ∀ k, 0 ≤ mostL (s.y.lines.take k) ∧ mostL (s.y.lines.take k) ≤ mostL s.y.lines := fun k => ⟨most_nn _, zgx hm0 fun x hx => (znJ s.y.lines 0).2 x (List.mem_of_mem_take hx)⟩
 refine zaz (α := Unit) s.y.lines.length 0 (fun k _ => [.int .i64 (mostL (s.y.lines.take k)), .int .i64 (k : Int)]) (fun k _ h' => Ext h1 h') () rfl (Nat.zero_le _) (Ext.refl _) fun k _ h2 again ρ1 _ hk E2 Hag => ?_
 have E02 := e1.trans E2
 simp only [go_sem]
 refine zab (fun g1 => ?_) (fun g1 => ?_)
 ·have hk' : k < s.y.lines.length := by omega
  refine rd hk' E02 fun b3 h3 u r3 e3 n3 eu2 => ?_
  have c1 : zah h3 ⟨b3, 1, none⟩ = some u := zac r3
  have hms := mstep k hk'
  simp only [go_sem, Nat.zero_add, c1, eu2]
  refine zab (fun g2 => ?_) (fun g2 => ?_)
  ·try simp only [go_sem, Nat.zero_add, c1, eu2]
   rw [w64 (by omega) (by omega)]
   have := Hag () h3 hk' (E2.trans e3)
   rw [hms, show max (mostL (s.y.lines.take k)) ((lineT s.y k).2.length : Int) = ((lineT s.y k).2.length : Int) by omega] at this
   exact this
  ·rw [w64 (by omega) (by omega)]
   have := Hag () h3 hk' (E2.trans e3)
   rw [hms, show max (mostL (s.y.lines.take k)) ((lineT s.y k).2.length : Int) = mostL (s.y.lines.take k) by omega] at this
   exact this
 have hkY : k = s.y.lines.length := by omega
 subst hkY
 rw [List.take_length]
 clear Hag
 obtain ⟨most, hmN⟩ : ∃ n : Nat, mostL s.y.lines = (n : Int) := ⟨(mostL s.y.lines).toNat, by omega⟩
 rw [hmN]
 obtain ⟨d, hd⟩ : ∃ d : JobD, d = ⟨m, s, t⟩ := ⟨_, rfl⟩
 have hds : d.s = s := by rw [hd]
 rw [← hd]
 obtain ⟨H, hH⟩ : ∃ H : Nat, t.h = (H : Int) := ⟨t.h.toNat, by omega⟩
 obtain ⟨y0, hy0⟩ : ∃ y0 : Nat, t.y = (y0 : Int) := ⟨t.y.toNat, by omega⟩
 have hmv : zcw d t.y (lnF s.y t.y) = zeI d H y0 (lnF s.y y0) := by
  unfold zcw
  have : d.t = t := by rw [hd]
  rw [this, hy0, show ((y0 : Int) + t.h - (y0 : Int)).toNat = H by omega]
 rw [hmv, hH, hy0]
 have hlenb : ∀ k y e, lnF s.y y ≤ e → (zeI d k y e).length ≤ k * 1048577 := fun k y e he => by
  rw [zlx]
  exact zmP (by rw [hds]; exact WS.y) k y e (by rw [hds]; exact he)
 have htl := hlenb H y0 (lnF s.y y0) (Int.le_refl _)
 have hmo := OK.mono
 -- line by line
 refine zaz (α := Value × Value × List (Int × Int) × List Int × Int) H 0 (fun k a => [a.1, a.2.1, .int .i64 (k : Int)])
  (fun k a h' => New rMove h h' a.1 a.2.2.1 ∧ OwO .i64 h' a.2.1 a.2.2.2.1 ∧ (∀ b, blk a.2.1 b → h2.size ≤ b) ∧ (∀ b, blk a.1 b → h2.size ≤ b ∧ ¬ blk a.2.1 b) ∧ Ext h2 h' ∧ (k < H → HeldL a.2.2.2.1 (lnF s.y (y0 + k : Nat)) a.2.2.2.2 most ∧ lnF s.y (y0 + k : Nat) ≤ a.2.2.2.2 ∧ a.2.2.2.2 ≤ lnE s.y (y0 + k : Nat)) ∧
   a.2.2.1 ++ zeI d (H - k) ((y0 + k : Nat) : Int) a.2.2.2.2 = zeI d H y0 (lnF s.y y0))
  (.slice none 0 0, .slice none 0 0, [], [], lnF s.y y0) rfl (Nat.zero_le _)
  ⟨New.nil E02, OwO.nil, fun b hb => hb.elim, fun b hb => hb.elim, Ext.refl _, fun _ => ⟨HeldL.start _ _, Int.le_refl _, by unfold lnE lnF; show (lineT s.y ((y0 + 0 : Nat) : Int)).1 ≤ _; omega⟩, rfl⟩ fun k a h3 again ρ2 _ hk ⟨N3, O3, b3, a3, E3, H3, M3⟩ Hag => ?_
 obtain ⟨ov, hv, out, held, e⟩ := a
 have N3 : New rMove h h3 ov out := N3
 have O3 : OwO .i64 h3 hv held := O3
 have b3 : ∀ b, blk hv b → h2.size ≤ b := b3
 have a3 : ∀ b, blk ov b → h2.size ≤ b ∧ ¬ blk hv b := a3
 have H3 : k < H → HeldL held (lnF s.y (y0 + k : Nat)) e most ∧ lnF s.y (y0 + k : Nat) ≤ e ∧ e ≤ lnE s.y (y0 + k : Nat) := H3
 have M3 : out ++ zeI d (H - k) ((y0 + k : Nat) : Int) e = zeI d H y0 (lnF s.y y0) := M3
 simp only [go_sem]
 refine zab (fun g1 => ?_) (fun g1 => ?_)
 ·have hk' : k < H := by omega
  obtain ⟨HL, hFe, heE⟩ := H3 hk'
  have k1 : zah h3 ⟨b1, 1, none⟩ = some Y := zac (E3.row (E2.row r1))
  simp only [go_sem, Nat.zero_add, k1]
  rw [w64 (n := (y0 : Int) + (k : Int)) (by omega) (by omega), show (y0 : Int) + (k : Int) = ((y0 + k : Nat) : Int) by omega]
  refine rd (by omega) (E02.trans E3) fun b4 h4 u r4 e4 n4 eu2 => ?_
  have c1 : zah h4 ⟨b4, 1, none⟩ = some u := zac r4
  simp only [go_sem, Nat.zero_add, c1, eu2]
  have hl := zdK WS.y ((y0 + k : Nat) : Int)
  have hlm := hmo.m ((y0 + k : Nat) : Int)
  have hmn1 : k + 1 < H → lnF s.y ((y0 + k : Nat) : Int) ≤ lnF s.y ((y0 + (k + 1) : Nat) : Int) ∧ lnE s.y ((y0 + k : Nat) : Int) ≤ lnE s.y ((y0 + (k + 1) : Nat) : Int) := fun h => ⟨hmo.f _ _ (by omega) (by omega) (by omega), hmo.e _ _ (by omega) (by omega) (by omega)⟩
  have hsp : zeI d (H - k) ((y0 + k : Nat) : Int) e = rowsM e (lnE s.y ((y0 + k : Nat) : Int)) ++ (2, ((y0 + k : Nat) : Int)) :: zeI d (H - (k + 1)) ((y0 + (k + 1) : Nat) : Int) (max (lnE s.y ((y0 + k : Nat) : Int)) (lnF s.y ((y0 + (k + 1) : Nat) : Int))) := by
   rw [show H - k = (H - (k + 1)) + 1 by omega]
   rw [zeI, hds, show ((y0 + k : Nat) : Int) + 1 = ((y0 + (k + 1) : Nat) : Int) by omega]
  rw [hsp] at M3
  have htl2 : (zeI d H y0 (lnF s.y y0)).length ≤ 68719542272 := by omega
  generalize hyk : ((y0 + k : Nat) : Int) = yk at *
  have hE' : lnE s.y yk = lnF s.y yk + ((lineT s.y yk).2.length : Int) := rfl
  have hFd : (lineT s.y yk).1 = lnF s.y yk := rfl
  have hFb : -70368744177664 ≤ lnF s.y yk ∧ lnF s.y yk ≤ 70368744177664 := hl.2
  obtain ⟨L, hL⟩ : ∃ L : Nat, (lineT s.y yk).2.length = L := ⟨_, rfl⟩
  rw [hL] at hE' eu2 hlm hl
  rw [hL]
  have r4' : h4[b4]? = some (.cells #[.int .i64 (lnF s.y yk), u] 114 (0, 0)) := r4
  generalize lnF s.y yk = F at *
  -- the rows that the line lacks
  refine zaz (α := Value × Value × List Int × Int) L 0 (fun i a => [a.1, a.2.1, .int .i64 (i : Int)])
   (fun i a h' => New rMove h h' a.1 (out ++ rowsM e a.2.2.2) ∧ OwO .i64 h' a.2.1 a.2.2.1 ∧ (∀ b, blk a.2.1 b → h2.size ≤ b ∧ b ≠ b4) ∧ (∀ b, blk a.1 b → h2.size ≤ b ∧ b ≠ b4 ∧ ¬ blk a.2.1 b) ∧ Ext h2 h' ∧ h'[b4]? = some (.cells #[.int .i64 F, u] 114 (0, 0)) ∧ b4 < h'.size ∧ HeldL a.2.2.1 F a.2.2.2 most ∧ a.2.2.2 = max e (F + i))
   (ov, hv, held, e) rfl (Nat.zero_le _)
   ⟨by show New rMove h h4 ov (out ++ rowsM e e); rw [zo1 (Int.le_refl _), List.append_nil]; exact N3.ext e4, OwnO.ext O3 e4, fun b hb => ⟨b3 b hb, fun he => by have := OwnO.lt O3 hb; omega⟩, fun b hb => ⟨(a3 b hb).1, fun he => by have := N3.lt hb; omega, (a3 b hb).2⟩, E3.trans e4, r4', zaB r4, HL, by show e = max e (F + ((0 : Nat) : Int)); omega⟩
   fun i a h5 again2 ρ3 _ hi ⟨N5, O5, b5, a5, E5, r5, l5, H5, m5⟩ Hag2 => ?_
  obtain ⟨ov5, hv5, held5, e5⟩ := a
  have N5 : New rMove h h5 ov5 (out ++ rowsM e e5) := N5
  have O5 : OwO .i64 h5 hv5 held5 := O5
  have b5 : ∀ b, blk hv5 b → h2.size ≤ b ∧ b ≠ b4 := b5
  have a5 : ∀ b, blk ov5 b → h2.size ≤ b ∧ b ≠ b4 ∧ ¬ blk hv5 b := a5
  have H5 : HeldL held5 F e5 most := H5
  have m5 : e5 = max e (F + i) := m5
  have hlen5 : (out ++ rowsM e e5).length + 1 ≤ 68719542273 := by
   have := congrArg List.length M3
   rw [List.length_append, List.length_append, znj] at this
   rw [List.length_append, znj]
   omega
  simp only [go_sem]
  refine zab (fun g2 => ?_) (fun g2 => ?_)
  ·have hi' : i < L := by omega
   have c0 : zah h5 ⟨b4, 0, none⟩ = some (.int .i64 F) := zac r5
   simp only [go_sem, Nat.zero_add, c0]
   rw [w64 (n := F + (i : Int)) (by omega) (by omega)]
   refine FCall.at (c_r17in O5.sl (by have := H5.len; omega)) ?_
   refine zab (fun g3 => ?_) (fun g3 => ?_)
   ·have := H5.lt _ g3
    rw [w64 (by omega) (by omega)]
    refine Hag2 (ov5, hv5, held5, e5) h5 hi' ⟨N5, O5, b5, a5, E5, r5, l5, H5, ?_⟩
    show e5 = max e (F + ((i + 1 : Nat) : Int))
    omega
   ·have he5 : e5 = F + i := by
     rcases Int.lt_or_le (F + (i : Int)) e5 with h | h
     ·exact absurd (H5.inn _ (by omega) h) g3
     ·omega
    rw [← he5]
    rw [show fillL #[(.int .i64 0), (.int .i64 0)] [(0, 1, (.int .i64 1)), (1, 1, .int .i64 e5)] = some #[.int .i64 1, .int .i64 e5] from zk2 rfl rfl, zaA, zaa]
    have hEE : e5 < lnE s.y yk := by omega
    refine New.push2 (a := 1) (b := e5) N5 rfl rfl (by omega) (by omega) fun ov6 h6 N6 f6 n6 => ?_
    have O6 : OwO .i64 h6 hv5 held5 := OwnO.fr O5 f6 fun b hb hv => (a5 b hv).2.2 hb
    have r6 := f6.row r5 fun hv => (a5 _ hv).2.1 rfl
    have sz6 := f6.1
    have v6 : ∀ b, blk ov6 b → h2.size ≤ b ∧ b ≠ b4 ∧ ¬ blk hv5 b := fun b hb => by
     rcases n6 b hb with h | h
     ·exact a5 b h
     ·have hs := E5.1
      exact ⟨by omega, by omega, fun hv => by have := OwnO.lt O5 hv; omega⟩
    have E6 : Ext h2 h6 := E5.then_fr f6 fun b hb => (a5 b hb).1
    refine OwO.push (x := e5) O6 rfl (by have := H5.len; omega) (by have := H5.len; omega) fun hv7 h7 O7 f7 n7 => ?_
    have N7 : New rMove h h7 ov6 (out ++ rowsM e (e5 + 1)) := by
     rw [rowsM_snoc (by omega), ← List.append_assoc]
     exact N6.fr f7 (fun b hb => Nat.le_trans E02.1 (b5 b hb).1) fun b hb hv => (v6 b hb).2.2 hv
    have r7 := f7.row r6 fun hv => (b5 _ hv).2 rfl
    have E7 : Ext h2 h7 := E6.then_fr f7 fun b hb => (b5 b hb).1
    have l7 := zaB r7
    have b7 : ∀ b, blk hv7 b → h2.size ≤ b ∧ b ≠ b4 := fun b hb => by
     rcases n7 b hb with h | h
     ·exact b5 b h
     ·have hs := E6.1; have := zaB r6
      exact ⟨by omega, by omega⟩
    have v7 : ∀ b, blk ov6 b → h2.size ≤ b ∧ b ≠ b4 ∧ ¬ blk hv7 b := fun b hb => by
     refine ⟨(v6 b hb).1, (v6 b hb).2.1, fun hv => ?_⟩
     rcases n7 b hv with h | h
     ·exact (v6 b hb).2.2 h
     ·have := N6.lt hb; omega
    obtain ⟨a7, c7, e7⟩ := O7.sl.isSl
    have ln7 : zaf hv7 = some (.int .i64 ((held5.length + 1 : Nat) : Int)) := by rw [e7, List.length_append]; rfl
    simp only [go_sem, ln7]
    rcases H5.next (E := lnE s.y yk) (by omega) (by omega) (by omega) with ⟨q1, q2⟩ | ⟨x, tl, q1, q2, q3, q4⟩
    ·rw [decide_eq_false (by omega)]
     simp only [go_sem]
     rw [w64 (by omega) (by omega)]
     refine Hag2 (ov6, hv7, held5 ++ [e5], e5 + 1) h7 hi' ⟨N7, O7, b7, v7, E7, r7, l7, q2, ?_⟩
     show e5 + 1 = max e (F + ((i + 1 : Nat) : Int))
     omega
    ·rw [decide_eq_true (by omega)]
     simp only [go_sem]
     rw [q1] at O7
     obtain ⟨hv8, s8, O8, n8⟩ := O7.tail (k' := .i64) q3
     rw [s8, zaa, w64 (by omega) (by omega)]
     refine Hag2 (ov6, hv8, tl, e5 + 1) h7 hi' ⟨N7, O8, fun b hb => b7 b (n8 b hb), fun b hb => ⟨(v7 b hb).1, (v7 b hb).2.1, fun hv => (v7 b hb).2.2 (n8 b hv)⟩, E7, r7, l7, q4, ?_⟩
     show e5 + 1 = max e (F + ((i + 1 : Nat) : Int))
     omega
  ·have hiL : i = L := by omega
   subst hiL
   have hee : e5 = lnE s.y yk := by omega
   rw [show fillL #[(.int .i64 0), (.int .i64 0)] [(0, 1, (.int .i64 2)), (1, 1, .int .i64 yk)] = some #[.int .i64 2, .int .i64 yk] from zk2 rfl rfl, zaA, zaa]
   refine New.push2 (a := 2) (b := yk) N5 rfl rfl (by omega) (by omega) fun ov6 h6 N6 f6 n6 => ?_
   try simp only [go_sem]
   rw [w64 (by omega) (by omega)]
   have E6 : Ext h2 h6 := E5.then_fr f6 fun b hb => (a5 b hb).1
   refine Hag (ov6, hv5, out ++ rowsM e e5 ++ [(2, yk)], held5, max e5 (lnF s.y ((y0 + (k + 1) : Nat) : Int))) h6 hk' ⟨N6, OwnO.fr O5 f6 fun b hb hv => (a5 b hv).2.2 hb, fun b hb => (b5 b hb).1, fun b hb => ?_, E6, fun hk2 => ?_, ?_⟩
   ·rcases n6 b hb with h | h
    ·exact ⟨(a5 b h).1, (a5 b h).2.2⟩
    ·have hs := E5.1
     exact ⟨by omega, fun hv => by have := OwnO.lt O5 hv; omega⟩
   ·obtain ⟨g5, g6⟩ := hmn1 hk2
    refine ⟨H5.move g5, by show _ ≤ max e5 _; omega, ?_⟩
    show max e5 _ ≤ _
    have : lnF s.y ((y0 + (k + 1) : Nat) : Int) ≤ lnE s.y ((y0 + (k + 1) : Nat) : Int) := by unfold lnE lnF; omega
    omega
   ·show (out ++ rowsM e e5 ++ [(2, yk)]) ++ zeI d (H - (k + 1)) ((y0 + (k + 1) : Nat) : Int) (max e5 (lnF s.y ((y0 + (k + 1) : Nat) : Int))) = _
    rw [hee]
    rw [← M3]
    simp
 ·have hkH : k = H := by omega
  subst hkH
  rw [Nat.sub_self] at M3
  have M3 : out ++ [] = zeI d k y0 (lnF s.y y0) := M3
  rw [List.append_nil] at M3
  rw [← M3]
  exact N3
theorem zqw (a b c d : Int) : binV (.st [(0, 1, .i), (1, 1, .i)]) .eql (moveV a b) (moveV c d) = some (.bool (decide (a = c ∧ b = d))) := by
 have e1 : (a == c) = decide (a = c) := rfl
 have e2 : (b == d) = decide (b = d) := rfl
 simp only [binV, eqV, seEqL, seEq, seAgg, cond_false, List.getElem?_toArray, List.getElem?_cons_zero, List.getElem?_cons_succ, if_true, e1, e2]
 by_cases h : a = c <;> by_cases h2 : b = d <;> simp [h, h2]
theorem move_ne (a b c d : Int) : binV (.st [(0, 1, .i), (1, 1, .i)]) .neq (moveV a b) (moveV c d) = some (.bool (!decide (a = c ∧ b = d))) := by
 have e1 : (a == c) = decide (a = c) := rfl
 have e2 : (b == d) = decide (b = d) := rfl
 simp only [binV, eqV, seEqL, seEq, seAgg, cond_false, List.getElem?_toArray, List.getElem?_cons_zero, List.getElem?_cons_succ, if_true, e1, e2]
 by_cases h : a = c <;> by_cases h2 : b = d <;> simp [h, h2]
structure Setup (Z : Nat → Prop) (h : Heap) (bf : Nat) (vf : Value) (bt : Nat) (vt p q : Value) (m n : Pic) (s : Stg) : Prop where
 src : IsImg h bf vf m
 out : IsImg h bt vt n
 ne : bf ≠ bt
 tx : IsTbl Z h p s.x
 ty : IsTbl Z h q s.y
 zf : Z bf ∧ ∀ c, blk vf c → Z c
 zz : ∀ c, Z c → ¬ blk vt c
 zb : ∀ c, Z c → c ≠ bt
 zl : ∀ c, Z c → c < h.size
theorem Setup.ext {Z : Nat → Prop} {h h' : Heap} {bf : Nat} {vf : Value} {bt : Nat} {vt p q : Value} {m n : Pic} {s : Stg} (S : Setup Z h bf vf bt vt p q m n s) (e : Ext h h') : Setup Z h' bf vf bt vt p q m n s :=
 ⟨S.src.ext e, S.out.ext e, S.ne, S.tx.ext e, S.ty.ext e, S.zf, S.zz, S.zb, fun c hc => Nat.lt_of_lt_of_le (S.zl c hc) e.1⟩
theorem Setup.chg {Z Q : Nat → Prop} {h h' : Heap} {bf : Nat} {vf : Value} {bt : Nat} {vt p q : Value} {m n n' : Pic} {s : Stg} (S : Setup Z h bf vf bt vt p q m n s) (f : Fr Q h h') (qz : ∀ c, Z c → ¬ Q c) (I : IsImg h' bt vt n') : Setup Z h' bf vf bt vt p q m n' s :=
 ⟨S.src.fr f (qz _ S.zf.1) fun c hc => qz _ (S.zf.2 c hc), I, S.ne, S.tx.fr f fun c _ hz => qz c hz, S.ty.fr f fun c _ hz => qz c hz, S.zf, S.zz, S.zb, fun c hc => Nat.lt_of_lt_of_le (S.zl c hc) f.1⟩
theorem Setup.mk3 {h0 h1 h2 : Heap} {bf : Nat} {vf : Value} {pn p q : Value} {m n : Pic} {s : Stg} (I : IsImg h1 bf vf m) (nb : h0.size ≤ bf) (nv : ∀ c, blk vf c → h0.size ≤ c) (tx : IsTbl (Since h0 h1) h1 p s.x) (ty : IsTbl (Since h0 h1) h1 q s.y) (N : zia h1 h2 pn n) :
  ∃ bt vt, pn = ptr bt ∧ Setup (Since h0 h1) h2 bf vf bt vt p q m n s ∧ h1.size ≤ bt ∧ (∀ c, blk vt c → h1.size ≤ c) ∧ Ext h1 h2 := by
 obtain ⟨bt, vt, rfl, O, mb, mv, E⟩ := N
 have l := I.lt
 exact ⟨bt, vt, rfl, ⟨I.ext E, O, by omega, tx.ext E, ty.ext E, ⟨⟨nb, l⟩, fun c hc => ⟨nv c hc, I.ltv hc⟩⟩, fun c hc hv => by have := hc.2; have := mv c hv; omega, fun c hc he => by have := hc.2; omega, fun c hc => Nat.lt_of_lt_of_le hc.2 E.1⟩, mb, mv, E⟩
theorem zjC {Z : Nat → Prop} {h : Heap} (G : GlobB h) {bf : Nat} {vf : Value} {bt : Nat} {vt p q : Value} {m n : Pic} {s : Stg} {t : TileD} (S : Setup Z h bf vf bt vt p q m n s) (W : m.Wf) (WO : n.Wf) (WS : s.Wf) :
  FCall prog za8 #[ptr bf, ptr bt, .agg #[p, q, .int .i64 s.border], .agg (tileC t).toArray] h (WNew Z h bf vf bt vt p q m n s t) :=
 c_wNew G S.src S.out S.ne W WO S.tx S.ty WS S.zf S.zz S.zl
def pic17 : Pic := imgN 3 1 1 255
def op17 : OpD := ⟨1, 0, 0, 1, [], [], 0, 0, 0⟩
def zbV : TileD := ⟨0, 0, 0, 3, 1, 0, 0, 0, 0, 0⟩
theorem c_l17Lives {h : Heap} (G : GlobB h) : FCall prog zbR #[] h fun r h' => r = .bool true ∧ Ext h h' := by
 apply zoz
 unfold zi9
 have a0 : imgC 3 1 1 255 = 0 := by decide +kernel
 refine zf0.mono fun r h1 ⟨pp, e, e1, _, s1⟩ => ?_
 subst e
 obtain ⟨bm, vm, rfl, I, nbm, nvm, _⟩ := s1 a0
 have I : IsImg h1 bm vm pic17 := I
 have W : pic17.Wf := zlA a0
 rw [a0]
 simp only [go_sem]
 have hf : (fillL #[(.int .i64 0), (.int .i64 0), (.int .i64 0), (.int .i64 0), (.slice none 0 0), (.slice none 0 0), (.int .i64 0), (.int .i64 0), (.int .i64 0)] [(0, 1, (.int .i64 1)), (3, 1, (.int .i64 1))]) = some #[.int .i64 1, .int .i64 0, .int .i64 0, .int .i64 1, .slice none 0 0, .slice none 0 0, .int .i64 0, .int .i64 0, .int .i64 0] := rfl
 rw [hf, zaA, zaa]
 have wf : op17.Wf := zmK (by simp [I64])
 refine (c_Make (Z := fun _ => True) (o := op17) (G.ext e1) zmL wf (by simp [op17]) (by simp [op17]) (by unfold I64; omega) (by unfold I64; omega)).mono fun w h2 ⟨sv, e, e2, _, s2⟩ => ?_
 subst e
 have a1 : makeC op17 3 1 = 0 := by decide +kernel
 have HS := s2 a1
 rw [a1]
 obtain ⟨p, q, rfl, hp, hq, ones⟩ := zcS HS
 simp only [go_sem]
 refine zaR (cs := [p, q, .int .i64 _]) rfl ones rfl fun b3 h3 r3 e3 n3 => ?_
 refine zf0.mono fun r h4 ⟨pp, e, e4, _, s4⟩ => ?_
 subst e
 have N4 := s4 a0
 rw [a0]
 have E13 := e2.trans e3
 have up : ∀ c, c < h2.size → Since h1 h2 c → Since h h3 c := fun c hc hz => ⟨Nat.le_trans e1.1 hz.1, Nat.lt_of_lt_of_le hz.2 e3.1⟩
 obtain ⟨bn, vn, rfl, S, nbn, nvn, _⟩ := Setup.mk3 (h0 := h) (I.ext E13) nbm nvm ((hp.mono up).ext e3) ((hq.mono up).ext e3) N4
 simp only [go_sem]
 have E4 := e1.trans (E13.trans e4)
 refine FCall.to (c_l14Lives (G.ext E4)) fun h5 e5 => ?_
 simp only [go_sem]
 refine FCall.to (c_l15Lives (G.ext (E4.trans e5))) fun h6 e6 => ?_
 have E6 := E4.trans (e5.trans e6)
 simp only [go_sem, eqT]
 rw [zal (l := [p, q, .int .i64 _]) ((e4.trans (e5.trans e6)).row r3) 3 rfl, zaa]
 have hf4 : fillL #[(.int .i64 0), (.int .i64 0), (.int .i64 0), (.int .i64 0)] [(2, 1, (.int .i64 3)), (3, 1, (.int .i64 1))] = some #[.int .i64 0, .int .i64 0, .int .i64 3, .int .i64 1] := rfl
 have hf10 : fillL #[(.int .i64 0), (.int .i64 0), (.int .i64 0), (.int .i64 0), (.int .i64 0), (.int .i64 0), (.int .i64 0), (.int .i64 0), (.int .i64 0), (.int .i64 0)] [(1, 4, .agg #[.int .i64 0, .int .i64 0, .int .i64 3, .int .i64 1])] = some (tileC zbV).toArray := rfl
 rw [hf4, zaA, zaa, hf10, zaA, zaa]
 have hN : (imgN 3 1 1 255).Wf := zlA a0
 have hcc : wnewC pic17 (imgN 3 1 1 255) (makeS op17 3 1) zbV = 0 := by decide +kernel
 refine (zjC (G.ext E6) (S.ext (e5.trans e6)) W hN (ziv a1).1).mono fun r h7 ⟨e7, v, er, _, s7⟩ => ?_
 subst er
 obtain ⟨bj, rv, rfl, J⟩ := s7 hcc
 rw [hcc]
 simp only [go_sem, eqT, zo6]
 have OK : StgOk (makeS op17 3 1) := makeS_ok a1 (by omega) (by decide +kernel)
 have R := OK.room (m := pic17) (n := imgN 3 1 1 255) (t := zbV) W hcc
 have WJ := zmk (t := zbV) W OK.wf hcc
 -- the steps, one behind the other
 have f1 : stepK ⟨pic17, makeS op17 3 1, zbV⟩ 0 (-1) = 1 ∧ stepJ ⟨pic17, makeS op17 3 1, zbV⟩ 0 (-1) = -1 ∧ stepY ⟨pic17, makeS op17 3 1, zbV⟩ 0 (-1) = 0 ∧ stepE ⟨pic17, makeS op17 3 1, zbV⟩ 0 (-1) = 0 := by decide +kernel
 have f2 : stepK ⟨pic17, makeS op17 3 1, zbV⟩ 0 0 = 1 ∧ stepJ ⟨pic17, makeS op17 3 1, zbV⟩ 0 0 = 0 ∧ stepY ⟨pic17, makeS op17 3 1, zbV⟩ 0 0 = 0 ∧ stepE ⟨pic17, makeS op17 3 1, zbV⟩ 0 0 = 1 := by decide +kernel
 have f3 : stepK ⟨pic17, makeS op17 3 1, zbV⟩ 0 1 = 1 ∧ stepJ ⟨pic17, makeS op17 3 1, zbV⟩ 0 1 = 1 ∧ stepY ⟨pic17, makeS op17 3 1, zbV⟩ 0 1 = 0 ∧ stepE ⟨pic17, makeS op17 3 1, zbV⟩ 0 1 = 2 := by decide +kernel
 have f4 : stepK ⟨pic17, makeS op17 3 1, zbV⟩ 0 2 = 2 ∧ stepJ ⟨pic17, makeS op17 3 1, zbV⟩ 0 2 = 0 ∧ stepY ⟨pic17, makeS op17 3 1, zbV⟩ 0 2 = 1 := by decide +kernel
 have f5 : ∀ e, stepK ⟨pic17, makeS op17 3 1, zbV⟩ 1 e = 0 ∧ stepJ ⟨pic17, makeS op17 3 1, zbV⟩ 1 e = 0 := fun e => by
  have : zbV.y + zbV.h ≤ 1 := by decide
  unfold stepK stepJ
  exact ⟨if_pos this, if_pos this⟩
 have hF : lnF (makeS op17 3 1).y zbV.y = -1 := by decide +kernel
 rw [hF] at J
 have J : JobSt (Since h h3) (Grow (fun _ => False) h6 h7) h7 bj bm vm bn vn p q rv ⟨pic17, makeS op17 3 1, zbV⟩ 0 (-1) (imgN 3 1 1 255) (roomN (mostL (makeS op17 3 1).y.lines)) (zcR (zbV.w * pic17.c)) := J
 generalize hD : (⟨pic17, makeS op17 3 1, zbV⟩ : JobD) = D at *
 generalize roomN (mostL (makeS op17 3 1).y.lines) = room at *
 generalize zcR (zbV.w * pic17.c) = w at *
 have hB : ∀ c, Grow (fun _ => False) h6 h7 c → h.size ≤ c := fun c hc => by
  rcases hc with hc | hc
  ·exact hc.elim
  ·have := E6.1; omega
 have hbn : ∀ c, blk vn c → h.size ≤ c := fun c hc => by have := nvn c hc; have := e1.1; have := E13.1; omega
 -- from step to step all that was is as it was
 have ExE : ∀ {h' h'' : Heap} {B : Nat → Prop}, Ext h h' → (∀ c, B c → h.size ≤ c) → Fr (fun c => blk vn c ∨ B c) h' h'' → Ext h h'' := fun E hB f => E.then_fr f fun c hc => by
  rcases hc with hc | hc
  ·exact hbn c hc
  ·exact hB c hc
 have GrB : ∀ {h' h'' : Heap} {B : Nat → Prop}, Ext h h' → (∀ c, B c → h.size ≤ c) → ∀ c, Grow B h' h'' c → h.size ≤ c := fun E hB c hc => by
  rcases hc with hc | hc
  ·exact hB c hc
  ·have := E.1; omega
 have hfm : ∀ a b : Int, fillL #[(.int .i64 0), (.int .i64 0)] [(0, 1, (.int .i64 a)), (1, 1, .int .i64 b)] = some #[.int .i64 a, .int .i64 b] := fun _ _ => rfl
 have hfm1 : ∀ a : Int, fillL #[(.int .i64 0), (.int .i64 0)] [(0, 1, (.int .i64 a))] = some #[.int .i64 a, .int .i64 0] := fun _ => rfl
 have E7 := E6.trans e7
 refine zbh (fun k xs h' => ∃ e B n', xs = [.int .i64 e] ∧ (k : Int) = 2 - e ∧ -1 ≤ e ∧ Ext h h' ∧ (∀ c, B c → h.size ≤ c) ∧ JobSt (Since h h3) B h' bj bm vm bn vn p q rv D 0 e n' room w) 3
  ⟨-1, _, _, rfl, by omega, by omega, E7, hB, J⟩ fun k xs ρ1 h8 again ⟨e, B, n', ex, hk, he, E8, hB8, J8⟩ Hag => ?_
 subst ex
 simp only [go_sem]
 refine zab (fun g1 => ?_) (fun g1 => ?_)
 ·refine (c_Step J8 WJ R).mono fun r h9 ⟨er, n9, J9, fr9, _⟩ => ?_
  subst er
  have hs : stepK D 0 e = 1 ∧ stepJ D 0 e = e ∧ stepY D 0 e = 0 ∧ stepE D 0 e = e + 1 := by
   have : e = -1 ∨ e = 0 ∨ e = 1 := by omega
   rcases this with rfl | rfl | rfl
   ·exact f1
   ·exact f2
   ·exact f3
  rw [hs.1, hs.2.1] at *
  rw [hs.2.2.1, hs.2.2.2] at J9
  rw [hfm, zaA, zaa, move_ne]
  simp only [go_sem, eqT, and_self]
  rw [w64 (by omega) (by omega)]
  exact Hag _ _ (k - 1) (by omega) ⟨e + 1, _, n9, rfl, by omega, by omega, ExE E8 hB8 fr9, GrB E8 hB8, J9⟩
 ·have he2 : e = 2 := by omega
  subst he2
  refine (c_Step J8 WJ R).mono fun r h9 ⟨er, n9, J9, fr9, _⟩ => ?_
  subst er
  rw [f4.2.2] at J9
  rw [f4.1, f4.2.1, hfm1, zaA, zaa, zqw]
  simp only [go_sem, eqT, and_self]
  refine (c_Step J9 WJ R).mono fun r h10 ⟨er, n10, J10, fr10, _⟩ => ?_
  subst er
  rw [(f5 _).1, (f5 _).2]
  have hf0 : fillL #[(.int .i64 0), (.int .i64 0)] [] = some #[.int .i64 0, .int .i64 0] := rfl
  simp only [go_sem, hf0, zaA, zqw, eqT, and_self]
  exact ⟨by simp, ExE (ExE E8 hB8 fr9) (GrB E8 hB8) fr10⟩
section
def B8 (n : Int) : Prop := 0 ≤ n ∧ n ≤ 255
def bgS (a : PicA) (o : OpD) : Stg := makeS o (drawA a).w (drawA a).h
def bgN (a : PicA) (o : OpD) : Pic := imgN (bgS a o).x.lines.length (bgS a o).y.lines.length (drawA a).c (drawA a).most
def bgT (s : Stg) (x y w hh : Int) : TileD :=
 ⟨0, x % s.x.lines.length, y % s.y.lines.length, 1 + w % (s.x.lines.length - x % s.x.lines.length), 1 + hh % (s.y.lines.length - y % s.y.lines.length), 0, 0, 0, 0, 0⟩
structure BgOk (a : PicA) (o : OpD) : Prop where
 little : ¬ zgE 12 o
 made : makeC o (drawA a).w (drawA a).h = 0
 fit : fitsZ (bgS a o).x.lines.length (bgS a o).y.lines.length (drawA a).c
 sx : 1 ≤ (bgS a o).x.lines.length ∧ (bgS a o).x.lines.length ≤ 12
 sy : 1 ≤ (bgS a o).y.lines.length ∧ (bgS a o).y.lines.length ≤ 12
theorem bg_ok {a : PicA} {o : OpD} (hl : zgy 12 [o]) (hc : opsC [o] (drawA a).w (drawA a).h (drawA a).c = 0) : BgOk a o := by
 have h1 : ¬ zgE 12 o := hl o (by simp)
 have hw := zgS a
 unfold opsC at hc
 rw [if_neg (by simp)] at hc
 have hf : fitsZ (drawA a).w (drawA a).h (drawA a).c := (zeL a).fits
 rw [if_neg (by simpa using hf)] at hc
 unfold allC at hc
 by_cases hm : makeC o (drawA a).w (drawA a).h = 0
 ·rw [if_neg (by simpa using hm)] at hc
  have hlen := znP hm
  by_cases hf2 : fitsZ (sizeW o (drawA a).w) (sizeH o (drawA a).h) (drawA a).c
  ·have hb := zbn hf2
   have ⟨b1, b2⟩ : sizeW o (drawA a).w ≤ 12 ∧ sizeH o (drawA a).h ≤ 12 := by
    unfold sizeW sizeH at hb ⊢
    unfold zgE at h1
    split <;> rename_i hk
    ·rw [if_pos hk, if_pos hk] at hb
     omega
    ·omega
   refine ⟨h1, hm, ?_, ?_, ?_⟩
   ·unfold bgS; rw [hlen.1, hlen.2]; exact hf2
   ·unfold bgS; omega
   ·unfold bgS; omega
  ·rw [if_pos hf2] at hc; cases hc
 ·rw [if_pos hm] at hc; exact absurd hc hm
section
variable {a : PicA} {o : OpD}
theorem BgOk.stg (H : BgOk a o) : StgOk (bgS a o) := makeS_ok H.made (by have := zgS a; omega) (by have := (znP H.made).1; have := H.sx; unfold bgS at this; omega)
theorem BgOk.suits (H : BgOk a o) : zcX (drawA a) (bgN a o) (bgS a o) := ⟨znO H.made, rfl, rfl, rfl, rfl⟩
theorem BgOk.imgc (H : BgOk a o) : imgC (bgS a o).x.lines.length (bgS a o).y.lines.length (drawA a).c (drawA a).most = 0 := zfm.2 ⟨H.fit, (zeL a).m1, (zeL a).m2⟩
theorem BgOk.nwf (H : BgOk a o) : (bgN a o).Wf := zlA H.imgc
theorem BgOk.within (H : BgOk a o) {x y w hh : Int} (hx : B8 x) (hy : B8 y) (hw : B8 w) (hhh : B8 hh) : zaY (bgS a o) (bgT (bgS a o) x y w hh).x (bgT (bgS a o) x y w hh).y (bgT (bgS a o) x y w hh).w (bgT (bgS a o) x y w hh).h := by
 have h1 := H.sx
 have h2 := H.sy
 unfold B8 at *
 unfold bgT zaY
 dsimp only
 have a1 := Int.emod_nonneg x (show ((bgS a o).x.lines.length : Int) ≠ 0 by omega)
 have a2 := Int.emod_lt_of_pos x (show 0 < ((bgS a o).x.lines.length : Int) by omega)
 have b1 := Int.emod_nonneg y (show ((bgS a o).y.lines.length : Int) ≠ 0 by omega)
 have b2 := Int.emod_lt_of_pos y (show 0 < ((bgS a o).y.lines.length : Int) by omega)
 generalize x % ((bgS a o).x.lines.length : Int) = X at *
 generalize y % ((bgS a o).y.lines.length : Int) = Y at *
 have c1 := Int.emod_nonneg w (show ((bgS a o).x.lines.length : Int) - X ≠ 0 by omega)
 have c2 := Int.emod_lt_of_pos w (show 0 < ((bgS a o).x.lines.length : Int) - X by omega)
 have d1 := Int.emod_nonneg hh (show ((bgS a o).y.lines.length : Int) - Y ≠ 0 by omega)
 have d2 := Int.emod_lt_of_pos hh (show 0 < ((bgS a o).y.lines.length : Int) - Y by omega)
 omega
theorem BgOk.newc (H : BgOk a o) {x y w hh : Int} (hx : B8 x) (hy : B8 y) (hw : B8 w) (hhh : B8 hh) : wnewC (drawA a) (bgN a o) (bgS a o) (bgT (bgS a o) x y w hh) = 0 := zda.2 ⟨H.suits, H.within hx hy hw hhh⟩
end
abbrev zero20 : Array Value := #[(.pointer none), (.pointer none), (.pointer none), (.pointer none), (.int .i64 0), (.slice none 0 0), (.slice none 0 0), (.int .i64 0), (.int .i64 0), (.int .i64 0), (.int .i64 0), (.int .i64 0), (.int .i64 0), (.int .i64 0), (.int .i64 0), (.int .i64 0), (.int .i64 0), (.int .i64 0), (.int .i64 0), (.int .i64 0)]
abbrev zgT (bf bt : Nat) (p q X Y : Value) (s : Stg) (t : TileD) : List Value := [ptr bf, ptr bt, p, q, .int .i64 s.border, X, Y, .int .i64 s.x.n, .int .i64 s.y.n, .int .i64 s.border] ++ tileC t
theorem fill_bg {bf bt : Nat} {p q X Y : Value} {s : Stg} {t : TileD} :
  fillL zero20 [(0, 1, ptr bf), (1, 1, ptr bt), (2, 3, .agg #[p, q, .int .i64 s.border]), (5, 5, .agg #[X, Y, .int .i64 s.x.n, .int .i64 s.y.n, .int .i64 s.border]), (10, 10, .agg (tileC t).toArray)] = some (zgT bf bt p q X Y s t).toArray := by
 refine (zba (n := 1) (l := [ptr bf]) rfl rfl (by simp)).trans ?_
 refine (zba (n := 1) (l := [ptr bt]) rfl rfl (by simp [zca])).trans ?_
 refine (zba (n := 3) (l := [p, q, .int .i64 s.border]) rfl rfl (by simp [zca])).trans ?_
 refine (zba (n := 5) (l := [X, Y, .int .i64 s.x.n, .int .i64 s.y.n, .int .i64 s.border]) rfl rfl (by simp [zca])).trans ?_
 refine (zba (n := 10) (l := tileC t) rfl rfl (by simp [zca])).trans ?_
 rw [zb7]
 simp [wrL, tileC, zgT]
theorem fill_t4 (a b : Int) : fillL #[(.int .i64 0), (.int .i64 0), (.int .i64 0), (.int .i64 0), (.int .i64 0), (.int .i64 0), (.int .i64 0), (.int .i64 0), (.int .i64 0), (.int .i64 0)] [(1, 4, .agg #[.int .i64 a, .int .i64 b, .int .i64 0, .int .i64 0])] = some (tileC ⟨0, a, b, 0, 0, 0, 0, 0, 0, 0⟩).toArray := by
 refine (zba (n := 4) (l := [.int .i64 a, .int .i64 b, .int .i64 0, .int .i64 0]) rfl rfl (by simp)).trans ?_
 rw [zb7]
 simp [wrL, tileC]
def BgAt (h h' : Heap) (v : Value) (a : PicA) (o : OpD) (t : TileD) : Prop := ∃ Z bf vf bt vt p q X Y, v = .agg (zgT bf bt p q X Y (bgS a o) t).toArray ∧ Setup Z h' bf vf bt vt p q (drawA a) (bgN a o) (bgS a o) ∧
 rStg.R Z h' [X, Y, .int .i64 (bgS a o).x.n, .int .i64 (bgS a o).y.n, .int .i64 (bgS a o).border] (bgS a o) ∧ (∀ c, Z c → h.size ≤ c) ∧ h.size ≤ bt ∧ (∀ c, blk vt c → h.size ≤ c) ∧ (∀ c, Z c → c < h'.size) ∧ (∀ v ∈ zgT bf bt p q X Y (bgS a o) t, zam v = true)
theorem c_begin {h : Heap} (G : GlobB h) {Z1 Z2 : Nat → Prop} {cs os : List Value} {a : PicA} {o : OpD} (H : rPicA.R Z1 h cs a) (WA : a.Wf) (HO : rOp.R Z2 h os o) (WO : OpsWf [o]) {x y w hh : Int} (hx : B8 x) (hy : B8 y) (hw : B8 w) (hhh : B8 hh) :
  FCall prog zbQ #[.agg cs.toArray, .agg os.toArray, .int .u8 x, .int .u8 y, .int .u8 w, .int .u8 hh] h fun r h' => Ext h h' ∧ ∃ v ok, r = .tuple #[v, .bool ok] ∧ (∃ l : List Value, v = .agg l.toArray ∧ l.length = 20 ∧ ∀ u ∈ l, zam u = true) ∧ (ok = true → BgOk a o ∧ BgAt h h' v a o (bgT (bgS a o) x y w hh)) := by
 apply zoy
 unfold zi8
 simp only [zax]
 have oc := rPicA.one H
 have oo := rOp.one HO
 have lc := rPicA.len H
 have lo := rOp.len HO
 refine zag fun b1 h1 r1 e1 n1 => zag fun b2 h2 r2 e2 n2 => zag fun b3 h3 r3 e3 n3 => ?_
 have E3 := e1.trans (e2.trans e3)
 rw [zal ((e2.trans e3).row r1) 5 lc, zaa]
 refine (c_l15Draw (rPicA.ext H E3) WA).mono fun pm h4 N4 => ?_
 obtain ⟨bm, vm, rfl, I4, nbm, nvm, e4⟩ := N4
 have E4 := E3.trans e4
 rw [zal ((e3.trans e4).row r2) 9 lo, zaa]
 refine zbZ (Rp.fill_whole (by rfl) lo) fun b5 h5 r5 e5 n5 => ?_
 have E5 := E4.trans e5
 have S5 : Rp.Sl rOp (fun c => Z2 c ∨ c = b5) h5 (.slice (some ⟨b5, 0, none⟩) 1 1) [o] := by
  refine ⟨os, ?_, fun _ b hb => .inr hb, fun i hi => ?_⟩
  ·have := Rp.SlC.single (cs := os) r5
   rw [lo] at this
   exact this
  ·have : i = 0 := by simpa using hi
   subst this
   rw [Rp.el_self lo]
   exact rOp.mono (rOp.ext HO E5) fun b _ hb => .inl hb
 refine (c_Stages (G.ext E5) S5 (by simp) WO (I4.ext e5) (zeL a)).mono fun r h6 ⟨e6, sv, rv, ok, er, hok, hS⟩ => ?_
 subst er
 have E6 := E5.trans e6
 cases hk : ok with
 | false =>
  simp only [go_sem, zb7, zaA]
  refine zbt (l := zero20.toList) ((e4.trans (e5.trans e6)).row r3) rfl (by decide) rfl fun h7 r7 u7 => ?_
  rw [zal (l := zero20.toList) r7 20 rfl, zaa]
  exact ⟨E6.upd (Nat.le_trans (e1.trans e2).1 n3) u7, _, false, rfl, ⟨zero20.toList, rfl, rfl, by decide⟩, fun h => by cases h⟩
 | true =>
  subst hk
  have B : BgOk a o := bg_ok (hok.1 rfl).1 (hok.1 rfl).2
  obtain ⟨T1, T2⟩ := hS rfl
  have T1 : Rp.Sl rStgP (Since h5 h6) h6 sv [bgS a o] := T1
  have T2 : Rp.Sl rStg (Since h5 h6) h6 rv [bgS a o] := T2
  have hsx := B.sx
  have hsy := B.sy
  obtain ⟨bp, op, ps, q1, ql, qa, Rp1, _⟩ := T1.atp (show 0 < 3 by omega) (k := .i64) (i := 0) (by simp)
  obtain ⟨p1, cs1, q2, q3, _⟩ := T1.atw (show 0 < 3 by omega) (k := .i64) (i := 0) (by simp)
  obtain ⟨p2, cs2, q4, q5, R2⟩ := T2.atw (show 0 < 5 by omega) (k := .i64) (i := 0) (by simp)
  have q1 : idxV 3 sv (.int .i64 0) = some (.pointer (some ⟨bp, op, none⟩)) := q1
  have q4 : idxV 5 rv (.int .i64 0) = some p2 := q4
  have q5 : ldsV 5 h6 p2 = some (.agg cs2.toArray) := q5
  have Rp1 : rStgP.R (Since h5 h6) h6 ps (bgS a o) := Rp1
  have R2 : rStg.R (Since h5 h6) h6 cs2 (bgS a o) := R2
  obtain ⟨p, q, es, hp, hq, ones⟩ := zcS (isStg_iff.1 Rp1)
  have es : ps = [p, q, .int .i64 (bgS a o).border] := by
   have := congrArg Value.cells es
   simp only [zax] at this
   exact List.toArray_inj this
  subst es
  have k0 := qa 0 (by simp)
  have k1 := qa 1 (by simp)
  simp only [Nat.add_zero, List.getElem_cons_zero, List.getElem_cons_succ] at k0 k1
  obtain ⟨X, Y, rfl, HX, HY⟩ := R2
  simp only [go_sem, Nat.zero_add, q1]
  refine zak (fun h' => h' = h6) rfl ?_
  refine zae p (fun h' e => by rw [e]; exact k0) ?_
  simp only [go_sem, Nat.zero_add, q1]
  refine zae q (fun h' e => by rw [e]; exact k1) ?_
  refine FCall.at (c_To hp) ?_
  refine ⟨rfl, ?_⟩
  refine FCall.at (c_To hq) ?_
  have I6 := I4.ext (e5.trans e6)
  refine FCall.at (zbb I6) (FCall.at (zcU I6) ?_)
  refine zf0.mono fun r h7 ⟨pn, er, e7, _, s7⟩ => ?_
  subst er
  have N7 := s7 B.imgc
  rw [B.imgc]
  have up : ∀ c, c < h6.size → Since h5 h6 c → Since h3 h6 c := fun c hc hz => ⟨Nat.le_trans (e4.trans e5).1 hz.1, hc⟩
  obtain ⟨bt, vt, rfl, S, nbt, nvt, _⟩ := Setup.mk3 (h0 := h3) I6 nbm nvm (hp.mono up) (hq.mono up) N7
  have E7 := E6.trans e7
  simp only [go_sem]
  refine zak (fun h' => h' = h7) rfl ?_
  have hsxi : ((bgS a o).x.lines.length : Int) ≠ 0 := by omega
  have hsyi : ((bgS a o).y.lines.length : Int) ≠ 0 := by omega
  unfold B8 at hx hy hw hhh
  rw [w64 (n := x) (by omega) (by omega), w64 (n := y) (by omega) (by omega), zaJ _ _ _ _ hsxi, zaa, zaJ _ _ _ _ hsyi, zaa, Int.tmod_eq_emod_of_nonneg hx.1, Int.tmod_eq_emod_of_nonneg hy.1]
  have a1 := Int.emod_nonneg x hsxi
  have a2 := Int.emod_lt_of_pos x (show 0 < ((bgS a o).x.lines.length : Int) by omega)
  have b1 := Int.emod_nonneg y hsyi
  have b2 := Int.emod_lt_of_pos y (show 0 < ((bgS a o).y.lines.length : Int) by omega)
  have hT : bgT (bgS a o) x y w hh = ⟨0, x % (bgS a o).x.lines.length, y % (bgS a o).y.lines.length, 1 + w % ((bgS a o).x.lines.length - x % (bgS a o).x.lines.length), 1 + hh % ((bgS a o).y.lines.length - y % (bgS a o).y.lines.length), 0, 0, 0, 0, 0⟩ := rfl
  rw [hT]
  generalize x % ((bgS a o).x.lines.length : Int) = tx at *
  generalize y % ((bgS a o).y.lines.length : Int) = ty at *
  rw [show fillL #[(.int .i64 0), (.int .i64 0), (.int .i64 0), (.int .i64 0)] [(0, 1, .int .i64 tx), (1, 1, .int .i64 ty)] = some #[.int .i64 tx, .int .i64 ty, .int .i64 0, .int .i64 0] from rfl, zaA, zaa, fill_t4, zaA, zaa]
  refine zaR (cs := tileC ⟨0, tx, ty, 0, 0, 0, 0, 0, 0, 0⟩) rfl (zbO _) rfl fun b8 h8 r8 e8 n8 => ?_
  refine zak (fun h' => h' = h8) rfl ?_
  simp only [go_sem, Nat.zero_add]
  refine zae (.int .i64 tx) (fun h' e => by rw [e]; exact zac r8) ?_
  simp only [go_sem, Nat.zero_add]
  rw [w64 (n := w) (by omega) (by omega), w64 (n := (bgS a o).x.lines.length - tx) (by omega) (by omega), zaJ _ _ _ _ (by omega), zaa, Int.tmod_eq_emod_of_nonneg hw.1]
  have c1 := Int.emod_nonneg w (show ((bgS a o).x.lines.length : Int) - tx ≠ 0 by omega)
  have c2 := Int.emod_lt_of_pos w (show 0 < ((bgS a o).x.lines.length : Int) - tx by omega)
  generalize w % (((bgS a o).x.lines.length : Int) - tx) = tw at *
  simp only [go_sem, Nat.zero_add]
  rw [w64 (n := 1 + tw) (by omega) (by omega)]
  refine zae (.int .i64 ty) (fun h' e => by rw [e]; exact zac r8) ?_
  simp only [go_sem, Nat.zero_add]
  rw [w64 (n := hh) (by omega) (by omega), w64 (n := (bgS a o).y.lines.length - ty) (by omega) (by omega), zaJ _ _ _ _ (by omega), zaa, Int.tmod_eq_emod_of_nonneg hhh.1]
  have d1 := Int.emod_nonneg hh (show ((bgS a o).y.lines.length : Int) - ty ≠ 0 by omega)
  have d2 := Int.emod_lt_of_pos hh (show 0 < ((bgS a o).y.lines.length : Int) - ty by omega)
  generalize hh % (((bgS a o).y.lines.length : Int) - ty) = th at *
  simp only [go_sem, Nat.zero_add]
  rw [w64 (n := 1 + th) (by omega) (by omega)]
  refine zbl r8 (by simp) rfl fun h9 r9 u9 => ?_
  have r9 : h9[b8]? = some (.cells (tileC ⟨0, tx, ty, 1 + tw, 0, 0, 0, 0, 0, 0⟩).toArray 43 (0, 0)) := r9
  try simp only [go_sem, Nat.zero_add]
  refine zbl r9 (by simp) rfl fun h10 r10 u10 => ?_
  have r10 : h10[b8]? = some (.cells (tileC ⟨0, tx, ty, 1 + tw, 1 + th, 0, 0, 0, 0, 0⟩).toArray 43 (0, 0)) := r10
  have e710 : Ext h7 h10 := (e8.upd n8 u9).upd n8 u10
  have e610 := e7.trans e710
  refine zak (fun h' => h' = h10) rfl ?_
  try simp only [go_sem, Nat.zero_add, q1]
  have k3 : ldsV 3 h6 (.pointer (some ⟨bp, op, none⟩)) = some (.agg #[p, q, .int .i64 (bgS a o).border]) := zkW [p, q, .int .i64 (bgS a o).border] 3 rfl qa
  refine zae (.agg #[p, q, .int .i64 (bgS a o).border]) (fun h' e => by rw [e]; exact e610.lds k3) ?_
  try simp only [go_sem, q4]
  refine zae (.agg #[X, Y, .int .i64 (bgS a o).x.n, .int .i64 (bgS a o).y.n, .int .i64 (bgS a o).border]) (fun h' e => by rw [e]; exact e610.lds q5) ?_
  refine zae (.agg (tileC ⟨0, tx, ty, 1 + tw, 1 + th, 0, 0, 0, 0, 0⟩).toArray) (fun h' e => by rw [e]; exact zal r10 10 rfl) ?_
  have hfl := @fill_bg bm bt p q X Y (bgS a o) ⟨0, tx, ty, 1 + tw, 1 + th, 0, 0, 0, 0, 0⟩
  have hones : ∀ v ∈ zgT bm bt p q X Y (bgS a o) ⟨0, tx, ty, 1 + tw, 1 + th, 0, 0, 0, 0, 0⟩, zam v = true := by
   have o1 := ones (v := p) (by simp)
   have o2 := ones (v := q) (by simp)
   exact zad rfl (zad rfl (zad o1 (zad o2 (zad rfl (zad HX.one (zad HY.one (zad rfl (zad rfl (zad rfl (zbO _))))))))))
  rw [hfl, zaA, zaa]
  try simp only [go_sem, eqT]
  refine zbt (l := zgT bm bt p q X Y (bgS a o) ⟨0, tx, ty, 1 + tw, 1 + th, 0, 0, 0, 0, 0⟩) ((e4.trans (e5.trans (e6.trans e610))).row r3) rfl hones rfl fun h11 r11 u11 => ?_
  rw [zal r11 20 rfl, zaa]
  have e711 : Fr (fun c => c = b3) h7 h11 := e710.after u11.fr
  have hlt3 := zaB r3
  have hz3 : ∀ c, Since h3 h6 c → ¬ c = b3 := fun c hc he => by have := hc.1; omega
  have hs36 := (e4.trans (e5.trans e6)).1
  have hnb : ∀ c, h6.size ≤ c → ¬ c = b3 := fun c hc he => by omega
  refine ⟨(E6.trans e610).upd (Nat.le_trans (e1.trans e2).1 n3) u11, _, true, rfl, ⟨_, rfl, rfl, hones⟩, fun _ => ⟨B, Since h3 h6, bm, vm, bt, vt, p, q, X, Y, rfl, ?_, ?_, fun c hc => Nat.le_trans E3.1 hc.1, Nat.le_trans E6.1 nbt, fun c hc => Nat.le_trans E6.1 (nvt c hc), fun c hc => ?_, hones⟩⟩
  ·exact S.chg e711 hz3 (S.out.fr e711 (hnb _ nbt) fun c hc => hnb _ (nvt c hc))
  ·have R3 : rStg.R (Since h3 h6) h6 [X, Y, .int .i64 (bgS a o).x.n, .int .i64 (bgS a o).y.n, .int .i64 (bgS a o).border] (bgS a o) := rStg.mono ⟨X, Y, rfl, HX, HY⟩ up
   exact rStg.fr (rStg.ext R3 e7) e711 fun c _ hc => hz3 c hc
  ·exact Nat.lt_of_lt_of_le hc.2 (Nat.le_trans e610.1 (Nat.le_of_eq u11.1.symm))
end
section
structure zoi (h : Heap) (cs os : List Value) (a : PicA) (o : OpD) : Prop where
 pic : ∃ Z, rPicA.R Z h cs a
 wa : a.Wf
 op : ∃ Z, rOp.R Z h os o
 wo : OpsWf [o]
structure W17 (h h' : Heap) (b : Nat) (Z : Nat → Prop) (bf : Nat) (vf : Value) (bt : Nat) (vt p q X Y : Value) (a : PicA) (o : OpD) (t : TileD) : Prop where
 row : h'[b]? = some (.cells (zgT bf bt p q X Y (bgS a o) t).toArray 45 (0, 0))
 ok : BgOk a o
 set : Setup Z h' bf vf bt vt p q (drawA a) (bgN a o) (bgS a o)
 ref : rStg.R Z h' [X, Y, .int .i64 (bgS a o).x.n, .int .i64 (bgS a o).y.n, .int .i64 (bgS a o).border] (bgS a o)
 ext : Ext h h'
 nz : ∀ c, Z c → h.size ≤ c
 nt : h.size ≤ bt ∧ ∀ c, blk vt c → h.size ≤ c
 nb : h.size ≤ b
 ap : ¬ Z b ∧ b ≠ bt ∧ ¬ blk vt b
theorem open17 {h : Heap} (G : GlobB h) {cs os : List Value} {a : PicA} {o : OpD} (A : zoi h cs os a o) {x y w hh : Int} (hx : B8 x) (hy : B8 y) (hw : B8 w) (hhh : B8 hh) {X1 X2 : Heap → Prop} {F : Value → Heap → Prop}
  (h1 : ∀ h', Ext h h' → X2 h')
  (h2 : ∀ h' b Z bf vf bt vt p q X Y, W17 h h' b Z bf vf bt vt p q X Y a o (bgT (bgS a o) x y w hh) → F (ptr b) h') :
  newK (Value.cells (.agg cs.toArray)) 25 h fun v1 h2 => newK (Value.cells (.agg os.toArray)) 31 h2 fun v3 h4 => FCall prog zbR #[] h4 fun v5 h6 => vK (unV .not v5) fun v7 => iteK v7 (X1 h6) (
   vK (ldsV 5 h6 v1) fun v8 => vK (ldsV 9 h6 v3) fun v9 => FCall prog zbQ #[v8, v9, .int .u8 x, .int .u8 y, .int .u8 w, .int .u8 hh] h6 fun v10 h11 => vK (extV v10 0) fun v12 => vK (extV v10 1) fun v13 =>
   newK zero20 45 h11 fun v14 h15 => stK 20 v14 v12 h15 fun v16 h17 => vK (unV .not v13) fun v18 => iteK v18 (X2 h17) (F v14 h17)) := by
 obtain ⟨⟨Z1, H⟩, WA, ⟨Z2, HO⟩, WO⟩ := A
 simp only [zax]
 have lc := rPicA.len H
 have lo := rOp.len HO
 refine zag fun b1 h1' r1 e1 n1 => zag fun b2 h2' r2 e2 n2 => ?_
 have E2 := e1.trans e2
 refine FCall.to (c_l17Lives (G.ext E2)) fun h3 e3 => ?_
 have E3 := E2.trans e3
 simp only [go_sem]
 rw [zal ((e2.trans e3).row r1) 5 lc, zaa, zal (e3.row r2) 9 lo, zaa]
 refine (c_begin (G.ext E3) (rPicA.ext H E3) WA (rOp.ext HO E3) WO hx hy hw hhh).mono fun r h4 ⟨e4, v, ok, er, ⟨l, ev, ll, lo1⟩, hv⟩ => ?_
 subst er ev
 try simp only [go_sem]
 have E4 := E3.trans e4
 refine zaR (cs := l) ll lo1 ll fun b5 h5 r5 e5 n5 => ?_
 have E5 := E4.trans e5
 try simp only [go_sem]
 cases ok with
 | false => simp only [go_sem]; exact h1 h5 E5
 | true =>
  simp only [go_sem]
  obtain ⟨B, Z, bf, vf, bt, vt, p, q, X, Y, el, S, RS, nz, nbt, nvt, zl, on⟩ := hv rfl
  have el : l = zgT bf bt p q X Y (bgS a o) (bgT (bgS a o) x y w hh) := by
   have := congrArg Value.cells el
   simp only [zax] at this
   exact List.toArray_inj this
  rw [el] at r5
  have E3' := E3.1
  have l5 := n5
  refine h2 h5 b5 Z bf vf bt vt p q X Y ⟨r5, B, S.ext e5, rStg.ext RS e5, E5, fun c hc => Nat.le_trans E3' (nz c hc), ⟨Nat.le_trans E3' nbt, fun c hc => Nat.le_trans E3' (nvt c hc)⟩, Nat.le_trans E4.1 n5, fun hz => ?_, fun he => ?_, fun hv => ?_⟩
  ·have := zl b5 hz; omega
  ·have := S.out.lt; omega
  ·have := S.out.ltv hv; omega
theorem most_ge1 {ls : List (Int × List Int)} {x : Int × List Int} (hx : x ∈ ls) (h1 : 1 ≤ x.2.length) : 1 ≤ mostL ls := by
 have := (znJ ls 0).2 x hx
 unfold mostL
 omega
theorem makeS_most1 {o : OpD} {w h : Int} (hc : makeC o w h = 0) (hy : 1 ≤ (makeS o w h).y.lines.length) : 1 ≤ mostL (makeS o w h).y.lines := by
 have ht : zcp o w h = 0 := by
  unfold makeC at hc
  split at hc
  ·cases hc
  ·exact hc
 have hy : 1 ≤ (zbI o h).lines.length := hy
 show 1 ≤ mostL (zbI o h).lines
 unfold zcp at ht
 by_cases hk : o.kind = 3
 ·rw [if_pos hk] at ht
  have e : zbI o h = zbA o.filter h o.hh := by unfold zbI; rw [if_pos hk]
  by_cases h1 : za2 o.filter w o.w = 0
  ·rw [if_neg (by simpa using h1)] at ht
   have hn0 : ¬ (¬ (0 ≤ o.filter ∧ o.filter < 3) ∨ ¬ zao h ∨ ¬ zao o.hh) := fun hh => by unfold za2 at ht; rw [if_pos hh] at ht; cases ht
   have hz := ht
   unfold za2 at hz
   rw [if_neg hn0] at hz
   have hf : 0 ≤ o.filter ∧ o.filter < 3 := Decidable.of_not_not fun h => hn0 (.inl h)
   have hn : zao h := Decidable.of_not_not fun h => hn0 (.inr (.inl h))
   have hm : zao o.hh := Decidable.of_not_not fun h => hn0 (.inr (.inr h))
   unfold zao at hn hm
   have h2 := zdq hz 0 (by omega)
   have hmay : mayR o.filter h o.hh (0 : Nat) := ⟨hf.1, hf.2, hn.1, hn.2, hm.1, hm.2, by omega, by omega⟩
   have hmem : (zbj o.filter h o.hh (0 : Nat), zaC (zaW o.filter h o.hh (0 : Nat))) ∈ (zbA o.filter h o.hh).lines := List.mem_map.2 ⟨0, List.mem_range.2 (by omega), rfl⟩
   rw [e]
   refine most_ge1 hmem ?_
   show 1 ≤ (zaC (zaW o.filter h o.hh (0 : Nat))).length
   rw [zdN h2]
   unfold zaW
   rw [if_pos hmay]
   unfold rowW
   rw [List.length_map, List.length_range]
   have := zpK hmay
   omega
  ·rw [if_pos h1] at ht
   exact absurd ht h1
 ·rw [if_neg hk] at ht
  have e : zbI o h = zc1 (zaP o) h := by unfold zbI; rw [if_neg hk]
  have hf : zcx (zaP o) h = 0 := by
   split at ht
   ·exact absurd ht (by assumption)
   ·split at ht
    ·exact absurd ht (by assumption)
    ·exact ht
  unfold zcx at hf
  split at hf
  ·cases hf
  ·split at hf
   ·cases hf
   ·rename_i h1 h2
    have h3 : zao h := Decidable.of_not_not h1
    unfold zao at h3
    have hmem : (((0 : Nat) : Int) - ((zaP o).length / 2 : Nat), zaC (zaP o)) ∈ (zc1 (zaP o) h).lines := List.mem_map.2 ⟨0, List.mem_range.2 (by omega), rfl⟩
    rw [e]
    refine most_ge1 hmem ?_
    show 1 ≤ (zaC (zaP o)).length
    rw [zdN hf]
    omega
theorem BgOk.most1 {a : PicA} {o : OpD} (H : BgOk a o) : 1 ≤ mostL (bgS a o).y.lines := makeS_most1 H.made H.sy.1
structure JobGo (hL : Heap) (B0 Q : Nat → Prop) (Z : Nat → Prop) (h : Heap) (bj bf : Nat) (vf : Value) (bt : Nat) (vt p q rv : Value) (d : JobD) (y e : Int) (n : Pic) (room w : Nat) : Prop where
 st : ∃ B, JobSt Z B h bj bf vf bt vt p q rv d y e n room w ∧ ∀ c, c < hL.size → B c → B0 c
 fr : Fr (fun c => (blk vt c ∨ B0 c) ∨ Q c) hL h
def GoFr (vt : Value) (B Q : Nat → Prop) (h h' : Heap) : Prop := Fr (fun c => (blk vt c ∨ B c) ∨ Q c) h h'
theorem GoFr.row {vt : Value} {B Q : Nat → Prop} {h h' : Heap} (e : GoFr vt B Q h h') {b : Nat} {o : Obj} (r : h[b]? = some o) (hn : ¬ ((blk vt b ∨ B b) ∨ Q b)) : h'[b]? = some o := Go.Crisp.Fr.row e r hn
abbrev noQ : Nat → Prop := fun _ => False
section
variable {hL : Heap} {B0 Q : Nat → Prop} {Z : Nat → Prop} {h : Heap} {bj bf : Nat} {vf : Value} {bt : Nat} {vt p q rv : Value} {d : JobD} {y e : Int} {n : Pic} {room w : Nat}
theorem JobGo.start {B : Nat → Prop} (S : JobSt Z B h bj bf vf bt vt p q rv d y e n room w) : JobGo h B Q Z h bj bf vf bt vt p q rv d y e n room w := ⟨⟨B, S, fun _ _ => id⟩, Fr.refl _ _⟩
theorem JobGo.ext {h' : Heap} (J : JobGo hL B0 Q Z h bj bf vf bt vt p q rv d y e n room w) (k : Ext h h') : JobGo hL B0 Q Z h' bj bf vf bt vt p q rv d y e n room w := by
 obtain ⟨⟨B, S, hb⟩, f⟩ := J
 exact ⟨⟨B, S.ext k, hb⟩, f.trans k.fr⟩
theorem JobGo.row {b : Nat} {ob : Obj} (J : JobGo hL B0 Q Z h bj bf vf bt vt p q rv d y e n room w) (r : hL[b]? = some ob) (hv : ¬ blk vt b) (hB : ¬ B0 b) (hQ : ¬ Q b) : h[b]? = some ob := J.fr.row r fun hh => hh.elim (fun hh => hh.elim hv hB) hQ
theorem JobGo.upd {h' : Heap} {x : Nat} (J : JobGo hL B0 Q Z h bj bf vf bt vt p q rv d y e n room w) (u : Upd x h h') (hx : Q x) (hl : x < hL.size) (hB : ¬ B0 x) (hZ : ¬ Z x) (ht : x ≠ bt) (hv : ¬ blk vt x) : JobGo hL B0 Q Z h' bj bf vf bt vt p q rv d y e n room w := by
 obtain ⟨⟨B, S, hb⟩, f⟩ := J
 exact ⟨⟨B, S.other u.fr (fun c hc he => hZ (he ▸ hc)) (fun c hc he => hB (he ▸ hb c (he ▸ hl) hc)) (S.img.fr u.fr (fun he => ht he.symm) fun c hc he => hv (he ▸ hc)) S.out, hb⟩, f.trans (u.fr.mono fun c _ hc => .inr (hc ▸ hx))⟩
theorem zqS (J : JobGo hL B0 Q Z h bj bf vf bt vt p q rv d y e n room w) (W : d.Wf) : FCall prog zaZ #[ptr bj] h fun r h' => r = moveV (stepK d y e) (stepJ d y e) ∧ Ext h h' := by
 obtain ⟨⟨B, S, hb⟩, f⟩ := J
 exact zpx S W
theorem JobGo.inv (J : JobGo hL B0 Q Z h bj bf vf bt vt p q rv d y e n room w) : d.t.y ≤ y ∧ y ≤ d.t.y + d.t.h ∧ (y < d.t.y + d.t.h → lnF d.s.y y ≤ e ∧ e ≤ lnE d.s.y y) := by
 obtain ⟨⟨B, S, hb⟩, f⟩ := J
 exact S.inv
theorem JobGo.out (J : JobGo hL B0 Q Z h bj bf vf bt vt p q rv d y e n room w) : OutOk d n ∧ IsImg h bt vt n ∧ IsImg h bf vf d.m := by
 obtain ⟨⟨B, S, hb⟩, f⟩ := J
 exact ⟨S.out, S.img, S.src⟩
theorem zqQ (J : JobGo hL B0 Q Z h bj bf vf bt vt p q rv d y e n room w) (W : d.Wf) (R : RoomOk d room w) : FCall prog zaH #[ptr bj] h fun r h' =>
  r = moveV (stepK d y e) (stepJ d y e) ∧ ∃ n', JobGo hL B0 Q Z h' bj bf vf bt vt p q rv d (stepY d y e) (stepE d y e) n' room w ∧ (∀ x, x < hL.size → ¬ blk vt x → ¬ B0 x → h'[x]? = h[x]?) ∧ (stepK d y e ≠ 2 → n' = n) ∧
   (stepK d y e = 2 → ∀ x' y' c', inP n x' y' c' → atP n' x' y' c' = if wrote d y w x' y' c' then pixZ d.m d.s x' y' c' else atP n x' y' c') := by
 obtain ⟨⟨B, S, hb⟩, f⟩ := J
 refine (c_Step S W R).mono fun r h' ⟨er, n', S', f', a1, a2⟩ => ⟨er, n', ⟨⟨_, S', fun c hc hg => ?_⟩, f.after f' fun c hc hm => .inl (hm.imp id (hb c hc))⟩, fun x hx hv hB => f'.2 x (Nat.lt_of_lt_of_le hx f.1) fun hh => hh.elim hv fun hh => hB (hb x hx hh), a1, a2⟩
 rcases hg with hg | hg
 ·exact hb c hc hg
 ·have := f.1; omega
theorem JobGo.trans {g : Heap} {B : Nat → Prop} (f : Fr (fun c => (blk vt c ∨ B0 c) ∨ Q c) hL g) (hb : ∀ c, c < hL.size → B c → B0 c) (J : JobGo g B noQ Z h bj bf vf bt vt p q rv d y e n room w) : JobGo hL B0 Q Z h bj bf vf bt vt p q rv d y e n room w := by
 obtain ⟨⟨B', S', hb'⟩, f'⟩ := J
 exact ⟨⟨B', S', fun c hc h' => hb c hc (hb' c (Nat.lt_of_lt_of_le hc f.1) h')⟩, f.after f' fun c hc hm => hm.elim (fun hm => .inl (hm.imp id (hb c hc))) fun hm => hm.elim⟩
theorem JobGo.tbl (J : JobGo hL B0 Q Z h bj bf vf bt vt p q rv d y e n room w) : IsTbl Z h p d.s.x ∧ IsTbl Z h q d.s.y := by
 obtain ⟨⟨B, ⟨⟨M, rs, J, a, b⟩, _⟩, hb⟩, f⟩ := J
 exact ⟨J.tx, J.ty⟩
theorem zqR (J : JobGo hL B0 Q Z h bj bf vf bt vt p q rv d y e n room w) (W : d.Wf) (R : RoomOk d room w) : FCall prog zbp #[ptr bj] h fun r h' =>
  r = .int .i64 (leftZ d y e : Nat) ∧ ∃ y' e' n', d.t.y + d.t.h ≤ y' ∧ JobGo hL B0 Q Z h' bj bf vf bt vt p q rv d y' e' n' room w ∧ ∀ n0, OutOk d n0 → Wrote d n0 n y → Wrote d n0 n' (d.t.y + d.t.h) := by
 obtain ⟨⟨B, S, hb⟩, f⟩ := J
 refine (c_Run S W R).mono fun r h' ⟨er, y', e', n', h1, S', f', H'⟩ => ⟨er, y', e', n', h1, ⟨⟨_, S', fun c hc hg => ?_⟩, f.after f' fun c hc hm => .inl (hm.imp id (hb c hc))⟩, H'⟩
 rcases hg with hg | hg
 ·exact hb c hc hg
 ·have := f.1; omega
theorem c_goHeld (J : JobGo hL B0 Q Z h bj bf vf bt vt p q rv d y e n room w) : FCall prog zcF #[ptr bj] h fun r h' => (∃ k : Nat, r = .int .i64 (k : Int) ∧ k ≤ room) ∧ h' = h := by
 obtain ⟨⟨B, S, hb⟩, f⟩ := J
 exact c_jobHeld S
end
theorem WNew.go {Z : Nat → Prop} {h : Heap} {bf : Nat} {vf : Value} {bt : Nat} {vt p q : Value} {m n : Pic} {s : Stg} {t : TileD} {r : Value} {h' : Heap} (H : WNew Z h bf vf bt vt p q m n s t r h') (hc : wnewC m n s t = 0) :
  ∃ bj rv, r = .tuple #[ptr bj, .int .i64 0] ∧ Ext h h' ∧ JobSt Z (Grow (fun _ => False) h h') h' bj bf vf bt vt p q rv ⟨m, s, t⟩ t.y (lnF s.y t.y) n (roomN (mostL s.y.lines)) (zcR (t.w * m.c)) := by
 obtain ⟨e, v, er, _, H⟩ := H
 obtain ⟨bj, rv, rfl, J⟩ := H hc
 exact ⟨bj, rv, by rw [er, hc], e, J⟩
theorem tile_self (t : TileD) : binV (.st [(0, 1, .i), (1, 4, (.st [(0, 1, .i), (1, 1, .i), (2, 1, .i), (3, 1, .i)])), (5, 1, .i), (6, 1, .i), (7, 1, .i), (8, 1, .i), (9, 1, .i)]) .neq (.agg (tileC t).toArray) (.agg (tileC t).toArray) = some (.bool false) := by
 simp [binV, eqV, seEqL, seEq, seAgg, tileC]
theorem BgOk.dims {a : PicA} {o : OpD} (H : BgOk a o) {x y w hh : Int} (hx : B8 x) (hy : B8 y) (hw : B8 w) (hhh : B8 hh) : 0 ≤ (bgT (bgS a o) x y w hh).x ∧ 0 ≤ (bgT (bgS a o) x y w hh).y ∧ 1 ≤ (bgT (bgS a o) x y w hh).w ∧ 1 ≤ (bgT (bgS a o) x y w hh).h ∧
  (bgT (bgS a o) x y w hh).x + (bgT (bgS a o) x y w hh).w ≤ (bgS a o).x.lines.length ∧ (bgT (bgS a o) x y w hh).y + (bgT (bgS a o) x y w hh).h ≤ (bgS a o).y.lines.length := by
 have h1 := H.within hx hy hw hhh
 unfold zaY at h1
 omega
theorem zqT {h : Heap} (G : GlobB h) {cs os : List Value} {a : PicA} {o : OpD} (A : zoi h cs os a o) {x y w hh : Int} (hx : B8 x) (hy : B8 y) (hw : B8 w) (hhh : B8 hh) :
  FCall prog zc7 #[.agg cs.toArray, .agg os.toArray, .int .u8 x, .int .u8 y, .int .u8 w, .int .u8 hh] h fun r h' => r = .bool true ∧ Ext h h' := by
 apply ziP
 unfold zeE
 refine open17 G A hx hy hw hhh (fun h' e => ⟨rfl, e⟩) fun h1 b Z bf vf bt vt p q X Y U => ?_
 have hdm := U.ok.dims hx hy hw hhh
 have hcc := U.ok.newc hx hy hw hhh
 have hwi := U.ok.within hx hy hw hhh
 generalize ht : bgT (bgS a o) x y w hh = t at *
 have OK := U.ok.stg
 have hm1 := U.ok.most1
 have hsx := U.ok.sx
 have hsy := U.ok.sy
 have nwf := U.ok.nwf
 have mwf := zeL a
 generalize hS : bgS a o = s at *
 generalize hM : drawA a = m at *
 generalize hN : bgN a o = n at *
 have r1 := U.row
 rw [hS] at r1
 have S1 := U.set
 rw [hS, hM, hN] at S1
 have R1 := U.ref
 rw [hS] at R1
 have hf := zbn mwf.fits
 have c0 : zah h1 ⟨b, 0, none⟩ = some (ptr bf) := zac r1
 have c1 : zah h1 ⟨b, 1, none⟩ = some (ptr bt) := zac r1
 simp only [go_sem, Nat.zero_add, c0, c1]
 rw [zaM r1 2 3 [p, q, .int .i64 s.border] rfl rfl, zaa, zaM r1 10 10 (tileC t) rfl rfl, zaa]
 refine (zjC (G.ext U.ext) S1 mwf nwf OK.wf).mono fun r h2 HW => ?_
 obtain ⟨bj, rv, er, e2, J⟩ := HW.go hcc
 subst er
 have E2 := U.ext.trans e2
 have r2 := e2.row r1
 have R := OK.room (m := m) (n := n) (t := t) mwf hcc
 have WJ := zmk (t := t) mwf OK.wf hcc
 simp only [go_sem, eqT, zo6]
 refine zak (Ext h2) (Ext.refl _) ?_
 try simp only [go_sem, Nat.zero_add]
 refine zae (.agg (tileC t).toArray) (fun h' e => zaM (e.row r2) 10 10 (tileC t) rfl rfl) ?_
 try simp only [go_sem, Nat.zero_add]
 refine FCall.to (c_jobTile J) fun h3 e3 => ?_
 refine ⟨e3, ?_⟩
 rw [tile_self]
 simp only [go_sem, Nat.zero_add]
 refine zae q (fun h' e => zac (e.row r2)) ?_
 try simp only [go_sem, Nat.zero_add]
 refine zae (.int .i64 t.w) (fun h' e => zac (e.row r2)) ?_
 try simp only [go_sem, Nat.zero_add]
 refine zae (ptr bf) (fun h' e => zac (e.row r2)) ?_
 try simp only [go_sem, Nat.zero_add]
 have E23 := e2.trans e3
 refine FCall.at (c_jobWords (J.ext e3)) ?_
 refine ⟨e3, ?_⟩
 refine FCall.at (zpz (S1.ty.ext E23)) ?_
 refine ⟨e3, ?_⟩
 have hmo := OK.most
 have hwc : 0 ≤ t.w * m.c ∧ t.w * m.c ≤ 12 * 3 := ⟨Int.mul_nonneg (by omega) (by omega), Int.mul_le_mul (by omega) hf.2.2.2.2.2.1 (by omega) (by omega)⟩
 have hmw : 0 ≤ mostL s.y.lines * t.w ∧ mostL s.y.lines * t.w ≤ 65536 * 12 := ⟨Int.mul_nonneg (by omega) (by omega), Int.mul_le_mul (by omega) (by omega) (by omega) (by omega)⟩
 have hmwc : 0 ≤ mostL s.y.lines * t.w * m.c ∧ mostL s.y.lines * t.w * m.c ≤ 65536 * 12 * 3 := ⟨Int.mul_nonneg (by omega) (by omega), Int.mul_le_mul (by omega) hf.2.2.2.2.2.1 (by omega) (by omega)⟩
 simp only [go_sem]
 rw [w64 (n := mostL s.y.lines * t.w) (by omega) (by omega)]
 refine FCall.at (zbb (S1.src.ext E23)) ?_
 refine ⟨e3, ?_⟩
 simp only [go_sem]
 rw [w64 (n := mostL s.y.lines * t.w * m.c) (by omega) (by omega)]
 have hwords : ((roomN (mostL s.y.lines) : Nat) : Int) * ((zcR (t.w * m.c) : Nat) : Int) = mostL s.y.lines * t.w * m.c := by
  rw [show ((roomN (mostL s.y.lines) : Nat) : Int) = mostL s.y.lines by unfold roomN; omega, show ((zcR (t.w * m.c) : Nat) : Int) = t.w * m.c by unfold zcR; omega, Int.mul_assoc]
 rw [hwords]
 simp only [go_sem, eqT]
 have E3 := E2.trans e3
 have r3 := e3.row r2
 rw [zaM r3 5 5 [X, Y, .int .i64 s.x.n, .int .i64 s.y.n, .int .i64 s.border] rfl rfl, zaa]
 have k11 : zah h3 ⟨b, 12, none⟩ = some (.int .i64 t.y) := zac r3
 have k14 : zah h3 ⟨b, 14, none⟩ = some (.int .i64 t.h) := zac r3
 simp only [go_sem, Nat.zero_add, k11, k14]
 refine (c_r17Steps (m := m) (t := t) (rStg.ext R1 E23) OK (by omega) (by omega) (by omega)).mono fun wv h4 N4 => ?_
 have e4 := N4.2.1
 have r4 := e4.row r3
 rw [zaM r4 2 3 [p, q, .int .i64 s.border] rfl rfl, zaa, zaM r4 10 10 (tileC t) rfl rfl, zaa]
 have S4 := S1.ext (E23.trans e4)
 refine FCall.to (zqV m S4.tx S4.ty OK) fun h5 e5 => ?_
 rw [if_pos hwi]
 obtain ⟨d, hd⟩ : ∃ d : JobD, d = ⟨m, s, t⟩ := ⟨_, rfl⟩
 have hml : ((zcw ⟨m, s, t⟩ t.y (lnF s.y t.y)).length : Int) = zev s t m := by rw [znI]; rfl
 obtain ⟨aw, cw, ew⟩ := N4.isSl
 have ew2 : zaf wv = some (.int .i64 (zev s t m : Nat)) := by rw [ew, ← hml]; rfl
 simp only [go_sem, ew2, eqT]
 have E5 := E3.trans (e4.trans e5)
 have J5 := JobGo.start (Q := noQ) (J.ext (e3.trans (e4.trans e5)))
 have r5 := e5.row r4
 rw [← hd] at J5 R WJ N4 hml
 have hbd : leftZ d t.y (lnF s.y t.y) ≤ 68719542272 := by
  rw [← hd] at J
  exact J.left_bd WJ
 have nz1 : ∀ c, Grow (fun _ => False) h1 h2 c → h1.size ≤ c ∧ c < h2.size := fun c hc => hc.elim (fun h => h.elim) id
 have hE1 := U.ext.1
 have hap : ¬ blk vt b ∧ ¬ Grow (fun _ => False) h1 h2 b := ⟨U.ap.2.2, fun hg => by have := nz1 b hg; have := zaB r1; omega⟩
 have hwv : ∀ c, blk wv c → ¬ ((blk vt c ∨ Grow (fun _ => False) h1 h2 c) ∨ noQ c) := fun c hc hh => by
  have hh := hh.resolve_right id
  have h7 := N4.2.2 c hc
  have h8 := E3.1
  have h9 := E2.1
  have h10 := E23.1
  rcases hh with hh | hh
  ·have := S1.out.ltv hh; omega
  ·have := nz1 c hh; have := e3.1; omega
 have fin : ∀ {g : Heap}, Fr (fun c => (blk vt c ∨ Grow (fun _ => False) h1 h2 c) ∨ noQ c) h5 g → Ext h g := fun f => E5.then_fr f fun c hc => by
  rcases hc.resolve_right id with hc | hc
  ·exact U.nt.2 c hc
  ·have := nz1 c hc; omega
 refine zaz (α := Int × Int × Pic) (zev s t m) 0 (fun i _ => [.int .i64 (i : Int)])
  (fun i a g => JobGo h5 (Grow (fun _ => False) h1 h2) noQ Z g bj bf vf bt vt p q rv d a.1 a.2.1 a.2.2 (roomN (mostL s.y.lines)) (zcR (t.w * m.c)) ∧ (zcw d t.y (lnF s.y t.y)).drop i = zcw d a.1 a.2.1)
  (t.y, lnF s.y t.y, n) rfl (Nat.zero_le _) ⟨J5, rfl⟩ fun i a g1 again ρ1 _ hi ⟨Jg, hmv⟩ Hag => ?_
 obtain ⟨y1, e1, n1⟩ := a
 have Jg : JobGo h5 (Grow (fun _ => False) h1 h2) noQ Z g1 bj bf vf bt vt p q rv d y1 e1 n1 (roomN (mostL s.y.lines)) (zcR (t.w * m.c)) := Jg
 have hmv : (zcw d t.y (lnF s.y t.y)).drop i = zcw d y1 e1 := hmv
 have hlN : (zcw d t.y (lnF s.y t.y)).length = zev s t m := by have := hml; omega
 have hsb : zev s t m ≤ 68719542272 := by rw [← hlN, znI]; exact hbd
 simp only [go_sem]
 refine zab (fun k1 => ?_) (fun k1 => ?_)
 ·have hi' : i < (zcw d t.y (lnF s.y t.y)).length := by omega
  have hk0 : stepK d y1 e1 ≠ 0 := fun h0 => by
   have := left_stepN h0
   rw [this] at hmv
   have := congrArg List.length hmv
   rw [List.length_drop] at this
   simp at this
   omega
  have hlt1 : y1 < d.t.y + d.t.h := by
   rcases Int.lt_or_le y1 (d.t.y + d.t.h) with h7 | h7
   ·exact h7
   ·exact absurd (by unfold stepK; rw [if_pos h7]) hk0
  have hms := moves_step hk0 (Jg.inv.2.2 hlt1).2
  have hget : (zcw d t.y (lnF s.y t.y))[i] = (stepK d y1 e1, stepJ d y1 e1) := by
   have h7 : ((zcw d t.y (lnF s.y t.y)).drop i)[0]? = some (stepK d y1 e1, stepJ d y1 e1) := by rw [hmv, hms]; rfl
   rw [List.getElem?_drop] at h7
   simpa [hi'] using h7
  have hnext : (zcw d t.y (lnF s.y t.y)).drop (i + 1) = zcw d (stepY d y1 e1) (stepE d y1 e1) := by
   rw [← List.drop_drop, hmv, hms]; rfl
  have Sw := (N4.sl.ext e5).fr Jg.fr fun c _ hc => hwv c hc
  obtain ⟨pi, ci, p1, p2, p3⟩ := Sw.atw (show 0 < 2 by omega) (k := .i64) hi'
  rw [hget] at p3
  have p3 : ci = [.int .i64 (stepK d y1 e1), .int .i64 (stepJ d y1 e1)] := p3
  subst p3
  have p1 : idxV 2 wv (.int .i64 (i : Int)) = some pi := p1
  have p2 : ldsV 2 g1 pi = some (.agg #[.int .i64 (stepK d y1 e1), .int .i64 (stepJ d y1 e1)]) := p2
  rw [p1, zaa, p2, zaa]
  refine zaR (cs := [.int .i64 (stepK d y1 e1), .int .i64 (stepJ d y1 e1)]) rfl (zad rfl (zad rfl zaq)) rfl fun b2 g2 q2 d2 m2 => ?_
  refine FCall.to (zqS (Jg.ext d2) WJ) fun g3 d3 => ?_
  refine zaR (cs := [.int .i64 (stepK d y1 e1), .int .i64 (stepJ d y1 e1)]) rfl (zad rfl (zad rfl zaq)) rfl fun b4 g4 q4 d4 m4 => ?_
  have D4 := d2.trans (d3.trans d4)
  have q24 := (d3.trans d4).row q2
  have rb := D4.row (Jg.row r5 hap.1 hap.2 id)
  obtain ⟨⟨Bc, Sc, hbc⟩, fc⟩ := Jg
  have Sc4 := Sc.ext D4
  have hn2 : ¬ ((blk vt b2 ∨ Bc b2) ∨ noQ b2) := fun hh => by
   rcases hh.resolve_right id with hh | hh
   ·have := Sc.img.ltv hh; omega
   ·have := Sc.bl _ hh; omega
  have hn4 : ¬ ((blk vt b4 ∨ Bc b4) ∨ noQ b4) := fun hh => by
   have h7 := (d2.trans d3).1
   rcases hh.resolve_right id with hh | hh
   ·have := Sc.img.ltv hh; omega
   ·have := Sc.bl _ hh; omega
  have hnb : ¬ ((blk vt b ∨ Bc b) ∨ noQ b) := fun hh => by
   rcases hh.resolve_right id with hh | hh
   ·exact hap.1 hh
   ·exact hap.2 (hbc b (zaB r5) hh)
  refine zak (GoFr vt Bc noQ g4) (Fr.refl _ _) ?_
  simp only [go_sem, Nat.zero_add]
  refine zae (.int .i64 (stepK d y1 e1)) (fun g e => zac (e.row q4 hn4)) ?_
  try simp only [go_sem, Nat.zero_add]
  refine zae (.int .i64 (stepK d y1 e1)) (fun g e => zac (e.row q24 hn2)) ?_
  simp only [go_sem, Nat.zero_add, eqT]
  refine zae (.int .i64 (stepJ d y1 e1)) (fun g e => zac (e.row q4 hn4)) ?_
  try simp only [go_sem, Nat.zero_add]
  refine zae (.int .i64 (stepJ d y1 e1)) (fun g e => zac (e.row q24 hn2)) ?_
  simp only [go_sem, Nat.zero_add, eqT]
  refine zae (moveV (stepK d y1 e1) (stepJ d y1 e1)) (fun g e => zal (l := [.int .i64 (stepK d y1 e1), .int .i64 (stepJ d y1 e1)]) (e.row q4 hn4) 2 rfl) ?_
  try simp only [go_sem, Nat.zero_add]
  refine (zqQ (JobGo.start (Q := noQ) Sc4) WJ R).mono fun r g5 ⟨er, n5, J6, _⟩ => ?_
  subst er
  refine ⟨J6.fr, ?_⟩
  rw [move_ne]
  simp only [go_sem, eqT, and_self, Nat.zero_add]
  refine zae q (fun g e => zac (e.row rb hnb)) ?_
  try simp only [go_sem, Nat.zero_add]
  refine (c_goHeld J6).mono fun r g6 ⟨⟨k, er, hk⟩, wq⟩ => ?_
  have wq := wq.symm
  subst er wq
  refine ⟨J6.fr, ?_⟩
  refine FCall.at (zpz (by have := J6.tbl.2; rw [hd] at this; exact this)) ?_
  have hle : ¬ mostL s.y.lines < (k : Int) := by unfold roomN at hk; omega
  simp only [go_sem, decide_eq_false hle]
  rw [w64 (by omega) (by omega)]
  exact Hag (stepY d y1 e1, stepE d y1 e1, n5) g5 (by omega) ⟨JobGo.trans (fc.trans D4.fr) hbc J6, hnext⟩
 ·have hiN : i = zev s t m := by omega
  subst hiN
  have hov : stepK d y1 e1 = 0 := by
   rw [List.drop_eq_nil_of_le (by omega)] at hmv
   refine left_pos.1 ?_
   rw [← znI, ← hmv]; rfl
  have hyo : d.t.y + d.t.h ≤ y1 := by
   unfold stepK at hov
   by_cases h7 : d.t.y + d.t.h ≤ y1
   ·exact h7
   ·rw [if_neg h7] at hov; split at hov <;> cases hov
  have hj0 : stepJ d y1 e1 = 0 := by unfold stepJ; rw [if_pos hyo]
  have hY : stepY d y1 e1 = y1 := by unfold stepY; rw [if_neg (by omega)]
  have hEe : stepE d y1 e1 = e1 := by unfold stepE; rw [if_neg (by omega), if_neg (by omega)]
  have hf0 : fillL #[(.int .i64 0), (.int .i64 0)] [] = some #[.int .i64 0, .int .i64 0] := rfl
  refine FCall.to (zqS Jg WJ) fun g2 d2 => ?_
  rw [hov, hj0, hf0, zaA, zaa, zqw]
  simp only [go_sem, eqT, and_self]
  refine (zqQ (Jg.ext d2) WJ R).mono fun r g3 ⟨er, n3, J3, _⟩ => ?_
  subst er
  rw [hY, hEe] at J3
  rw [hov, hj0]
  simp only [go_sem, hf0, zaA, zqw, eqT, and_self]
  refine (zqR J3 WJ R).mono fun r g4 ⟨er, y4, e4', n4, _, J4, _⟩ => ?_
  subst er
  rw [znR hyo]
  have h00 : (((0 : Nat) : Int) = 0) = True := eq_true rfl
  simp only [go_sem, h00]
  exact ⟨by simp, fin J4.fr⟩
end
end Go.Proofs.YtojmncnelbnceaaGreatDoor
