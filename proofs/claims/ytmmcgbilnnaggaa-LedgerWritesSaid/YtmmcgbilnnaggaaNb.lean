/- The ring's deeds: a row is gone, a row to write into. Conditions: none. -/
import Derived.Test.YtmmcgbilnnaggaaNa
set_option linter.unusedVariables false
set_option linter.unusedSimpArgs false
namespace Go.Proofs.Ytmmcgbilnnaggaa
open Go Go.Crisp
attribute [local irreducible] FCall rowK newK stK iteK vK qK drawK gK joinK loopK mkK appK cpyK mapPutK mapDelK newmK

theorem kDel_len {α : Type} {j : Int} {p : α} {es : List (Int × α)} (hg : kGet j es = some p) : (kDel j es).length + 1 = es.length := by
  have := (kDel_perm hg).length_eq
  simpa using this.symm
theorem sl_oneV {h : Heap} {v : Value} {l : List Int} (o : OwnI h v l) : oneCell v = true := own_one o

theorem c_drop {M : Nat → Prop} {h : Heap} {bx bm : Nat} {fr : Value} {t : TypeId} {room w : Nat} {es : List (Int × (Value × List Int))} {fv : List (Value × List Int)} (R : RingAt M h bx bm fr t room w es fv []) {j : Int} {p : Value × List Int} (hg : kGet j es = some p) :
    FCall Try.prog F_ring_Ring_drop #[.pointer (some ⟨bx, 0, none⟩), .int .i64 j] h fun _ h' => ∃ M' fr', RingAt M' h' bx bm fr' t room w (kDel j es) (fv ++ [p]) [] ∧ Fr M h h' ∧ (∀ k, M' k → M k ∨ h.size ≤ k) ∧
      ∀ es0 c, h[bm]? = some (.map es0 c) → ∃ es1, h'[bm]? = some (.map es1 c) ∧ ∀ e ∈ es1, e ∈ es0 ∧ e.key ≠ .int .i64 j := by
  apply ok_ring_Ring_drop
  unfold sh_ring_Ring_drop
  refine drawK_of (fun hh => hh[bx]? = some (.cells #[.int .i64 room, .int .i64 w, .map (some bm), fr] t (0, 0)) ∧ hh[bm]? = h[bm]?) ⟨R.var, rfl⟩ ?_
  try simp only [go_sem]
  refine qK_val fr (fun hh S => by rw [cell_row S.1]; rfl) ?_
  refine qK_val (.map (some bm)) (fun hh S => by rw [cell_row S.1]; rfl) ?_
  refine qK_val p.1 (fun hh S => by rw [look_map (R.map.row S.2), kGet_map, hg]; rfl) ?_
  have hmem : p ∈ es.map Prod.snd ++ fv ++ [] := by simp; exact .inl ⟨j, kGet_mem hg⟩
  have hp := R.bag.own p hmem
  have hp1 := own_one hp.1
  refine rowK_use (Rp.fill_one hp1) fun b1 h1 r1 e1 n1 => ?_
  have lbx := row_lt R.var
  have lbm := R.map.lt
  refine ⟨⟨e1.row R.var, e1.2 bm lbm⟩, ?_⟩
  have S1 := Rp.SlC.single (cs := [p.1]) r1
  have hnum := R.nums
  have htot := R.tot
  simp only [List.length_nil, Nat.add_zero] at htot
  refine appK_own (R.free.fr (M := fun _ => False) e1.fr fun _ _ => id) S1 (ones_cons hp1 ones_nil) rfl (by omega) (by omega) fun fr' h2 o2 f2 n2 => ?_
  have v2 := f2.row (e1.row R.var) R.ap.2.1
  have m2 : h2[bm]? = h[bm]? := (f2.2 bm (Nat.lt_of_lt_of_le lbm e1.1) R.ap.2.2).trans (e1.2 bm lbm)
  refine ⟨⟨v2, m2⟩, ?_⟩
  have frbx : ∀ k, blk fr' k → k ≠ bx ∧ k ≠ bm := fun k hk => by
    rcases n2 k hk with h3 | h3
    · exact ⟨fun h4 => R.ap.2.1 (h4 ▸ h3), fun h4 => R.ap.2.2 (h4 ▸ h3)⟩
    · have := e1.1; exact ⟨by omega, by omega⟩
  obtain ⟨fa, fc, rfl⟩ : ∃ a c, fr' = .slice a (fv.length + 1) c := o2.isSl
  try simp only [go_sem]
  refine st_cell (o := 3) v2 (by simp) rfl fun h3 r3 u3 => ?_
  have r3 : h3[bx]? = some (.cells #[.int .i64 room, .int .i64 w, .map (some bm), .slice fa (fv.length + 1) fc] t (0, 0)) := r3
  have m3 : h3[bm]? = h[bm]? := (u3.2 bm (Ne.symm R.ap.1)).trans m2
  simp only [go_sem, cell_row r3]
  refine del_map' (R.map.row m3) fun h4 m4 u4 d4 => ?_
  have f04 : Fr (fun k => M k) h h4 := ((e1.fr.trans (f2.mono fun k _ hk => R.inM.2.2 k hk)).trans (u3.fr.mono fun k _ hk => by rw [show k = bx from hk]; exact R.inM.1)).trans (u4.fr.mono fun k _ hk => by rw [show k = bm from hk]; exact R.inM.2.1)
  have fbx : ∀ k, M k → k < h.size := R.lt
  have hperm : (((kDel j es).map Prod.snd ++ (fv ++ [p])) ++ []).Perm (es.map Prod.snd ++ fv ++ []) := by
    have h5 := (kDel_perm hg).map Prod.snd
    rw [List.map_cons] at h5
    rw [List.append_nil, List.append_nil, ← List.append_assoc]
    exact (List.perm_append_comm (l₁ := (kDel j es).map Prod.snd ++ fv) (l₂ := [p])).trans (h5.symm.append_right fv)
  have hblk : ∀ q ∈ es.map Prod.snd ++ fv ++ [], ∀ k, blk q.1 k → k ≠ bx ∧ k ≠ bm ∧ ¬ blk fr k ∧ M k := fun q hq => (R.bag.own q hq).2.2
  have bag4 : Bag M h4 bx bm fr w (es.map Prod.snd ++ fv ++ []) := by
    refine (((R.bag.ext e1).fr f2 fun q hq k hk => (hblk q hq k hk).2.2.1).fr u3.fr fun q hq k hk => (hblk q hq k hk).1).fr u4.fr fun q hq k hk => (hblk q hq k hk).2.1
  refine ⟨fun k => M k ∨ blk (.slice fa (fv.length + 1) fc) k, .slice fa (fv.length + 1) fc, ?_, f04, fun k hk => ?_, ?_⟩
  · exact {
      var := u4.row (fun h => R.ap.1 h) r3
      map := by rw [kDel_map] at m4; exact m4
      free := by
        have := (o2.fr u3.fr fun k hk => (frbx k hk).1).fr u4.fr fun k hk => (frbx k hk).2
        rw [List.length_append, List.map_append]
        exact this
      bag := (bag4.mono (fun k hk => .inl hk) fun q hq k hk hk' => by
        rcases n2 k hk' with h5 | h5
        · exact (hblk q hq k hk).2.2.1 h5
        · have := R.lt k (hblk q hq k hk).2.2.2; have := e1.1; omega).perm hperm
      ap := ⟨R.ap.1, fun hk => (frbx _ hk).1 rfl, fun hk => (frbx _ hk).2 rfl⟩
      inM := ⟨.inl R.inM.1, .inl R.inM.2.1, fun k hk => .inr hk⟩
      lt := fun k hk => by
        rcases hk with hk | hk
        · exact Nat.lt_of_lt_of_le (R.lt k hk) f04.1
        · have := o2.lt hk; have := u3.1; have := u4.1; omega
      nums := R.nums
      keys := fun e he => R.keys e (kDel_sub.subset he)
      len := by have := kDel_len hg; have := R.len; omega
      tot := by have := kDel_len hg; simp; omega }
  · rcases hk with hk | hk
    · exact .inl hk
    · rcases n2 k hk with h5 | h5
      · exact .inl (R.inM.2.2 k h5)
      · exact .inr (Nat.le_trans e1.1 h5)
  · intro es0 c hb0
    exact d4 es0 c (m3.trans hb0)

/-- A row of one's own without its last element. -/
theorem Own.shrink {h : Heap} {v : Value} {n : Nat} {cs : List Value} (H : Own 1 h v n cs) (hn : 0 < n) : ∃ v', slcV 1 v none (some (.int .i64 ((n - 1 : Nat) : Int))) = some v' ∧ Own 1 h v' (n - 1) cs.dropLast ∧ (∀ k, blk v' k → blk v k) := by
  rcases H with ⟨rfl, rfl, rfl⟩ | ⟨b, cap, r, e, rfl, hc, hl, hr, hb⟩
  · omega
  · have hne : cs ≠ [] := fun h0 => by rw [h0] at hl; simp at hl; omega
    refine ⟨.slice (some ⟨b, 0, none⟩) (n - 1) cap, ?_, .inr ⟨b, cap, cs.getLast hne :: r, e, rfl, by omega, by simp; omega, ?_, ?_⟩, fun k hk => hk⟩
    · have h1 : (0 : Int) ≤ ((n - 1 : Nat) : Int) ∧ ((n - 1 : Nat) : Int) ≤ (cap : Int) := by omega
      have h2 : ¬ cap = 0 := by omega
      simp only [slcV, bdV, if_pos h1, Int.toNat_natCast, if_neg h2, Option.map_some, add_lit, Nat.sub_zero, Nat.zero_mul, Nat.add_zero]
    · rw [← hr]
      conv => rhs; rw [← List.dropLast_concat_getLast hne]
      simp
    · rw [hb]
      conv => lhs; rw [← List.dropLast_concat_getLast hne]
      simp

/-- The last one is written. -/
theorem Bag.last {M : Nat → Prop} {h h' : Heap} {bx bm : Nat} {fr : Value} {w : Nat} {all : List (Value × List Int)} {u : Value} {l0 l : List Int} (B : Bag M h bx bm fr w (all ++ [(u, l0)])) (f : Fr (blk u) h h') (o : OwnI h' u l) (hl : l.length = w) : Bag M h' bx bm fr w (all ++ [(u, l)]) where
  own := fun p hp => by
    rcases List.mem_append.1 hp with hp | hp
    · have h1 := B.own p (List.mem_append_left _ hp)
      have h2 := (List.pairwise_append.1 B.apart).2.2 p hp (u, l0) (by simp)
      exact ⟨h1.1.fr f fun k hk => h2 k hk, h1.2⟩
    · rw [List.mem_singleton.1 hp]
      exact ⟨o, hl, (B.own (u, l0) (by simp)).2.2⟩
  apart := by
    have h1 := List.pairwise_append.1 B.apart
    refine List.pairwise_append.2 ⟨h1.1, by simp, fun a ha b hb => ?_⟩
    rw [List.mem_singleton.1 hb]
    exact h1.2.2 a ha (u, l0) (by simp)

theorem c_space {M : Nat → Prop} {h : Heap} {bx bm : Nat} {fr : Value} {t : TypeId} {room w : Nat} {es : List (Int × (Value × List Int))} {fv : List (Value × List Int)} (R : RingAt M h bx bm fr t room w es fv []) (h1 : es.length < room) (h2 : es.length + fv.length ≤ room) :
    FCall Try.prog F_ring_Ring_space #[.pointer (some ⟨bx, 0, none⟩)] h fun u h' => ∃ M' fr' fv' l0, RingAt M' h' bx bm fr' t room w es fv' [(u, l0)] ∧ Fr M h h' ∧ (∀ k, M' k → M k ∨ h.size ≤ k) ∧ es.length + 1 + fv'.length ≤ room := by
  apply ok_ring_Ring_space
  unfold sh_ring_Ring_space
  have hnum := R.nums
  obtain ⟨fa, fc, rfl⟩ := R.free.isSl
  simp only [go_sem, cell_row R.var]
  refine iteK_dec (fun hp => ?_) (fun hz => ?_)
  · have hp : 0 < fv.length := by omega
    have hsub : IntKind.i64.wrap ((fv.length : Int) - 1) = ((fv.length - 1 : Nat) : Int) := by rw [w64 (by omega) (by omega)]; omega
    obtain ⟨p, hp1, hq1⟩ := R.free.sl.at1 (k := .i64) (i := fv.length - 1) (by omega)
    obtain ⟨v', hv', ov', bv'⟩ := Own.shrink R.free hp
    rw [hsub, hp1, vK_some, hq1, vK_some, hv', vK_some]
    have hne : fv ≠ [] := List.length_pos_iff.1 hp
    have hlast : (fv.map Prod.fst)[fv.length - 1]'(by simp; omega) = (fv.getLast hne).1 := by
      rw [List.getElem_map]; congr 1
      rw [List.getLast_eq_getElem]
    rw [hlast]
    refine st_cell (o := 3) R.var (by simp) (by obtain ⟨_, _, rfl⟩ := ov'.isSl; rfl) fun h3 r3 u3 => ?_
    have r3 : h3[bx]? = some (.cells #[.int .i64 room, .int .i64 w, .map (some bm), v'] t (0, 0)) := r3
    have hdl : fv.dropLast.map Prod.fst = (fv.map Prod.fst).dropLast := by simp
    refine ⟨M, v', fv.dropLast, (fv.getLast hne).2, ?_, u3.fr.mono fun k _ hk => by rw [show k = bx from hk]; exact R.inM.1, fun k hk => .inl hk, by simp; omega⟩
    have hbx : ∀ k, blk v' k → k ≠ bx := fun k hk hkb => R.ap.2.1 (hkb ▸ bv' k hk)
    have hperm : (es.map Prod.snd ++ fv.dropLast ++ [fv.getLast hne]).Perm (es.map Prod.snd ++ fv ++ []) := by
      rw [List.append_assoc, List.dropLast_concat_getLast hne, List.append_nil]
    exact {
      var := r3
      map := R.map.row (u3.2 bm (Ne.symm R.ap.1))
      free := by rw [List.length_dropLast, hdl]; exact ov'.fr u3.fr fun k hk => hbx k hk
      bag := ((R.bag.fr u3.fr fun q hq k hk => ((R.bag.own q hq).2.2 k hk).1).mono (fun k hk => hk) fun q hq k hk hk' => ((R.bag.own q hq).2.2 k hk).2.2.1 (bv' k hk')).perm hperm
      ap := ⟨R.ap.1, fun hk => R.ap.2.1 (bv' _ hk), fun hk => R.ap.2.2 (bv' _ hk)⟩
      inM := ⟨R.inM.1, R.inM.2.1, fun k hk => R.inM.2.2 k (bv' k hk)⟩
      lt := fun k hk => by rw [u3.1]; exact R.lt k hk
      nums := R.nums, keys := R.keys, len := R.len
      tot := by simp; omega }
  · have hfv : fv = [] := List.eq_nil_of_length_eq_zero (by omega)
    subst hfv
    refine mkK_own rfl (by omega) (by omega) fun u h3 o3 e3 n3 => ?_
    have o3' : OwnI h3 u (List.replicate w 0) := by
      unfold OwnI; rw [List.length_replicate, List.map_replicate]; exact o3
    have R3 := R.fr (Q := fun _ => False) e3.fr fun _ _ _ => id
    refine ⟨fun k => M k ∨ blk u k, .slice fa ([] : List (Value × List Int)).length fc, [], List.replicate w 0, ?_, e3.fr, fun k hk => hk.imp id (n3 k), by simp; omega⟩
    have hu : ∀ k, blk u k → ¬ M k := fun k hk hm => by have := R.lt k hm; have := n3 k hk; omega
    exact { R3 with
      bag := by
        refine ⟨fun q hq => ?_, ?_⟩
        · rcases List.mem_append.1 hq with hq | hq
          · have h5 := R3.bag.own q (by simpa using hq)
            exact ⟨h5.1, h5.2.1, fun k hk => ⟨(h5.2.2 k hk).1, (h5.2.2 k hk).2.1, (h5.2.2 k hk).2.2.1, .inl (h5.2.2 k hk).2.2.2⟩⟩
          · rw [List.mem_singleton.1 hq]
            exact ⟨o3', by simp, fun k hk => ⟨fun h => hu k hk (h ▸ R.inM.1), fun h => hu k hk (h ▸ R.inM.2.1), fun h => hu k hk (R.inM.2.2 k h), .inr hk⟩⟩
        · refine List.pairwise_append.2 ⟨by simpa using R3.bag.apart, by simp, fun a ha b hb k hk hk' => ?_⟩
          rw [List.mem_singleton.1 hb] at hk'
          exact hu k hk' ((R3.bag.own a (by simpa using ha)).2.2 k hk).2.2.2
      inM := ⟨.inl R.inM.1, .inl R.inM.2.1, fun k hk => .inl (R.inM.2.2 k hk)⟩
      lt := fun k hk => by
        rcases hk with hk | hk
        · exact R3.lt k hk
        · exact o3.lt hk
      tot := by simp; omega }

def fullB (room : Nat) (rs : List (Int × List Int)) : Bool := decide (room ≤ rs.length)
def putOk (room w : Nat) (rs : List (Int × List Int)) (j : Int) (l : List Int) : Bool := decide (l.length = w) && ((kGet j rs).isNone && !(fullB room rs && decide (j < minL (rs.map Prod.fst))))
def roomFor (room : Nat) (rs : List (Int × List Int)) : List (Int × List Int) := if fullB room rs = true then kDel (minL (rs.map Prod.fst)) rs else rs
def putR (room w : Nat) (rs : List (Int × List Int)) (j : Int) (l : List Int) : List (Int × List Int) := if putOk room w rs j l = true then roomFor room rs ++ [(j, l)] else rs

theorem minL_mem {l : List Int} (h : l ≠ []) : minL l ∈ l := by
  have key : ∀ (l : List Int) (x : Int), l.foldl min x ∈ x :: l := by
    intro l
    induction l with
    | nil => intro x; simp
    | cons z l ih =>
      intro x
      rw [List.foldl_cons]
      rcases List.mem_cons.1 (ih (min x z)) with h2 | h2
      · rw [h2]
        rcases Int.le_total x z with hxz | hxz
        · rw [Int.min_eq_left hxz]; simp
        · rw [Int.min_eq_right hxz]; simp
      · exact List.mem_cons_of_mem _ (List.mem_cons_of_mem _ h2)
  cases l with
  | nil => exact absurd rfl h
  | cons x l => exact key l x

theorem c_RPut {M : Nat → Prop} {h : Heap} {v u : Value} {room w : Nat} {rs : List (Int × List Int)} (H : IsRing M h v room w rs) {j : Int} (hj : (Lit.int .i64 j).wf = true) {l : List Int} (hu : Ints h u l) (hul : l.length ≤ 9223372036854775807) (hn : ∀ b, blk u b → ¬ M b) :
    FCall Try.prog F_ring_Ring_Put #[v, .int .i64 j, u] h fun r h' => r = .bool (putOk room w rs j l) ∧ ∃ M', IsRing M' h' v room w (putR room w rs j l) ∧ Fr M h h' ∧ ∀ k, M' k → M k ∨ h.size ≤ k := by
  have H0 := H
  have hnd := H.nodup
  have hnum := H.nums
  have hfirst := fun h' (e : Ext h h') => c_RFirst (H.ext e)
  obtain ⟨bx, bm, fr, t, es, fv, rfl, R, hrs, hlen⟩ := H
  apply ok_ring_Ring_Put
  unfold sh_ring_Ring_Put
  have hu0 := hu
  obtain ⟨ua, uc, rfl, _⟩ := hu
  have no : putOk room w rs j l = false → ∀ h', Ext h h' → ∃ M', IsRing M' h' (.pointer (some ⟨bx, 0, none⟩)) room w (putR room w rs j l) ∧ Fr M h h' ∧ ∀ k, M' k → M k ∨ h.size ≤ k := fun hp h' e =>
    ⟨M, by unfold putR; rw [hp]; exact H0.ext e, e.fr, fun k hk => .inl hk⟩
  by_cases hw : l.length = w
  · have hw' : (l.length : Int) = (w : Int) := by omega
    simp only [go_sem, cell_row R.var, hw']
    refine (c_RHas H0 j).mono ?_
    rintro _ h1 ⟨rfl, hh⟩
    subst hh
    try simp only [go_sem]
    cases hg : kGet j rs with
    | some q =>
      simp only [Option.isSome_some, go_sem]
      have hp : putOk room w rs j l = false := by simp [putOk, hg]
      exact ⟨by rw [hp], no hp _ (Ext.refl _)⟩
    | none =>
      simp only [Option.isSome_none, go_sem]
      refine joinK_intro (fun xs h' => xs = [] ∧ putOk room w rs j l = true ∧ ∃ M' fr' es' fv', RingAt M' h' bx bm fr' t room w es' fv' [] ∧ es'.length < room ∧ es'.length + fv'.length ≤ room ∧ kMap Prod.snd es' = roomFor room rs ∧ Fr M h1 h' ∧ ∀ k, M' k → M k ∨ h1.size ≤ k) ?_ ?_
      · refine (c_RFirst H0).mono ?_
        rintro _ h2 ⟨rfl, e2⟩
        have R2 := R.fr (Q := fun _ => False) e2.fr fun _ _ _ => id
        have hll : (kMap Prod.fst es).length = rs.length := by rw [hrs]; simp [kMap]
        simp only [go_sem, cell_row R2.var, len_map R2.map, hll]
        refine iteK_dec (fun hfull => ?_) (fun hnot => ?_)
        · have hfull : room ≤ rs.length := by omega
          have hf : fullB room rs = true := by simp [fullB, hfull]
          refine iteK_dec (fun hlt => ?_) (fun hge => ?_)
          · have hp : putOk room w rs j l = false := by simp [putOk, hf, hlt]
            exact ⟨by rw [hp], no hp _ e2⟩
          · have hp : putOk room w rs j l = true := by simp [putOk, hf, hge, hg, hw]
            have hne : rs.map Prod.fst ≠ [] := fun h0 => by
              have := congrArg List.length h0
              simp at this
              rw [this] at hfull; simp at hfull; omega
            have hmem := minL_mem hne
            generalize hm : minL (rs.map Prod.fst) = m at hmem
            have hk : ∃ p, kGet m es = some p := by
              cases hc : kGet m es with
              | some p => exact ⟨p, rfl⟩
              | none =>
                have := kGet_none.1 hc
                rw [hrs, kMap_keys] at hmem
                exact absurd hmem this
            obtain ⟨p, hk⟩ := hk
            refine (c_drop R2 hk).mono ?_
            rintro _ h3 ⟨M', fr', R3, f3, n3, _⟩
            have hdl := kDel_len hk
            have hel : es.length = rs.length := by rw [hrs]; simp [kMap]
            refine ⟨trivial, hp, M', fr', kDel m es, fv ++ [p], R3, by have := R.len; omega, by simp; omega, ?_, e2.fr.trans f3, fun k hk => (n3 k hk).imp id fun h5 => Nat.le_trans e2.1 h5⟩
            unfold roomFor
            rw [if_pos hf, hm, hrs, kDel_map]
        · have hnot : ¬ room ≤ rs.length := by omega
          have hf : fullB room rs = false := by simp [fullB]; omega
          have hel : es.length = rs.length := by rw [hrs]; simp [kMap]
          refine ⟨trivial, by simp [putOk, hf, hg, hw], M, fr, es, fv, R2, by omega, hlen, ?_, e2.fr, fun k hk => .inl hk⟩
          unfold roomFor
          rw [hf]; exact hrs.symm
      · rintro _ ρj h2 ⟨rfl, hp, M2, fr2, es2, fv2, R2, l2, t2, hk2, f2, n2⟩
        refine (c_space R2 l2 t2).mono ?_
        rintro x h3 ⟨M3, fr3, fv3, l0, R3, f3, n3, t3⟩
        have hxo := R3.bag.own (x, l0) (by simp)
        have f13 : Fr (fun k => M k ∨ h1.size ≤ k) h1 h3 := (f2.mono fun k _ hk => .inl hk).trans (f3.mono fun k _ hk => n2 k hk)
        have f13' : Fr M h1 h3 := ⟨f13.1, fun b hb hm => f13.2 b hb fun hc => hc.elim hm fun h5 => by omega⟩
        have us : SlC 1 h3 (.slice ua l.length uc) l.length (l.map vi) := hu0.sl.fr f13' fun b _ hb => hn b hb
        have xo : Own 1 h3 x w (l0.map vi) := by
          have h5 := hxo.1
          unfold OwnI at h5
          rw [hxo.2.1] at h5
          exact h5
        have xl : (l0.map vi).length = w := by rw [List.length_map]; exact hxo.2.1
        refine cpyK_own xo us vi_one fun h4 o4 f4 s4 => ?_
        have o4' : OwnI h4 x l := by
          have h6 : (l.map vi).take w ++ (l0.map vi).drop l.length = l.map vi := by
            rw [List.take_of_length_le (by rw [List.length_map]; omega), List.drop_eq_nil_of_le (by omega), List.append_nil]
          rw [h6] at o4
          unfold OwnI
          rw [hw]
          exact o4
        have bag4 := R3.bag.last (l := l) f4 o4' hw
        have hxx := hxo.2.2
        have v4 := f4.row R3.var fun hb => (hxx _ hb).1 rfl
        have m4 := R3.map.fr f4 fun hb => (hxx _ hb).2.1 rfl
        have fr4 := R3.free.fr f4 fun k hk hk' => (hxx k hk').2.2.1 hk
        simp only [go_sem, cell_row v4]
        refine put_map m4 fun h5 m5 u5 => ?_
        have hnone : kGet j es2 = none := by
          cases hc : kGet j es2 with
          | none => rfl
          | some p =>
            exfalso
            have h6 : kGet j (roomFor room rs) = some p.2 := by rw [← hk2, kGet_map, hc]; rfl
            unfold roomFor at h6
            split at h6
            · rw [kGet_del hnd, hg] at h6
              split at h6 <;> cases h6
            · rw [hg] at h6; cases h6
        have hnew : kPut j x (kMap Prod.fst es2) = kMap Prod.fst (es2 ++ [(j, (x, l))]) := by
          rw [kPut_new (by rw [kGet_map, hnone]; rfl)]
          simp [kMap]
        rw [hnew] at m5
        have f35 : Fr M3 h3 h5 := (f4.mono fun k _ hk => (hxx k hk).2.2.2).trans (u5.fr.mono fun k _ hk => by rw [show k = bm from hk]; exact R3.inM.2.1)
        have f15 : Fr M h1 h5 := by
          have h7 : Fr (fun k => M k ∨ h1.size ≤ k) h1 h5 := f13.trans (f35.mono fun k _ hk => (n3 k hk).elim (n2 k) fun h8 => .inr (Nat.le_trans f2.1 h8))
          exact ⟨h7.1, fun b hb hm => h7.2 b hb fun hc => hc.elim hm fun h5 => by omega⟩
        refine ⟨by rw [hp], M3, ⟨bx, bm, fr3, t, es2 ++ [(j, (x, l))], fv3, rfl, ?_, ?_, by simp; omega⟩, f15, fun k hk => (n3 k hk).elim (n2 k) fun h8 => .inr (Nat.le_trans f2.1 h8)⟩
        · have hb5 : Bag M3 h5 bx bm fr3 w (es2.map Prod.snd ++ fv3 ++ [(x, l)]) := bag4.fr u5.fr fun q hq k hk => ((bag4.own q hq).2.2 k hk).2.1
          exact {
            var := u5.row (fun h => R3.ap.1 h) v4
            map := m5
            free := fr4.fr u5.fr fun k hk hk' => R3.ap.2.2 (hk' ▸ hk)
            bag := hb5.perm (by
              rw [List.append_nil, List.map_append, List.append_assoc, List.append_assoc]
              exact (List.perm_append_comm (l₁ := [(x, l)])).append_left _)
            ap := R3.ap, inM := R3.inM
            lt := fun k hk => Nat.lt_of_lt_of_le (R3.lt k hk) f35.1
            nums := R3.nums
            keys := fun e he => by
              rcases List.mem_append.1 he with he | he
              · exact R3.keys e he
              · rw [List.mem_singleton.1 he]; exact hj
            len := by simp; omega
            tot := by simp; omega }
        · unfold putR
          rw [if_pos hp, ← hk2]
          simp [kMap]
  · have hw' : ¬ (l.length : Int) = (w : Int) := by omega
    have hp : putOk room w rs j l = false := by simp [putOk, hw]
    simp only [go_sem, cell_row R.var, hw']
    exact ⟨by rw [hp], no hp _ (Ext.refl _)⟩
end Go.Proofs.Ytmmcgbilnnaggaa
