/- The ring in memory: its rows, those that may be used again; what is read of it. Conditions: none. -/
import Derived.Test.YtmmcgbilnnaggaaMb
import Derived.Test.YtmmcgbilnnaggaaKd
set_option linter.unusedVariables false
set_option linter.unusedSimpArgs false
namespace Go.Proofs.Ytmmcgbilnnaggaa
open Go Go.Crisp
attribute [local irreducible] FCall rowK newK stK iteK vK qK drawK gK joinK loopK mkK appK cpyK mapPutK mapDelK newmK

/-- Rows of one's own, each in memory of its own, apart from a variable, a map and a row. -/
structure Bag (M : Nat → Prop) (h : Heap) (bx bm : Nat) (fr : Value) (w : Nat) (all : List (Value × List Int)) : Prop where
  own : ∀ p ∈ all, OwnI h p.1 p.2 ∧ p.2.length = w ∧ ∀ k, blk p.1 k → k ≠ bx ∧ k ≠ bm ∧ ¬ blk fr k ∧ M k
  apart : all.Pairwise fun a b => ∀ k, blk a.1 k → ¬ blk b.1 k
theorem Bag.perm {M : Nat → Prop} {h : Heap} {bx bm : Nat} {fr : Value} {w : Nat} {all all' : List (Value × List Int)} (B : Bag M h bx bm fr w all) (p : all'.Perm all) : Bag M h bx bm fr w all' where
  own := fun q hq => B.own q (p.mem_iff.1 hq)
  apart := (p.pairwise_iff (fun {x y} hxy k hk hk' => hxy k hk' hk)).2 B.apart
theorem Bag.fr {M Q : Nat → Prop} {h h' : Heap} {bx bm : Nat} {fr : Value} {w : Nat} {all : List (Value × List Int)} (B : Bag M h bx bm fr w all) (f : Fr Q h h') (q : ∀ p ∈ all, ∀ k, blk p.1 k → ¬ Q k) : Bag M h' bx bm fr w all where
  own := fun p hp => ⟨(B.own p hp).1.fr f (q p hp), (B.own p hp).2⟩
  apart := B.apart
theorem Bag.ext {M : Nat → Prop} {h h' : Heap} {bx bm : Nat} {fr : Value} {w : Nat} {all : List (Value × List Int)} (B : Bag M h bx bm fr w all) (e : Ext h h') : Bag M h' bx bm fr w all := B.fr (Q := fun _ => False) e.fr fun _ _ _ _ => id
theorem Bag.mono {M M' : Nat → Prop} {h : Heap} {bx bm : Nat} {fr fr' : Value} {w : Nat} {all : List (Value × List Int)} (B : Bag M h bx bm fr w all) (hM : ∀ k, M k → M' k) (hf : ∀ p ∈ all, ∀ k, blk p.1 k → ¬ blk fr' k) : Bag M' h bx bm fr' w all where
  own := fun p hp => ⟨(B.own p hp).1, (B.own p hp).2.1, fun k hk => ⟨((B.own p hp).2.2 k hk).1, ((B.own p hp).2.2 k hk).2.1, hf p hp k hk, hM k ((B.own p hp).2.2 k hk).2.2.2⟩⟩
  apart := B.apart

/-- A ring: so much room, rows by their numbers, free ones, some that are at hand. -/
structure RingAt (M : Nat → Prop) (h : Heap) (bx bm : Nat) (fr : Value) (t : TypeId) (room w : Nat) (es : List (Int × (Value × List Int))) (fv xs : List (Value × List Int)) : Prop where
  var : h[bx]? = some (.cells #[.int .i64 room, .int .i64 w, .map (some bm), fr] t (0, 0))
  map : MapI h bm (kMap Prod.fst es)
  free : Own 1 h fr fv.length (fv.map Prod.fst)
  bag : Bag M h bx bm fr w (es.map Prod.snd ++ fv ++ xs)
  ap : bx ≠ bm ∧ ¬ blk fr bx ∧ ¬ blk fr bm
  inM : M bx ∧ M bm ∧ ∀ k, blk fr k → M k
  lt : ∀ k, M k → k < h.size
  nums : 1 ≤ room ∧ room ≤ 65536 ∧ w ≤ 262144
  keys : ∀ e ∈ es, (Lit.int .i64 e.1).wf = true
  len : es.length ≤ room
  tot : es.length + fv.length + xs.length ≤ room + 1

def IsRing (M : Nat → Prop) (h : Heap) (v : Value) (room w : Nat) (rs : List (Int × List Int)) : Prop :=
  ∃ bx bm fr t es fv, v = .pointer (some ⟨bx, 0, none⟩) ∧ RingAt M h bx bm fr t room w es fv [] ∧ rs = kMap Prod.snd es ∧ es.length + fv.length ≤ room

theorem RingAt.fr {M Q : Nat → Prop} {h h' : Heap} {bx bm : Nat} {fr : Value} {t : TypeId} {room w : Nat} {es : List (Int × (Value × List Int))} {fv xs : List (Value × List Int)} (R : RingAt M h bx bm fr t room w es fv xs) (f : Fr Q h h') (q : ∀ b, b < h.size → M b → ¬ Q b) : RingAt M h' bx bm fr t room w es fv xs :=
  { R with
    var := f.row R.var (q bx (R.lt _ R.inM.1) R.inM.1)
    map := R.map.fr f (q bm (R.lt _ R.inM.2.1) R.inM.2.1)
    free := R.free.fr f fun k hk => q k (R.lt _ (R.inM.2.2 k hk)) (R.inM.2.2 k hk)
    bag := R.bag.fr f fun p hp k hk => q k (R.lt _ ((R.bag.own p hp).2.2 k hk).2.2.2) ((R.bag.own p hp).2.2 k hk).2.2.2
    lt := fun k hk => Nat.lt_of_lt_of_le (R.lt k hk) f.1 }
theorem IsRing.fr {M Q : Nat → Prop} {h h' : Heap} {v : Value} {room w : Nat} {rs : List (Int × List Int)} (H : IsRing M h v room w rs) (f : Fr Q h h') (q : ∀ b, b < h.size → M b → ¬ Q b) : IsRing M h' v room w rs := by
  obtain ⟨bx, bm, fr, t, es, fv, rfl, R, h1, h2⟩ := H
  exact ⟨bx, bm, fr, t, es, fv, rfl, R.fr f q, h1, h2⟩
theorem IsRing.ext {M : Nat → Prop} {h h' : Heap} {v : Value} {room w : Nat} {rs : List (Int × List Int)} (H : IsRing M h v room w rs) (e : Ext h h') : IsRing M h' v room w rs := H.fr (Q := fun _ => False) e.fr fun _ _ _ => id
theorem IsRing.lt {M : Nat → Prop} {h : Heap} {v : Value} {room w : Nat} {rs : List (Int × List Int)} (H : IsRing M h v room w rs) {b : Nat} (hb : M b) : b < h.size := by
  obtain ⟨bx, bm, fr, t, es, fv, rfl, R, h1, h2⟩ := H
  exact R.lt b hb
theorem IsRing.nodup {M : Nat → Prop} {h : Heap} {v : Value} {room w : Nat} {rs : List (Int × List Int)} (H : IsRing M h v room w rs) : (rs.map Prod.fst).Nodup := by
  obtain ⟨bx, bm, fr, t, es, fv, rfl, R, rfl, h2⟩ := H
  rw [kMap_keys, ← kMap_keys Prod.fst]
  exact R.map.nodup
theorem IsRing.nums {M : Nat → Prop} {h : Heap} {v : Value} {room w : Nat} {rs : List (Int × List Int)} (H : IsRing M h v room w rs) : 1 ≤ room ∧ room ≤ 65536 ∧ w ≤ 262144 ∧ rs.length ≤ room ∧ (∀ p ∈ rs, p.2.length = w ∧ (Lit.int .i64 p.1).wf = true) := by
  obtain ⟨bx, bm, fr, t, es, fv, rfl, R, rfl, h2⟩ := H
  refine ⟨R.nums.1, R.nums.2.1, R.nums.2.2, by simpa [kMap] using R.len, fun p hp => ?_⟩
  obtain ⟨e, he, rfl⟩ := List.mem_map.1 hp
  exact ⟨(R.bag.own e.2 (by simp; exact .inl ⟨e.1, he⟩)).2.1, R.keys e he⟩

def roomN (a : Int) : Nat := (min (max 1 a) 65536).toNat
def widthN (a : Int) : Nat := (min (max 0 a) 262144).toNat

theorem c_RNew {h : Heap} (a b : Int) : FCall Try.prog F_ring_New #[.int .i64 a, .int .i64 b] h fun r h' => ∃ M, IsRing M h' r (roomN a) (widthN b) [] ∧ Ext h h' ∧ ∀ k, M k → h.size ≤ k := by
  apply ok_ring_New
  unfold sh_ring_New
  have ha : min (max 1 a) 65536 = ((roomN a : Nat) : Int) := by unfold roomN; omega
  have hb : min (max 0 b) 262144 = ((widthN b : Nat) : Int) := by unfold widthN; omega
  have h1 : 1 ≤ roomN a ∧ roomN a ≤ 65536 := by unfold roomN; omega
  have h2 : widthN b ≤ 262144 := by unfold widthN; omega
  simp only [go_sem, ha, hb]
  generalize roomN a = room at h1
  generalize widthN b = w at h2
  refine new_map fun bm h3 m3 e3 n3 => ?_
  rw [vK_map _ #[.int .i64 room, .int .i64 w, .map (some bm), .slice none 0 0] (by kernel_rfl)]
  refine newK_use (c := #[.int .i64 room, .int .i64 w, .map (some bm), .slice none 0 0]) fun bx h4 r4' e4 n4 => ?_
  obtain ⟨t, r4⟩ : ∃ t, h4[bx]? = some (.cells #[.int .i64 room, .int .i64 w, .map (some bm), .slice none 0 0] t (0, 0)) := ⟨_, r4'⟩
  have lm := m3.lt
  refine ⟨fun k => k = bx ∨ k = bm, ⟨bx, bm, .slice none 0 0, t, [], [], rfl, ?_, rfl, by simp⟩, e3.trans e4, ?_⟩
  · exact {
      var := r4, map := m3.ext e4, free := .inl ⟨rfl, rfl, rfl⟩, bag := ⟨fun p hp => absurd hp (by simp), List.Pairwise.nil⟩
      ap := ⟨by omega, fun h => h.elim, fun h => h.elim⟩, inM := ⟨.inl rfl, .inr rfl, fun k hk => hk.elim⟩
      lt := fun k hk => by
        rcases hk with rfl | rfl
        · exact row_lt r4
        · exact (m3.ext e4).lt
      nums := ⟨h1.1, h1.2, h2⟩, keys := fun e he => absurd he (by simp), len := by simp, tot := by simp }
  · rintro k (rfl | rfl)
    · exact Nat.le_trans e3.1 n4
    · exact n3

section
variable {M : Nat → Prop} {h : Heap} {v : Value} {room w : Nat} {rs : List (Int × List Int)}
theorem c_RRoom (H : IsRing M h v room w rs) : FCall Try.prog F_ring_Ring_Room #[v] h fun r h' => r = .int .i64 (room : Nat) ∧ h' = h := by
  obtain ⟨bx, bm, fr, t, es, fv, rfl, R, rfl, h2⟩ := H
  apply ok_ring_Ring_Room
  unfold sh_ring_Ring_Room
  simp only [go_sem, cell_row R.var]
  exact ⟨trivial, trivial⟩
theorem c_RWidth (H : IsRing M h v room w rs) : FCall Try.prog F_ring_Ring_Width #[v] h fun r h' => r = .int .i64 (w : Nat) ∧ h' = h := by
  obtain ⟨bx, bm, fr, t, es, fv, rfl, R, rfl, h2⟩ := H
  apply ok_ring_Ring_Width
  unfold sh_ring_Ring_Width
  simp only [go_sem, cell_row R.var]
  exact ⟨trivial, trivial⟩
theorem c_RWords (H : IsRing M h v room w rs) : FCall Try.prog F_ring_Ring_Words #[v] h fun r h' => r = .int .i64 ((room : Int) * w) ∧ h' = h := by
  obtain ⟨bx, bm, fr, t, es, fv, rfl, R, rfl, h2⟩ := H
  apply ok_ring_Ring_Words
  unfold sh_ring_Ring_Words
  have hn := R.nums
  have hm : room * w ≤ 65536 * 262144 := Nat.mul_le_mul hn.2.1 hn.2.2
  have hm' : ((room * w : Nat) : Int) = (room : Int) * w := Int.natCast_mul ..
  simp only [go_sem, cell_row R.var]
  rw [w64 (by omega) (by omega)]
  exact ⟨rfl, trivial⟩
theorem c_RLen (H : IsRing M h v room w rs) : FCall Try.prog F_ring_Ring_Len #[v] h fun r h' => r = .int .i64 (rs.length : Nat) ∧ h' = h := by
  obtain ⟨bx, bm, fr, t, es, fv, rfl, R, rfl, h2⟩ := H
  apply ok_ring_Ring_Len
  unfold sh_ring_Ring_Len
  simp only [go_sem, cell_row R.var, len_map R.map]
  exact ⟨by simp [kMap], trivial⟩
theorem c_RHas (H : IsRing M h v room w rs) (j : Int) : FCall Try.prog F_ring_Ring_Has #[v, .int .i64 j] h fun r h' => r = .bool (kGet j rs).isSome ∧ h' = h := by
  obtain ⟨bx, bm, fr, t, es, fv, rfl, R, rfl, h2⟩ := H
  apply ok_ring_Ring_Has
  unfold sh_ring_Ring_Has
  simp only [go_sem, cell_row R.var, look_map R.map]
  rw [kGet_map, kGet_map]
  cases kGet j es with
  | none => simp only [Option.map_none, lookR, cond_true, go_sem]; exact ⟨rfl, trivial⟩
  | some p => simp only [Option.map_some, lookR, cond_true, go_sem]; exact ⟨rfl, trivial⟩

theorem c_Clone64 {h : Heap} {v : Value} {l : List Int} (hv : Ints h v l) (hl : l.length ≤ 4398046511104) :
    FCall Try.prog F_slices_Clone_sl_int64_int64 #[v] h fun r h' => OwnI h' r l ∧ Ext h h' ∧ ∀ b, blk r b → h.size ≤ b := by
  apply ok_slices_Clone_sl_int64_int64
  unfold sh_slices_Clone_sl_int64_int64
  have hv0 := hv
  obtain ⟨a, cap, rfl, hv⟩ := hv
  cases a with
  | none =>
    simp only [eql_nil_none, go_sem]
    rcases hv with rfl | ⟨b, o, h1, _⟩
    · exact ⟨own_nil, Ext.refl h, fun b hb => hb.elim⟩
    · cases h1
  | some a =>
    simp only [eql_nil_some, go_sem]
    exact clone_own hv0 hl fun r h' o e n => ⟨o, e, n⟩

theorem c_RRow (H : IsRing M h v room w rs) (j : Int) : FCall Try.prog F_ring_Ring_Row #[v, .int .i64 j] h fun r h' => ∃ u, r = .tuple #[u, .bool (kGet j rs).isSome] ∧ OwnI h' u ((kGet j rs).getD []) ∧ Ext h h' ∧ ∀ b, blk u b → h.size ≤ b := by
  have hnum := H.nums
  obtain ⟨bx, bm, fr, t, es, fv, rfl, R, rfl, h2⟩ := H
  apply ok_ring_Ring_Row
  unfold sh_ring_Ring_Row
  simp only [go_sem, cell_row R.var, look_map R.map]
  rw [kGet_map, kGet_map]
  cases hg : kGet j es with
  | none =>
    simp only [Option.map_none, lookR, cond_true, go_sem]
    refine (c_Clone64 (v := .slice none 0 0) (l := []) ⟨none, 0, rfl, .inl rfl⟩ (by simp)).mono ?_
    rintro u h1 ⟨o, e, n⟩
    exact ⟨u, rfl, o, e, n⟩
  | some p =>
    simp only [Option.map_some, lookR, cond_true, go_sem]
    have hp := R.bag.own p (by simp; exact .inl ⟨j, kGet_mem hg⟩)
    refine (c_Clone64 hp.1.ints (by rw [hp.2.1]; omega)).mono ?_
    rintro u h1 ⟨o, e, n⟩
    exact ⟨u, rfl, o, e, n⟩

/-- The least of some numbers. -/
def minL : List Int → Int
  | [] => 0
  | x :: l => l.foldl min x
theorem minL_perm {a b : List Int} (h : a.Perm b) : minL a = minL b := by
  have key : ∀ (l : List Int) (x : Int), (∀ y ∈ x :: l, l.foldl min x ≤ y) ∧ l.foldl min x ∈ x :: l := by
    intro l
    induction l with
    | nil => intro x; simp
    | cons z l ih =>
      intro x
      rw [List.foldl_cons]
      obtain ⟨h1, h2⟩ := ih (min x z)
      have h3 := h1 (min x z) (List.mem_cons_self ..)
      refine ⟨fun y hy => ?_, ?_⟩
      · rcases List.mem_cons.1 hy with rfl | hy
        · omega
        · rcases List.mem_cons.1 hy with rfl | hy
          · omega
          · exact h1 y (List.mem_cons_of_mem _ hy)
      · rcases List.mem_cons.1 h2 with h2 | h2
        · rw [h2]
          rcases Int.le_total x z with hxz | hxz
          · rw [Int.min_eq_left hxz]; simp
          · rw [Int.min_eq_right hxz]; simp
        · exact List.mem_cons_of_mem _ (List.mem_cons_of_mem _ h2)
  cases a with
  | nil => have := h.nil_eq; subst this; rfl
  | cons x l =>
    cases b with
    | nil => have := h.symm.nil_eq; cases this
    | cons y m =>
      obtain ⟨a1, a2⟩ := key l x
      obtain ⟨b1, b2⟩ := key m y
      exact Int.le_antisymm (a1 _ (h.mem_iff.2 b2)) (b1 _ (h.mem_iff.1 a2))

theorem minL_push {l : List Int} (h : l ≠ []) (x : Int) : minL (l ++ [x]) = min (minL l) x := by
  cases l with
  | nil => exact absurd rfl h
  | cons y l => simp [minL]
theorem c_Min64 {h : Heap} {v : Value} {l : List Int} (hv : Ints h v l) (h0 : l ≠ []) (hl : l.length ≤ 4398046511104) :
    FCall Try.prog F_slices_Min_sl_int64_int64 #[v] h fun r h' => r = .int .i64 (minL l) ∧ h' = h := by
  apply ok_slices_Min_sl_int64_int64
  unfold sh_slices_Min_sl_int64_int64
  have hp : 0 < l.length := List.length_pos_iff.2 h0
  have hs := hv.sl
  obtain ⟨a, cap, rfl, _⟩ := hv
  refine joinK_intro (fun xs h' => xs = [] ∧ h' = h) ?_ ?_
  · simp only [go_sem]
    refine iteK_dec (fun h1 => by omega) (fun _ => ⟨trivial, trivial⟩)
  · rintro _ ρj h' ⟨rfl, hh⟩
    subst hh
    obtain ⟨p, hp0, hq0⟩ := hs.at1 (k := .i64) (i := 0) hp
    rw [List.getElem_map] at hq0
    rw [show ((0 : Nat) : Int) = 0 from rfl] at hp0
    simp only [go_sem, hp0, hq0]
    refine loopK_var (fun d xs h'' => h'' = h' ∧ ∃ (k : Nat), 1 ≤ k ∧ k ≤ l.length ∧ d = l.length - k ∧ xs = [.int .i64 (minL (l.take k)), .int .i64 (k : Int)]) (l.length - 1)
      ⟨rfl, 1, by omega, by omega, rfl, ?_⟩ ?_
    · cases l with
      | nil => exact absurd rfl h0
      | cons x l => rfl
    · rintro d _ ρj _ again ⟨rfl, k, h1, hk, rfl, rfl⟩ hag
      simp only [go_sem]
      refine iteK_dec (fun hlt => ?_) (fun hge => ?_)
      · have hk' : k < l.length := by omega
        obtain ⟨p, hp1, hq1⟩ := hs.at1 (k := .i64) hk'
        rw [List.getElem_map] at hq1
        simp only [go_sem, hp1, hq1, vi]
        rw [w64 (by omega) (by omega)]
        refine hag _ _ (l.length - (k + 1)) (by omega) ⟨rfl, k + 1, by omega, by omega, rfl, ?_⟩
        have hne : l.take k ≠ [] := fun h => by
          have h9 := congrArg List.length h
          rw [List.length_take, List.length_nil] at h9
          omega
        rw [List.take_succ_eq_append_getElem hk', minL_push hne]
        rfl
      · rw [List.take_of_length_le (by omega)]
        exact ⟨rfl, trivial⟩

theorem c_RFirst (H : IsRing M h v room w rs) : FCall Try.prog F_ring_Ring_First #[v] h fun r h' => r = .tuple #[.int .i64 (minL (rs.map Prod.fst)), .bool (!decide (rs = []))] ∧ Ext h h' := by
  have hnum := H.nums
  obtain ⟨bx, bm, fr, t, es, fv, rfl, R, rfl, h2⟩ := H
  apply ok_ring_Ring_First
  unfold sh_ring_Ring_First
  by_cases h0 : es = []
  · subst h0
    simp only [go_sem, cell_row R.var, len_map R.map, kMap, List.map_nil, List.length_nil, Int.natCast_zero]
    exact ⟨rfl, Ext.refl h⟩
  · have hl : ¬ (((kMap Prod.fst es).length : Nat) : Int) = 0 := by
      simp only [kMap, List.length_map]
      have := List.length_pos_iff.2 h0
      omega
    simp only [go_sem, cell_row R.var, len_map R.map, hl]
    apply ok_maps_Keys_map_int64_sl_int64_int64_sl_int64
    unfold sh_maps_Keys_map_int64_sl_int64_int64_sl_int64
    refine newK_use fun b1 h1 r1 e1 n1 => ?_
    have hlen : (kMap Prod.fst es).length ≤ 1000000 := by
      have := R.len; have := R.nums
      simp only [kMap, List.length_map]; omega
    refine (c_Collect64 r1 (R.map.ext e1) (fun p hp => ?_) hlen).mono ?_
    · obtain ⟨e, he, rfl⟩ := List.mem_map.1 hp
      exact R.keys e he
    rintro u h3 ⟨ss, hperm, o3, e3, n3⟩
    have hsl : ss.length = es.length := by rw [hperm.length_eq]; simp [kMap]
    refine (c_Min64 o3.ints (by intro h; subst h; simp at hsl; exact h0 (List.eq_nil_of_length_eq_zero hsl.symm)) (by have := R.len; have := R.nums; omega)).mono ?_
    rintro _ h4 ⟨rfl, rfl⟩
    refine ⟨?_, e1.trans e3⟩
    rw [minL_perm hperm, kMap_keys, kMap_keys]
    have : ¬ kMap Prod.snd es = [] := by simpa [kMap] using h0
    simp [this]
end
end Go.Proofs.Ytmmcgbilnnaggaa
