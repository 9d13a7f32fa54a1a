/- The engine, fifth part: how data lies in memory (numbers, truths, texts, rows of such, structs by hand, what a pointer leads to), with the blocks that it lies in; rows of one's own that grow. Conditions: none. -/
import Derived.Test.YtefdokfnnokagaaGreatDoorEd
set_option linter.unusedVariables false
set_option linter.unusedSimpArgs false
namespace Go.Crisp
open Go

/-- How data of a kind lies in some cells: so many cells, the blocks that it reaches among those that are allowed. -/
structure Rp (α : Type) where
  w : Nat
  R : (Nat → Prop) → Heap → List Value → α → Prop
  len : ∀ {Z : Nat → Prop} {h : Heap} {cs : List Value} {x : α}, R Z h cs x → cs.length = w
  one : ∀ {Z : Nat → Prop} {h : Heap} {cs : List Value} {x : α}, R Z h cs x → ∀ v ∈ cs, oneCell v = true
  fr : ∀ {Z M : Nat → Prop} {h h' : Heap} {cs : List Value} {x : α}, R Z h cs x → Fr M h h' → (∀ b, b < h.size → Z b → ¬ M b) → R Z h' cs x
  mono : ∀ {Z Z' : Nat → Prop} {h : Heap} {cs : List Value} {x : α}, R Z h cs x → (∀ b, b < h.size → Z b → Z' b) → R Z' h cs x

theorem Rp.ext {α : Type} (e : Rp α) {Z : Nat → Prop} {h h' : Heap} {cs : List Value} {x : α} (H : e.R Z h cs x) (k : Ext h h') : e.R Z h' cs x := e.fr (M := fun _ => False) H k.fr fun _ _ _ => id

theorem SlC.nil {w : Nat} {h h' : Heap} {v : Value} {n : Nat} (H : SlC w h v n []) : SlC w h' v n [] := by
  obtain ⟨hl, a, cap, rfl, H⟩ := H
  exact ⟨hl, a, cap, rfl, .inl rfl⟩
theorem SlC.isSl {w : Nat} {h : Heap} {v : Value} {n : Nat} {cs : List Value} (H : SlC w h v n cs) : ∃ a cap, v = .slice a n cap := by
  obtain ⟨_, a, cap, rfl, _⟩ := H
  exact ⟨a, cap, rfl⟩
theorem Own.isSl {w : Nat} {h : Heap} {v : Value} {n : Nat} {cs : List Value} (H : Own w h v n cs) : ∃ a cap, v = .slice a n cap := H.sl.isSl
theorem sl_one {a : Option Addr} {n c : Nat} : oneCell (.slice a n c) = true := rfl
theorem SlC.lt {w : Nat} {h : Heap} {v : Value} {n : Nat} {cs : List Value} (H : SlC w h v n cs) (h0 : cs ≠ []) {b : Nat} (hb : blk v b) : b < h.size := by
  obtain ⟨hl, a, cap, rfl, H⟩ := H
  rcases H with rfl | ⟨b', o, rfl, H⟩
  · exact absurd rfl h0
  · have := cell_lt (H 0 (List.length_pos_iff.2 h0))
    rw [show b = b' from hb]; exact this

namespace Rp
def int (k : IntKind) : Rp Int where
  w := 1
  R := fun _ _ cs n => cs = [.int k n]
  len := by rintro _ _ _ _ rfl; rfl
  one := by rintro _ _ _ _ rfl; simp [oneCell]
  fr := fun H _ _ => H
  mono := fun H _ => H
def bool : Rp Bool where
  w := 1
  R := fun _ _ cs n => cs = [.bool n]
  len := by rintro _ _ _ _ rfl; rfl
  one := by rintro _ _ _ _ rfl; simp [oneCell]
  fr := fun H _ _ => H
  mono := fun H _ => H
def str : Rp ByteArray where
  w := 1
  R := fun _ _ cs n => cs = [.string n]
  len := by rintro _ _ _ _ rfl; rfl
  one := by rintro _ _ _ _ rfl; simp [oneCell]
  fr := fun H _ _ => H
  mono := fun H _ => H

/-- The cells of the i-th element. -/
abbrev el (w : Nat) (ds : List Value) (i : Nat) : List Value := (ds.drop (i * w)).take w

/-- A row, as it reads. -/
def Sl {α : Type} (e : Rp α) (Z : Nat → Prop) (h : Heap) (v : Value) (l : List α) : Prop :=
  ∃ ds, SlC e.w h v l.length ds ∧ (ds ≠ [] → ∀ b, blk v b → Z b) ∧ ∀ i (hi : i < l.length), e.R Z h (el e.w ds i) l[i]

theorem Sl.fr {α : Type} {e : Rp α} {Z M : Nat → Prop} {h h' : Heap} {v : Value} {l : List α} (H : Sl e Z h v l) (f : Fr M h h') (q : ∀ b, b < h.size → Z b → ¬ M b) : Sl e Z h' v l := by
  obtain ⟨ds, hs, hz, he⟩ := H
  refine ⟨ds, ?_, hz, fun i hi => e.fr (he i hi) f q⟩
  by_cases h0 : ds = []
  · subst h0; exact hs.nil
  · exact hs.fr f fun b hb hbl => q b hb (hz h0 b hbl)
theorem Sl.ext {α : Type} {e : Rp α} {Z : Nat → Prop} {h h' : Heap} {v : Value} {l : List α} (H : Sl e Z h v l) (k : Ext h h') : Sl e Z h' v l := H.fr (M := fun _ => False) k.fr fun _ _ _ => id
theorem Sl.mono {α : Type} {e : Rp α} {Z Z' : Nat → Prop} {h : Heap} {v : Value} {l : List α} (H : Sl e Z h v l) (q : ∀ b, b < h.size → Z b → Z' b) : Sl e Z' h v l := by
  obtain ⟨ds, hs, hz, he⟩ := H
  exact ⟨ds, hs, fun h0 b hb => q b (hs.lt h0 hb) (hz h0 b hb), fun i hi => e.mono (he i hi) q⟩
theorem Sl.isSl {α : Type} {e : Rp α} {Z : Nat → Prop} {h : Heap} {v : Value} {l : List α} (H : Sl e Z h v l) : ∃ a cap, v = .slice a l.length cap := by
  obtain ⟨ds, hs, _⟩ := H
  exact hs.isSl
theorem Sl.one {α : Type} {e : Rp α} {Z : Nat → Prop} {h : Heap} {v : Value} {l : List α} (H : Sl e Z h v l) : oneCell v = true := by
  obtain ⟨a, cap, rfl⟩ := H.isSl; rfl
theorem Sl.nil {α : Type} {e : Rp α} {Z : Nat → Prop} {h : Heap} : Sl e Z h (.slice none 0 0) [] := ⟨[], ⟨by simp, none, 0, rfl, .inl rfl⟩, fun h => absurd rfl h, fun i hi => absurd hi (by simp)⟩

/-- A row in a cell. -/
def sl {α : Type} (e : Rp α) : Rp (List α) where
  w := 1
  R := fun Z h cs l => ∃ v, cs = [v] ∧ Sl e Z h v l
  len := by rintro _ _ _ _ ⟨v, rfl, _⟩; rfl
  one := by
    rintro _ _ _ _ ⟨v, rfl, H⟩ u hu
    rw [List.mem_singleton.1 hu]; exact H.one
  fr := by rintro _ _ _ _ _ _ ⟨v, rfl, H⟩ f q; exact ⟨v, rfl, H.fr f q⟩
  mono := by rintro _ _ _ _ _ ⟨v, rfl, H⟩ q; exact ⟨v, rfl, H.mono q⟩

/-- What a pointer leads to: a variable of this kind. -/
def Pt {α : Type} (e : Rp α) (Z : Nat → Prop) (h : Heap) (v : Value) (x : α) : Prop :=
  ∃ b ds t, v = .pointer (some ⟨b, 0, none⟩) ∧ h[b]? = some (.cells (List.toArray ds) t (0, 0)) ∧ Z b ∧ e.R Z h ds x
theorem Pt.fr {α : Type} {e : Rp α} {Z M : Nat → Prop} {h h' : Heap} {v : Value} {x : α} (H : Pt e Z h v x) (f : Fr M h h') (q : ∀ b, b < h.size → Z b → ¬ M b) : Pt e Z h' v x := by
  obtain ⟨b, ds, t, rfl, r, hz, he⟩ := H
  exact ⟨b, ds, t, rfl, f.row r (q b (Array.getElem?_eq_some_iff.1 r).1 hz), hz, e.fr he f q⟩
theorem Pt.ext {α : Type} {e : Rp α} {Z : Nat → Prop} {h h' : Heap} {v : Value} {x : α} (H : Pt e Z h v x) (k : Ext h h') : Pt e Z h' v x := H.fr (M := fun _ => False) k.fr fun _ _ _ => id
theorem Pt.mono {α : Type} {e : Rp α} {Z Z' : Nat → Prop} {h : Heap} {v : Value} {x : α} (H : Pt e Z h v x) (q : ∀ b, b < h.size → Z b → Z' b) : Pt e Z' h v x := by
  obtain ⟨b, ds, t, rfl, r, hz, he⟩ := H
  exact ⟨b, ds, t, rfl, r, q b (Array.getElem?_eq_some_iff.1 r).1 hz, e.mono he q⟩
def pt {α : Type} (e : Rp α) : Rp α where
  w := 1
  R := fun Z h cs x => ∃ v, cs = [v] ∧ Pt e Z h v x
  len := by rintro _ _ _ _ ⟨v, rfl, _⟩; rfl
  one := by
    rintro _ _ _ _ ⟨v, rfl, b, ds, t, rfl, _⟩ u hu
    rw [List.mem_singleton.1 hu]; rfl
  fr := by rintro _ _ _ _ _ _ ⟨v, rfl, H⟩ f q; exact ⟨v, rfl, H.fr f q⟩
  mono := by rintro _ _ _ _ _ ⟨v, rfl, H⟩ q; exact ⟨v, rfl, H.mono q⟩

theorem el_len {w : Nat} {ds : List Value} {n i : Nat} (hl : ds.length = n * w) (hi : i < n) : (el w ds i).length = w := by
  have : i * w + w ≤ n * w := by rw [← Nat.succ_mul]; exact Nat.mul_le_mul_right w hi
  show ((ds.drop (i * w)).take w).length = w
  rw [List.length_take, List.length_drop]; omega
theorem el_one {ds : List Value} {i : Nat} (hi : i < ds.length) : el 1 ds i = [ds[i]] := by
  show (ds.drop (i * 1)).take 1 = [ds[i]]
  rw [Nat.mul_one, List.drop_eq_getElem_cons hi]; rfl
theorem el_app_old {w : Nat} {ds cs : List Value} {n i : Nat} (hl : ds.length = n * w) (hi : i < n) : el w (ds ++ cs) i = el w ds i := by
  have : i * w + w ≤ n * w := by rw [← Nat.succ_mul]; exact Nat.mul_le_mul_right w hi
  show ((ds ++ cs).drop (i * w)).take w = (ds.drop (i * w)).take w
  rw [List.drop_append_of_le_length (by omega), List.take_append_of_le_length (by rw [List.length_drop]; omega)]
theorem el_app_new {w : Nat} {ds cs : List Value} {n i : Nat} (hl : ds.length = n * w) (hi : n ≤ i) : el w (ds ++ cs) i = el w cs (i - n) := by
  have : n * w ≤ i * w := Nat.mul_le_mul_right w hi
  show ((ds ++ cs).drop (i * w)).take w = (cs.drop ((i - n) * w)).take w
  rw [List.drop_append, List.drop_eq_nil_of_le (as := ds) (by omega), List.nil_append, hl, Nat.sub_mul]
theorem el_self {w : Nat} {cs : List Value} (hl : cs.length = w) : el w cs 0 = cs := by
  show (cs.drop (0 * w)).take w = cs
  rw [Nat.zero_mul, List.drop_zero]; exact List.take_of_length_le (by omega)

/-- An element of a row, whole. -/
theorem Sl.atw {α : Type} {e : Rp α} {Z : Nat → Prop} {h : Heap} {v : Value} {l : List α} (H : Sl e Z h v l) (hw : 0 < e.w) {k : IntKind} {i : Nat} (hi : i < l.length) :
    ∃ p cs, idxV e.w v (.int k (i : Int)) = some p ∧ ldsV e.w h p = some (.agg (List.toArray cs)) ∧ e.R Z h cs l[i] := by
  obtain ⟨ds, hs, hz, he⟩ := H
  obtain ⟨p, hp, hq⟩ := hs.atw hw (k := k) hi
  exact ⟨p, _, hp, hq, he i hi⟩
/-- An element of a row, its place and its cells. -/
theorem Sl.atp {α : Type} {e : Rp α} {Z : Nat → Prop} {h : Heap} {v : Value} {l : List α} (H : Sl e Z h v l) (hw : 0 < e.w) {k : IntKind} {i : Nat} (hi : i < l.length) :
    ∃ b o cs, idxV e.w v (.int k (i : Int)) = some (.pointer (some ⟨b, o, none⟩)) ∧ cs.length = e.w ∧ (∀ j (hj : j < cs.length), cellOf h ⟨b, o + j, none⟩ = some cs[j]) ∧ e.R Z h cs l[i] ∧ Z b := by
  obtain ⟨ds, ⟨hl, a, cap, rfl, hs⟩, hz, he⟩ := H
  have hiw : i * e.w + e.w ≤ ds.length := by rw [hl, ← Nat.succ_mul]; exact Nat.mul_le_mul_right e.w hi
  have hne : ds ≠ [] := fun h0 => by rw [h0] at hiw; simp at hiw; omega
  rcases hs with h0 | ⟨b, o, rfl, hs⟩
  · exact absurd h0 hne
  · refine ⟨b, o + i * e.w, el e.w ds i, idxV_nat hi, el_len hl hi, fun j hj => ?_, he i hi, hz hne b rfl⟩
    have hj' : j < e.w := by rw [el_len hl hi] at hj; exact hj
    have := hs (i * e.w + j) (by omega)
    rw [← Nat.add_assoc] at this
    rw [this]
    simp
/-- An element of one cell. -/
theorem Sl.at1 {α : Type} {e : Rp α} (hw : e.w = 1) {Z : Nat → Prop} {h : Heap} {v : Value} {l : List α} (H : Sl e Z h v l) {k : IntKind} {i : Nat} (hi : i < l.length) :
    ∃ p c, idxV 1 v (.int k (i : Int)) = some p ∧ ldV h p = some c ∧ e.R Z h [c] l[i] := by
  obtain ⟨ds, hs, hz, he⟩ := H
  have hl := hs.1
  rw [hw] at hs
  obtain ⟨p, hp, hq⟩ := hs.at1 (k := k) hi
  refine ⟨p, _, hp, hq, ?_⟩
  have := he i hi
  rw [hw, el_one (by rw [hl, hw]; omega)] at this
  exact this

/-! ### rows of one's own -/
/-- A row of one's own of such elements; what they reach lies apart from it. -/
def Ow {α : Type} (e : Rp α) (Z : Nat → Prop) (h : Heap) (v : Value) (l : List α) : Prop :=
  ∃ ds, Own e.w h v l.length ds ∧ (∀ b, blk v b → ¬ Z b) ∧ ∀ i (hi : i < l.length), e.R Z h (el e.w ds i) l[i]

theorem Ow.nil {α : Type} {e : Rp α} {Z : Nat → Prop} {h : Heap} : Ow e Z h (.slice none 0 0) [] := ⟨[], .inl ⟨rfl, rfl, rfl⟩, fun b hb => hb.elim, fun i hi => absurd hi (by simp)⟩
theorem Ow.fr {α : Type} {e : Rp α} {Z M : Nat → Prop} {h h' : Heap} {v : Value} {l : List α} (H : Ow e Z h v l) (f : Fr M h h') (q : ∀ b, b < h.size → Z b → ¬ M b) (q' : ∀ b, blk v b → ¬ M b) : Ow e Z h' v l := by
  obtain ⟨ds, hs, hz, he⟩ := H
  exact ⟨ds, hs.fr f q', hz, fun i hi => e.fr (he i hi) f q⟩
theorem Ow.ext {α : Type} {e : Rp α} {Z : Nat → Prop} {h h' : Heap} {v : Value} {l : List α} (H : Ow e Z h v l) (k : Ext h h') : Ow e Z h' v l := H.fr (M := fun _ => False) k.fr (fun _ _ _ => id) fun _ _ => id
theorem Ow.mono {α : Type} {e : Rp α} {Z Z' : Nat → Prop} {h : Heap} {v : Value} {l : List α} (H : Ow e Z h v l) (q : ∀ b, b < h.size → Z b → Z' b) (q' : ∀ b, blk v b → ¬ Z' b) : Ow e Z' h v l := by
  obtain ⟨ds, hs, hz, he⟩ := H
  exact ⟨ds, hs, q', fun i hi => e.mono (he i hi) q⟩
theorem Ow.lt {α : Type} {e : Rp α} {Z : Nat → Prop} {h : Heap} {v : Value} {l : List α} (H : Ow e Z h v l) {b : Nat} (hb : blk v b) : b < h.size := by
  obtain ⟨ds, hs, _⟩ := H
  exact hs.lt hb
theorem Ow.isSl {α : Type} {e : Rp α} {Z : Nat → Prop} {h : Heap} {v : Value} {l : List α} (H : Ow e Z h v l) : ∃ a cap, v = .slice a l.length cap := by
  obtain ⟨ds, hs, _⟩ := H
  exact hs.isSl
theorem Ow.one {α : Type} {e : Rp α} {Z : Nat → Prop} {h : Heap} {v : Value} {l : List α} (H : Ow e Z h v l) : oneCell v = true := by
  obtain ⟨a, cap, rfl⟩ := H.isSl; rfl
/-- It reads as a row. -/
theorem Ow.sl {α : Type} {e : Rp α} {Z : Nat → Prop} {h : Heap} {v : Value} {l : List α} (H : Ow e Z h v l) : Sl e (fun b => Z b ∨ blk v b) h v l := by
  obtain ⟨ds, hs, hz, he⟩ := H
  exact ⟨ds, hs.sl, fun _ b hb => .inr hb, fun i hi => e.mono (he i hi) fun _ _ hb => .inl hb⟩

/-- Elements that are appended. -/
theorem app_ow {α : Type} {e : Rp α} {Z : Nat → Prop} {z : Value} {t : TypeId} {bytes : Nat} {s x : Value} {h : Heap} {l l2 : List α} {K : Value → Heap → Prop}
    {cs : List Value} (hs : Ow e Z h s l) (hc : SlC e.w h x l2.length cs) (hce : ∀ i (hi : i < l2.length), e.R Z h (el e.w cs i) l2[i]) (hz : z.cells.size = e.w) (hb : (l.length + l2.length) * bytes ≤ 140737488355328) (hn : l.length + l2.length ≤ 9223372036854775807) (hZ : ∀ b, Z b → b < h.size)
    (H : ∀ s' h', Ow e Z h' s' (l ++ l2) → Fr (blk s) h h' → (∀ b, blk s' b → blk s b ∨ h.size ≤ b) → K s' h') : appK z t e.w bytes s x h K := by
  obtain ⟨ds, ho, hd, he⟩ := hs
  refine appK_own ho hc ?_ hz hb hn fun s' h' o' f' n' => H s' h' ⟨ds ++ cs, ?_, ?_, ?_⟩ f' n'
  · intro v hv
    obtain ⟨j, hj, rfl⟩ := List.mem_iff_getElem.1 hv
    have hl := hc.1
    have hw : 0 < e.w := by
      rcases Nat.eq_zero_or_pos e.w with h0 | h0
      · rw [h0, Nat.mul_zero] at hl; omega
      · exact h0
    have hi : j / e.w < l2.length := by rw [Nat.div_lt_iff_lt_mul hw]; omega
    have := e.one (hce _ hi) (cs[j]) ?_
    · exact this
    · rw [List.mem_iff_getElem]
      have h1 : j / e.w * e.w + j % e.w = j := by rw [Nat.mul_comm]; exact Nat.div_add_mod j e.w
      have h2 : j % e.w < e.w := Nat.mod_lt _ hw
      refine ⟨j % e.w, by rw [el_len hl hi]; exact h2, ?_⟩
      simp only [List.getElem_take, List.getElem_drop, h1]
  · rw [List.length_append]; exact o'
  · intro b hb hZb
    rcases n' b hb with h1 | h1
    · exact hd b h1 hZb
    · have := hZ b hZb; omega
  · intro i hi
    rw [List.length_append] at hi
    by_cases h1 : i < l.length
    · rw [el_app_old ho.sl.1 h1, List.getElem_append_left h1]
      exact e.fr (he i h1) f' fun b _ hZb hb => hd b hb hZb
    · rw [el_app_new ho.sl.1 (by omega), List.getElem_append_right (by omega)]
      exact e.fr (hce _ (by omega)) f' fun b _ hZb hb => hd b hb hZb

/-- One element in a row of its own. -/
theorem SlC.single {h : Heap} {b : Nat} {t : TypeId} {cs : List Value} (r : h[b]? = some (.cells cs.toArray t (0, 0))) : SlC cs.length h (.slice (some ⟨b, 0, none⟩) 1 1) 1 cs :=
  ⟨by simp, _, 1, rfl, .inr ⟨b, 0, rfl, fun j hj => by rw [Nat.zero_add, cell_row r]; simp [hj]⟩⟩

theorem foldl_set : ∀ (cs : List Value) (c : Array Value) (o : Nat), (cs.zipIdx o).foldl (fun cs (p : Value × Nat) => cs.setIfInBounds p.2 p.1) c = wrL c o cs
  | [], c, o => rfl
  | v :: cs, c, o => by
    simp only [List.zipIdx_cons, List.foldl_cons, wrL]
    exact foldl_set cs _ (o + 1)
theorem fill_whole {c : Array Value} {w : Nat} {cs : List Value} (hc : c.size = w) (hl : cs.length = w) : fillL c [(0, w, .agg cs.toArray)] = some cs.toArray := by
  simp only [fillL, cells_agg]
  rw [if_neg (by simp [hl, hc])]
  congr 1
  rw [Array.zipIdx_toArray, List.foldl_toArray']
  · simp only [Nat.zero_add]
    rw [foldl_set, wrL_all cs c (by omega)]
  · simp
theorem fill_one {z v : Value} (hv : oneCell v = true) : fillL #[z] [(0, 1, v)] = some #[v] := by
  simp only [fillL, cells_one hv]
  rw [if_neg (by simp)]
  simp

/-- A struct is put behind a row. -/
theorem push_ow {α : Type} {e : Rp α} {Z : Nat → Prop} {z : Value} {c : Array Value} {t t' : TypeId} {bytes : Nat} {s : Value} {h : Heap} {l : List α} {cs : List Value} {x : α} {K : Value → Heap → Prop}
    (hs : Ow e Z h s l) (hx : e.R Z h cs x) (hc : c.size = e.w) (hz : z.cells.size = e.w) (hb : (l.length + 1) * bytes ≤ 140737488355328) (hn : l.length + 1 ≤ 9223372036854775807) (hZ : ∀ b, Z b → b < h.size)
    (H : ∀ s' h', Ow e Z h' s' (l ++ [x]) → Fr (blk s) h h' → (∀ b, blk s' b → blk s b ∨ h.size ≤ b) → K s' h') : rowK c t 1 [(0, e.w, .agg cs.toArray)] h fun v2 h3 => appK z t' e.w bytes s v2 h3 K := by
  refine rowK_use (fill_whole hc (e.len hx)) fun b h1 r1 e1 n1 => ?_
  have S1 := SlC.single r1
  rw [e.len hx] at S1
  refine app_ow (l2 := [x]) (hs.ext e1) S1 (fun i hi => ?_) hz (by simpa using hb) (by simpa using hn) (fun k hk => Nat.lt_of_lt_of_le (hZ k hk) e1.1) fun s' h' o' f' n' =>
    H s' h' o' (e1.fr.trans f') fun k hk => (n' k hk).imp id fun h2 => Nat.le_trans e1.1 h2
  have hi : i = 0 := by simpa using hi
  subst hi
  rw [el_self (e.len hx)]
  exact e.ext hx e1
/-- A value of one cell is put behind a row. -/
theorem push_ow1 {α : Type} {e : Rp α} {Z : Nat → Prop} {z z' c : Value} {t t' : TypeId} {bytes : Nat} {s : Value} {h : Heap} {l : List α} {x : α} {K : Value → Heap → Prop} (hw : e.w = 1)
    (hs : Ow e Z h s l) (hx : e.R Z h [c] x) (hz : z.cells.size = 1) (hb : (l.length + 1) * bytes ≤ 140737488355328) (hn : l.length + 1 ≤ 9223372036854775807) (hZ : ∀ b, Z b → b < h.size)
    (H : ∀ s' h', Ow e Z h' s' (l ++ [x]) → Fr (blk s) h h' → (∀ b, blk s' b → blk s b ∨ h.size ≤ b) → K s' h') : rowK #[z'] t 1 [(0, 1, c)] h fun v2 h3 => appK z t' 1 bytes s v2 h3 K := by
  refine rowK_use (fill_one (e.one hx c (by simp))) fun b h1 r1 e1 n1 => ?_
  have S1 := SlC.single (cs := [c]) r1
  rw [show [c].length = e.w by rw [hw]; rfl] at S1
  have ee : appK z t' 1 bytes s (.slice (some ⟨b, 0, none⟩) 1 1) h1 K = appK z t' e.w bytes s (.slice (some ⟨b, 0, none⟩) 1 1) h1 K := by rw [hw]
  rw [ee]
  refine app_ow (l2 := [x]) (hs.ext e1) S1 (fun i hi => ?_) (hz.trans hw.symm) (by simpa using hb) (by simpa using hn) (fun k hk => Nat.lt_of_lt_of_le (hZ k hk) e1.1) fun s' h' o' f' n' =>
    H s' h' o' (e1.fr.trans f') fun k hk => (n' k hk).imp id fun h2 => Nat.le_trans e1.1 h2
  have hi : i = 0 := by simpa using hi
  subst hi
  rw [el_self (e.len hx)]
  exact e.ext hx e1
end Rp

theorem ones_nil : ∀ v ∈ ([] : List Value), oneCell v = true := fun v h => absurd h (by simp)
theorem ones_cons {a : Value} {l : List Value} (h : oneCell a = true) (H : ∀ v ∈ l, oneCell v = true) : ∀ v ∈ a :: l, oneCell v = true := fun v hv => by
  rcases List.mem_cons.1 hv with rfl | hv
  · exact h
  · exact H v hv
theorem row_lt {h : Heap} {b : Nat} {o : Obj} (r : h[b]? = some o) : b < h.size := (Array.getElem?_eq_some_iff.1 r).1

theorem drawK_of {h : Heap} {body : (Heap → Prop) → Prop} (S : Heap → Prop) (hS : S h) (H : body S) : drawK h body := ⟨S, hS, H⟩

/-- A variable that is made and filled. -/
theorem var_new {c : Array Value} {t : TypeId} {n : Nat} {cs : List Value} {h : Heap} {K : Value → Heap → Prop} (hs : cs.length = c.size) (h1 : ∀ v ∈ cs, oneCell v = true) (hn : cs.length = n)
    (H : ∀ b h', h'[b]? = some (.cells cs.toArray t (0, 0)) → Ext h h' → h.size ≤ b → K (.pointer (some ⟨b, 0, none⟩)) h') : newK c t h fun v h2 => stK n v (.agg cs.toArray) h2 fun _ h3 => K v h3 :=
  newK_use fun b h2 r2 e2 n2 => st_var r2 hs h1 hn fun h3 r3 u3 => H b h3 r3 (e2.upd n2 u3) n2
end Go.Crisp
