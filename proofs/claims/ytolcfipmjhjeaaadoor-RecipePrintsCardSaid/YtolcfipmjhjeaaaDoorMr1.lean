/- Several texts of this session, one behind the other, without what this claim does not need (put together by its program pack.py). Conditions: none. -/
import Derived.Test.YtolcfipmjhjeaaaDoorMr0
import Derived.Test.YtolcfipmjhjeaaaDoorProg
import Derived.Shelf.Strconv.Itoa4
import Derived.Shelf.Strconv.Itoa3
import Derived.Shelf.Strings.OnBuilder
import Derived.Lib.ItoaLen
import Derived.WalkKit
import Derived.ProofKit
import Derived.OpenShut
import Derived.ShutString
import Derived.ChangeOld
import Derived.Below
import Derived.Carry
import Derived.SizedLaws
import Derived.LaidLaws
import Derived.LaidHandle
import Derived.LaidMore
import Derived.MakeChecks
import Derived.Handed
import Derived.Stop.Joined
import Derived.Test.YtolcfipmjhjeaaaDoorRows
import Derived.Lib.ParseIntB
import Derived.Lib.IndexLaws
import Derived.Lib.IndexMore
import Derived.Lib.DecodeN
import Derived.Lib.SmallJoins
import Derived.RangeFuncCalls
import Derived.TacticsIn
set_option linter.unusedVariables false
set_option linter.unusedSimpArgs false
set_option maxRecDepth 100000
namespace Go.Crisp
open Go
structure Rp (α : Type) where
 w : Nat
 R : (Nat → Prop) → Heap → List Value → α → Prop
 len : ∀ {Z : Nat → Prop} {h : Heap} {cs : List Value} {x : α}, R Z h cs x → cs.length = w
 one : ∀ {Z : Nat → Prop} {h : Heap} {cs : List Value} {x : α}, R Z h cs x → ∀ v ∈ cs, oneCell v = true
 fr : ∀ {Z M : Nat → Prop} {h h' : Heap} {cs : List Value} {x : α}, R Z h cs x → Fr M h h' → (∀ b, b < h.size → Z b → ¬ M b) → R Z h' cs x
 mono : ∀ {Z Z' : Nat → Prop} {h : Heap} {cs : List Value} {x : α}, R Z h cs x → (∀ b, b < h.size → Z b → Z' b) → R Z' h cs x
theorem Rp.ext {α : Type} (e : Rp α) {Z : Nat → Prop} {h h' : Heap} {cs : List Value} {x : α} (H : e.R Z h cs x) (k : Ext h h') : e.R Z h' cs x := e.fr (M := fun _ => False) H k.fr fun _ _ _ => id
theorem SlC.nil {w : Nat} {h h' : Heap} {v : Value} {n : Nat} (H : SlC w h v n []) : SlC w h' v n [] := by
 obtain ⟨hl, a, cap, rfl, H⟩ := H
 exact ⟨hl, a, cap, rfl, .inl rfl⟩
theorem SlC.isSl {w : Nat} {h : Heap} {v : Value} {n : Nat} {cs : List Value} (H : SlC w h v n cs) : ∃ a cap, v = .slice a n cap := by
 obtain ⟨_, a, cap, rfl, _⟩ := H
 exact ⟨a, cap, rfl⟩
theorem Own.isSl {w : Nat} {h : Heap} {v : Value} {n : Nat} {cs : List Value} (H : Own w h v n cs) : ∃ a cap, v = .slice a n cap := H.sl.isSl
theorem SlC.lt {w : Nat} {h : Heap} {v : Value} {n : Nat} {cs : List Value} (H : SlC w h v n cs) (h0 : cs ≠ []) {b : Nat} (hb : blk v b) : b < h.size := by
 obtain ⟨hl, a, cap, rfl, H⟩ := H
 rcases H with rfl | ⟨b', o, rfl, H⟩
 ·exact absurd rfl h0
 ·have := cell_lt (H 0 (List.length_pos_iff.2 h0))
  rw [show b = b' from hb]; exact this
namespace Rp
def int (k : IntKind) : Rp Int where
 w := 1
 R := fun _ _ cs n => cs = [.int k n]
 len := by rintro _ _ _ _ rfl; rfl
 one := by rintro _ _ _ _ rfl; simp [oneCell]
 fr := fun H _ _ => H
 mono := fun H _ => H
def bool : Rp Bool where
 w := 1
 R := fun _ _ cs n => cs = [.bool n]
 len := by rintro _ _ _ _ rfl; rfl
 one := by rintro _ _ _ _ rfl; simp [oneCell]
 fr := fun H _ _ => H
 mono := fun H _ => H
def str : Rp ByteArray where
 w := 1
 R := fun _ _ cs n => cs = [.string n]
 len := by rintro _ _ _ _ rfl; rfl
 one := by rintro _ _ _ _ rfl; simp [oneCell]
 fr := fun H _ _ => H
 mono := fun H _ => H
abbrev el (w : Nat) (ds : List Value) (i : Nat) : List Value := (ds.drop (i * w)).take w
def Sl {α : Type} (e : Rp α) (Z : Nat → Prop) (h : Heap) (v : Value) (l : List α) : Prop :=
 ∃ ds, SlC e.w h v l.length ds ∧ (ds ≠ [] → ∀ b, blk v b → Z b) ∧ ∀ i (hi : i < l.length), e.R Z h (el e.w ds i) l[i]
theorem Sl.fr {α : Type} {e : Rp α} {Z M : Nat → Prop} {h h' : Heap} {v : Value} {l : List α} (H : Sl e Z h v l) (f : Fr M h h') (q : ∀ b, b < h.size → Z b → ¬ M b) : Sl e Z h' v l := by
 obtain ⟨ds, hs, hz, he⟩ := H
 refine ⟨ds, ?_, hz, fun i hi => e.fr (he i hi) f q⟩
 by_cases h0 : ds = []
 ·subst h0; exact hs.nil
 ·exact hs.fr f fun b hb hbl => q b hb (hz h0 b hbl)
theorem Sl.ext {α : Type} {e : Rp α} {Z : Nat → Prop} {h h' : Heap} {v : Value} {l : List α} (H : Sl e Z h v l) (k : Ext h h') : Sl e Z h' v l := H.fr (M := fun _ => False) k.fr fun _ _ _ => id
theorem Sl.mono {α : Type} {e : Rp α} {Z Z' : Nat → Prop} {h : Heap} {v : Value} {l : List α} (H : Sl e Z h v l) (q : ∀ b, b < h.size → Z b → Z' b) : Sl e Z' h v l := by
 obtain ⟨ds, hs, hz, he⟩ := H
 exact ⟨ds, hs, fun h0 b hb => q b (hs.lt h0 hb) (hz h0 b hb), fun i hi => e.mono (he i hi) q⟩
theorem Sl.isSl {α : Type} {e : Rp α} {Z : Nat → Prop} {h : Heap} {v : Value} {l : List α} (H : Sl e Z h v l) : ∃ a cap, v = .slice a l.length cap := by
 obtain ⟨ds, hs, _⟩ := H
 exact hs.isSl
theorem Sl.one {α : Type} {e : Rp α} {Z : Nat → Prop} {h : Heap} {v : Value} {l : List α} (H : Sl e Z h v l) : oneCell v = true := by
 obtain ⟨a, cap, rfl⟩ := H.isSl; rfl
theorem Sl.nil {α : Type} {e : Rp α} {Z : Nat → Prop} {h : Heap} : Sl e Z h (.slice none 0 0) [] := ⟨[], ⟨by simp, none, 0, rfl, .inl rfl⟩, fun h => absurd rfl h, fun i hi => absurd hi (by simp)⟩
def sl {α : Type} (e : Rp α) : Rp (List α) where
 w := 1
 R := fun Z h cs l => ∃ v, cs = [v] ∧ Sl e Z h v l
 len := by rintro _ _ _ _ ⟨v, rfl, _⟩; rfl
 one := by
  rintro _ _ _ _ ⟨v, rfl, H⟩ u hu
  rw [List.mem_singleton.1 hu]; exact H.one
 fr := by rintro _ _ _ _ _ _ ⟨v, rfl, H⟩ f q; exact ⟨v, rfl, H.fr f q⟩
 mono := by rintro _ _ _ _ _ ⟨v, rfl, H⟩ q; exact ⟨v, rfl, H.mono q⟩
theorem el_len {w : Nat} {ds : List Value} {n i : Nat} (hl : ds.length = n * w) (hi : i < n) : (el w ds i).length = w := by
 have : i * w + w ≤ n * w := by rw [← Nat.succ_mul]; exact Nat.mul_le_mul_right w hi
 show ((ds.drop (i * w)).take w).length = w
 rw [List.length_take, List.length_drop]; omega
theorem el_one {ds : List Value} {i : Nat} (hi : i < ds.length) : el 1 ds i = [ds[i]] := by
 show (ds.drop (i * 1)).take 1 = [ds[i]]
 rw [Nat.mul_one, List.drop_eq_getElem_cons hi]; rfl
theorem el_app_old {w : Nat} {ds cs : List Value} {n i : Nat} (hl : ds.length = n * w) (hi : i < n) : el w (ds ++ cs) i = el w ds i := by
 have : i * w + w ≤ n * w := by rw [← Nat.succ_mul]; exact Nat.mul_le_mul_right w hi
 show ((ds ++ cs).drop (i * w)).take w = (ds.drop (i * w)).take w
 rw [List.drop_append_of_le_length (by omega), List.take_append_of_le_length (by rw [List.length_drop]; omega)]
theorem el_app_new {w : Nat} {ds cs : List Value} {n i : Nat} (hl : ds.length = n * w) (hi : n ≤ i) : el w (ds ++ cs) i = el w cs (i - n) := by
 have : n * w ≤ i * w := Nat.mul_le_mul_right w hi
 show ((ds ++ cs).drop (i * w)).take w = (cs.drop ((i - n) * w)).take w
 rw [List.drop_append, @List.drop_eq_nil_of_le _ ds _ (by omega), List.nil_append, hl, Nat.sub_mul]
theorem el_self {w : Nat} {cs : List Value} (hl : cs.length = w) : el w cs 0 = cs := by
 show (cs.drop (0 * w)).take w = cs
 rw [Nat.zero_mul, List.drop_zero]; exact List.take_of_length_le (by omega)
theorem Sl.atw {α : Type} {e : Rp α} {Z : Nat → Prop} {h : Heap} {v : Value} {l : List α} (H : Sl e Z h v l) (hw : 0 < e.w) {k : IntKind} {i : Nat} (hi : i < l.length) :
  ∃ p cs, idxV e.w v (.int k (i : Int)) = some p ∧ ldsV e.w h p = some (.agg (List.toArray cs)) ∧ e.R Z h cs l[i] := by
 obtain ⟨ds, hs, hz, he⟩ := H
 obtain ⟨p, hp, hq⟩ := hs.atw hw (k := k) hi
 exact ⟨p, _, hp, hq, he i hi⟩
theorem Sl.at1 {α : Type} {e : Rp α} (hw : e.w = 1) {Z : Nat → Prop} {h : Heap} {v : Value} {l : List α} (H : Sl e Z h v l) {k : IntKind} {i : Nat} (hi : i < l.length) :
  ∃ p c, idxV 1 v (.int k (i : Int)) = some p ∧ ldV h p = some c ∧ e.R Z h [c] l[i] := by
 obtain ⟨ds, hs, hz, he⟩ := H
 have hl := hs.1
 rw [hw] at hs
 obtain ⟨p, hp, hq⟩ := hs.at1 (k := k) hi
 refine ⟨p, _, hp, hq, ?_⟩
 have := he i hi
 rw [hw, el_one (by rw [hl, hw]; omega)] at this
 exact this
def Ow {α : Type} (e : Rp α) (Z : Nat → Prop) (h : Heap) (v : Value) (l : List α) : Prop :=
 ∃ ds, Own e.w h v l.length ds ∧ (∀ b, blk v b → ¬ Z b) ∧ ∀ i (hi : i < l.length), e.R Z h (el e.w ds i) l[i]
theorem Ow.nil {α : Type} {e : Rp α} {Z : Nat → Prop} {h : Heap} : Ow e Z h (.slice none 0 0) [] := ⟨[], .inl ⟨rfl, rfl, rfl⟩, fun b hb => hb.elim, fun i hi => absurd hi (by simp)⟩
theorem Ow.fr {α : Type} {e : Rp α} {Z M : Nat → Prop} {h h' : Heap} {v : Value} {l : List α} (H : Ow e Z h v l) (f : Fr M h h') (q : ∀ b, b < h.size → Z b → ¬ M b) (q' : ∀ b, blk v b → ¬ M b) : Ow e Z h' v l := by
 obtain ⟨ds, hs, hz, he⟩ := H
 exact ⟨ds, hs.fr f q', hz, fun i hi => e.fr (he i hi) f q⟩
theorem Ow.ext {α : Type} {e : Rp α} {Z : Nat → Prop} {h h' : Heap} {v : Value} {l : List α} (H : Ow e Z h v l) (k : Ext h h') : Ow e Z h' v l := H.fr (M := fun _ => False) k.fr (fun _ _ _ => id) fun _ _ => id
theorem Ow.mono {α : Type} {e : Rp α} {Z Z' : Nat → Prop} {h : Heap} {v : Value} {l : List α} (H : Ow e Z h v l) (q : ∀ b, b < h.size → Z b → Z' b) (q' : ∀ b, blk v b → ¬ Z' b) : Ow e Z' h v l := by
 obtain ⟨ds, hs, hz, he⟩ := H
 exact ⟨ds, hs, q', fun i hi => e.mono (he i hi) q⟩
theorem Ow.lt {α : Type} {e : Rp α} {Z : Nat → Prop} {h : Heap} {v : Value} {l : List α} (H : Ow e Z h v l) {b : Nat} (hb : blk v b) : b < h.size := by
 obtain ⟨ds, hs, _⟩ := H
 exact hs.lt hb
theorem Ow.isSl {α : Type} {e : Rp α} {Z : Nat → Prop} {h : Heap} {v : Value} {l : List α} (H : Ow e Z h v l) : ∃ a cap, v = .slice a l.length cap := by
 obtain ⟨ds, hs, _⟩ := H
 exact hs.isSl
theorem Ow.one {α : Type} {e : Rp α} {Z : Nat → Prop} {h : Heap} {v : Value} {l : List α} (H : Ow e Z h v l) : oneCell v = true := by
 obtain ⟨a, cap, rfl⟩ := H.isSl; rfl
theorem Ow.sl {α : Type} {e : Rp α} {Z : Nat → Prop} {h : Heap} {v : Value} {l : List α} (H : Ow e Z h v l) : Sl e (fun b => Z b ∨ blk v b) h v l := by
 obtain ⟨ds, hs, hz, he⟩ := H
 exact ⟨ds, hs.sl, fun _ b hb => .inr hb, fun i hi => e.mono (he i hi) fun _ _ hb => .inl hb⟩
theorem app_ow {α : Type} {e : Rp α} {Z : Nat → Prop} {z : Value} {t : TypeId} {bytes : Nat} {s x : Value} {h : Heap} {l l2 : List α} {K : Value → Heap → Prop}
  {cs : List Value} (hs : Ow e Z h s l) (hc : SlC e.w h x l2.length cs) (hce : ∀ i (hi : i < l2.length), e.R Z h (el e.w cs i) l2[i]) (hz : z.cells.size = e.w) (hb : (l.length + l2.length) * bytes ≤ 140737488355328) (hn : l.length + l2.length ≤ 9223372036854775807) (hZ : ∀ b, Z b → b < h.size)
  (H : ∀ s' h', Ow e Z h' s' (l ++ l2) → Fr (blk s) h h' → (∀ b, blk s' b → blk s b ∨ h.size ≤ b) → K s' h') : appK z t e.w bytes s x h K := by
 obtain ⟨ds, ho, hd, he⟩ := hs
 refine appK_own ho hc ?_ hz hb hn fun s' h' o' f' n' => H s' h' ⟨ds ++ cs, ?_, ?_, ?_⟩ f' n'
 ·intro v hv
  obtain ⟨j, hj, rfl⟩ := List.mem_iff_getElem.1 hv
  have hl := hc.1
  have hw : 0 < e.w := by
   rcases Nat.eq_zero_or_pos e.w with h0 | h0
   ·rw [h0, Nat.mul_zero] at hl; omega
   ·exact h0
  have hi : j / e.w < l2.length := by rw [Nat.div_lt_iff_lt_mul hw]; omega
  have := e.one (hce _ hi) (cs[j]) ?_
  ·exact this
  ·rw [List.mem_iff_getElem]
   have h1 : j / e.w * e.w + j % e.w = j := by rw [Nat.mul_comm]; exact Nat.div_add_mod j e.w
   have h2 : j % e.w < e.w := Nat.mod_lt _ hw
   refine ⟨j % e.w, by rw [el_len hl hi]; exact h2, ?_⟩
   simp only [List.getElem_take, List.getElem_drop, h1]
 ·rw [List.length_append]; exact o'
 ·intro b hb hZb
  rcases n' b hb with h1 | h1
  ·exact hd b h1 hZb
  ·have := hZ b hZb; omega
 ·intro i hi
  rw [List.length_append] at hi
  by_cases h1 : i < l.length
  ·rw [el_app_old ho.sl.1 h1, List.getElem_append_left h1]
   exact e.fr (he i h1) f' fun b _ hZb hb => hd b hb hZb
  ·rw [el_app_new ho.sl.1 (by omega), List.getElem_append_right (by omega)]
   exact e.fr (hce _ (by omega)) f' fun b _ hZb hb => hd b hb hZb
theorem SlC.single {h : Heap} {b : Nat} {t : TypeId} {cs : List Value} (r : h[b]? = some (.cells cs.toArray t (0, 0))) : SlC cs.length h (.slice (some ⟨b, 0, none⟩) 1 1) 1 cs :=
 ⟨by simp, _, 1, rfl, .inr ⟨b, 0, rfl, fun j hj => by rw [Nat.zero_add, cell_row r]; simp [hj]⟩⟩
theorem foldl_set : ∀ (cs : List Value) (c : Array Value) (o : Nat), (cs.zipIdx o).foldl (fun cs (p : Value × Nat) => cs.setIfInBounds p.2 p.1) c = wrL c o cs
 | [], c, o => rfl
 | v :: cs, c, o => by
  simp only [List.zipIdx_cons, List.foldl_cons, wrL]
  exact foldl_set cs _ (o + 1)
theorem fill_whole {c : Array Value} {w : Nat} {cs : List Value} (hc : c.size = w) (hl : cs.length = w) : fillL c [(0, w, .agg cs.toArray)] = some cs.toArray := by
 simp only [fillL, cells_agg]
 rw [if_neg (by simp [hl, hc])]
 congr 1
 rw [Array.zipIdx_toArray, List.foldl_toArray']
 ·simp only [Nat.zero_add]
  rw [foldl_set, wrL_all cs c (by omega)]
 ·simp
theorem fill_one {z v : Value} (hv : oneCell v = true) : fillL #[z] [(0, 1, v)] = some #[v] := by
 simp only [fillL, cells_one hv]
 rw [if_neg (by simp)]
 simp
theorem push_ow {α : Type} {e : Rp α} {Z : Nat → Prop} {z : Value} {c : Array Value} {t t' : TypeId} {bytes : Nat} {s : Value} {h : Heap} {l : List α} {cs : List Value} {x : α} {K : Value → Heap → Prop}
  (hs : Ow e Z h s l) (hx : e.R Z h cs x) (hc : c.size = e.w) (hz : z.cells.size = e.w) (hb : (l.length + 1) * bytes ≤ 140737488355328) (hn : l.length + 1 ≤ 9223372036854775807) (hZ : ∀ b, Z b → b < h.size)
  (H : ∀ s' h', Ow e Z h' s' (l ++ [x]) → Fr (blk s) h h' → (∀ b, blk s' b → blk s b ∨ h.size ≤ b) → K s' h') : rowK c t 1 [(0, e.w, .agg cs.toArray)] h fun v2 h3 => appK z t' e.w bytes s v2 h3 K := by
 refine rowK_use (fill_whole hc (e.len hx)) fun b h1 r1 e1 n1 => ?_
 have S1 := SlC.single r1
 rw [e.len hx] at S1
 refine app_ow (l2 := [x]) (hs.ext e1) S1 (fun i hi => ?_) hz (by simpa using hb) (by simpa using hn) (fun k hk => Nat.lt_of_lt_of_le (hZ k hk) e1.1) fun s' h' o' f' n' =>
  H s' h' o' (e1.fr.trans f') fun k hk => (n' k hk).imp id fun h2 => Nat.le_trans e1.1 h2
 have hi : i = 0 := by simpa using hi
 subst hi
 rw [el_self (e.len hx)]
 exact e.ext hx e1
theorem push_ow1 {α : Type} {e : Rp α} {Z : Nat → Prop} {z z' c : Value} {t t' : TypeId} {bytes : Nat} {s : Value} {h : Heap} {l : List α} {x : α} {K : Value → Heap → Prop} (hw : e.w = 1)
  (hs : Ow e Z h s l) (hx : e.R Z h [c] x) (hz : z.cells.size = 1) (hb : (l.length + 1) * bytes ≤ 140737488355328) (hn : l.length + 1 ≤ 9223372036854775807) (hZ : ∀ b, Z b → b < h.size)
  (H : ∀ s' h', Ow e Z h' s' (l ++ [x]) → Fr (blk s) h h' → (∀ b, blk s' b → blk s b ∨ h.size ≤ b) → K s' h') : rowK #[z'] t 1 [(0, 1, c)] h fun v2 h3 => appK z t' 1 bytes s v2 h3 K := by
 refine rowK_use (fill_one (e.one hx c (by simp))) fun b h1 r1 e1 n1 => ?_
 have S1 := SlC.single (cs := [c]) r1
 rw [show [c].length = e.w by rw [hw]; rfl] at S1
 have ee : appK z t' 1 bytes s (.slice (some ⟨b, 0, none⟩) 1 1) h1 K = appK z t' e.w bytes s (.slice (some ⟨b, 0, none⟩) 1 1) h1 K := by rw [hw]
 rw [ee]
 refine app_ow (l2 := [x]) (hs.ext e1) S1 (fun i hi => ?_) (hz.trans hw.symm) (by simpa using hb) (by simpa using hn) (fun k hk => Nat.lt_of_lt_of_le (hZ k hk) e1.1) fun s' h' o' f' n' =>
  H s' h' o' (e1.fr.trans f') fun k hk => (n' k hk).imp id fun h2 => Nat.le_trans e1.1 h2
 have hi : i = 0 := by simpa using hi
 subst hi
 rw [el_self (e.len hx)]
 exact e.ext hx e1
end Rp
theorem ones_nil : ∀ v ∈ ([] : List Value), oneCell v = true := fun v h => absurd h (by simp)
theorem ones_cons {a : Value} {l : List Value} (h : oneCell a = true) (H : ∀ v ∈ l, oneCell v = true) : ∀ v ∈ a :: l, oneCell v = true := fun v hv => by
 rcases List.mem_cons.1 hv with rfl | hv
 ·exact h
 ·exact H v hv
theorem row_lt {h : Heap} {b : Nat} {o : Obj} (r : h[b]? = some o) : b < h.size := (Array.getElem?_eq_some_iff.1 r).1
theorem drawK_of {h : Heap} {body : (Heap → Prop) → Prop} (S : Heap → Prop) (hS : S h) (H : body S) : drawK h body := ⟨S, hS, H⟩
theorem var_new {c : Array Value} {t : TypeId} {n : Nat} {cs : List Value} {h : Heap} {K : Value → Heap → Prop} (hs : cs.length = c.size) (h1 : ∀ v ∈ cs, oneCell v = true) (hn : cs.length = n)
  (H : ∀ b h', h'[b]? = some (.cells cs.toArray t (0, 0)) → Ext h h' → h.size ≤ b → K (.pointer (some ⟨b, 0, none⟩)) h') : newK c t h fun v h2 => stK n v (.agg cs.toArray) h2 fun _ h3 => K v h3 :=
 newK_use fun b h2 r2 e2 n2 => st_var r2 hs h1 hn fun h3 r3 u3 => H b h3 r3 (e2.upd n2 u3) n2
def S (l : List UInt8) : Value := .string ⟨⟨l⟩⟩
theorem S_lit (l : List UInt8) : Value.string ⟨l.toArray⟩ = S l := rfl
theorem S_nil : Value.string ⟨#[]⟩ = S [] := rfl
theorem one_S (l : List UInt8) : oneCell (S l) = true := rfl
theorem binS_add {a b : List UInt8} (h : a.length + b.length ≤ 9223372036854775807) : binV .s .add (S a) (S b) = some (S (a ++ b)) := by
 have e : (ByteArray.mk (Array.mk a) ++ ByteArray.mk (Array.mk b)) = ByteArray.mk (Array.mk (a ++ b)) := by
  apply ByteArray.ext
  rw [ByteArray.data_append]
  simp
 have hs : ∀ l : List UInt8, (ByteArray.mk (Array.mk l)).size = l.length := fun l => rfl
 show (if (((ByteArray.mk (Array.mk a)).size + (ByteArray.mk (Array.mk b)).size : Nat) : Int) > IntKind.i64.max then none else some (Value.string (ByteArray.mk (Array.mk a) ++ ByteArray.mk (Array.mk b)))) = _
 have hm : IntKind.i64.max = 9223372036854775807 := rfl
 rw [e, hs, hs, if_neg (by rw [hm]; omega)]
 rfl
theorem binS_eql (a b : List UInt8) : binV .s .eql (S a) (S b) = some (.bool (decide (a = b))) := by
 show some (Value.bool ((ByteArray.mk (Array.mk a)).toList == (ByteArray.mk (Array.mk b)).toList)) = _
 rw [ByteArray.toList_eq, ByteArray.toList_eq]
 congr 2
 by_cases h : a = b
 ·subst h; simp
 ·rw [decide_eq_false h]; simpa using h
theorem binS_neq (a b : List UInt8) : binV .s .neq (S a) (S b) = some (.bool (!decide (a = b))) := by
 show some (Value.bool (!((ByteArray.mk (Array.mk a)).toList == (ByteArray.mk (Array.mk b)).toList))) = _
 rw [ByteArray.toList_eq, ByteArray.toList_eq]
 congr 3
 by_cases h : a = b
 ·subst h; simp
 ·rw [decide_eq_false h]; simpa using h
theorem lenS (l : List UInt8) : lenstV (S l) = some (.int .i64 l.length) := rfl
theorem cvrs_lit (k : IntKind) (n : Int) (l : List UInt8) (h : Utf8.encode n = ⟨⟨l⟩⟩) : cvrsV (.int k n) = some (S l) := by
 show some (Value.string (Utf8.encode n)) = _
 rw [h]; rfl
namespace Rp
def bs : Rp (List UInt8) where
 w := 1
 R := fun _ _ cs n => cs = [S n]
 len := by rintro _ _ _ _ rfl; rfl
 one := by rintro _ _ _ _ rfl; simp [one_S]
 fr := fun H _ _ => H
 mono := fun H _ => H
end Rp
attribute [go_sem] S_lit binS_eql binS_neq lenS
def Words (h : Heap) (v : Value) (l : List (List UInt8)) : Prop := Rp.Ow Rp.bs (fun _ => False) h v l
theorem Words.own {h : Heap} {v : Value} {l : List (List UInt8)} (H : Words h v l) : Own 1 h v l.length (l.map S) := by
 obtain ⟨ds, ho, _, he⟩ := H
 have hl : ds.length = l.length := by have := ho.sl.1; simpa [Rp.bs] using this
 have : ds = l.map S := by
  apply List.ext_getElem
  ·simpa using hl
  ·intro i h1 h2
   have := he i (by omega)
   have e : Rp.el 1 ds i = [ds[i]] := Rp.el_one h1
   have this : Rp.el 1 ds i = [S l[i]] := this
   rw [e] at this
   simpa using this
 subst this
 exact ho
def gD (b w : Bool) (v : Value) : Value := bif b == w then v else undef
theorem gD_tt (v : Value) : gD true true v = v := Eq.trans rfl rfl
theorem gD_ff (v : Value) : gD false false v = v := Eq.trans rfl rfl
theorem gD_tf (v : Value) : gD true false v = undef := Eq.trans rfl rfl
theorem gD_ft (v : Value) : gD false true v = undef := Eq.trans rfl rfl
theorem gD_gD (b w : Bool) (v : Value) : gD b w (gD b w v) = gD b w v := by cases b <;> cases w <;> rfl
theorem gV_gD (b w : Bool) (v : Value) : gV (.bool b) w (some v) = some (gD b w v) := by cases b <;> cases w <;> rfl
theorem gV_un (b w : Bool) (o : UnOp) (v : Value) : gV (.bool b) w (unV o (gD b w v)) = gV (.bool b) w (unV o v) := by cases b <;> cases w <;> rfl
theorem gV_binl (b w : Bool) (e : EK) (o : BinOp) (v u : Value) : gV (.bool b) w (binV e o (gD b w v) u) = gV (.bool b) w (binV e o v u) := by cases b <;> cases w <;> rfl
theorem gV_binr (b w : Bool) (e : EK) (o : BinOp) (v u : Value) : gV (.bool b) w (binV e o u (gD b w v)) = gV (.bool b) w (binV e o u v) := by cases b <;> cases w <;> rfl
theorem gV_cvi (b w : Bool) (k : IntKind) (v : Value) : gV (.bool b) w (cviV k (gD b w v)) = gV (.bool b) w (cviV k v) := by cases b <;> cases w <;> rfl
theorem gV_fld (b w : Bool) (n : Nat) (v : Value) : gV (.bool b) w (fldV n (gD b w v)) = gV (.bool b) w (fldV n v) := by cases b <;> cases w <;> rfl
theorem gV_ld (b w : Bool) (h : Heap) (v : Value) : gV (.bool b) w (ldV h (gD b w v)) = gV (.bool b) w (ldV h v) := by cases b <;> cases w <;> rfl
theorem gV_lds (b w : Bool) (n : Nat) (h : Heap) (v : Value) : gV (.bool b) w (ldsV n h (gD b w v)) = gV (.bool b) w (ldsV n h v) := by cases b <;> cases w <;> rfl
theorem gV_idxl (b w : Bool) (n : Nat) (v u : Value) : gV (.bool b) w (idxV n (gD b w v) u) = gV (.bool b) w (idxV n v u) := by cases b <;> cases w <;> rfl
theorem gV_idxr (b w : Bool) (n : Nat) (v u : Value) : gV (.bool b) w (idxV n u (gD b w v)) = gV (.bool b) w (idxV n u v) := by cases b <;> cases w <;> rfl
theorem gV_lensl (b w : Bool) (v : Value) : gV (.bool b) w (lenslV (gD b w v)) = gV (.bool b) w (lenslV v) := by cases b <;> cases w <;> rfl
theorem gV_lenst (b w : Bool) (v : Value) : gV (.bool b) w (lenstV (gD b w v)) = gV (.bool b) w (lenstV v) := by cases b <;> cases w <;> rfl
theorem gV_ext (b w : Bool) (n : Nat) (v : Value) : gV (.bool b) w (extV (gD b w v) n) = gV (.bool b) w (extV v n) := by cases b <;> cases w <;> rfl
theorem gV_nil (b w : Bool) (v : Value) : gV (.bool b) w (nilV (gD b w v)) = gV (.bool b) w (nilV v) := by cases b <;> cases w <;> rfl
theorem gV_maxl (b w : Bool) (v u : Value) : gV (.bool b) w (maxV (gD b w v) u) = gV (.bool b) w (maxV v u) := by cases b <;> cases w <;> rfl
theorem gV_maxr (b w : Bool) (v u : Value) : gV (.bool b) w (maxV u (gD b w v)) = gV (.bool b) w (maxV u v) := by cases b <;> cases w <;> rfl
theorem gV_minl (b w : Bool) (v u : Value) : gV (.bool b) w (minV (gD b w v) u) = gV (.bool b) w (minV v u) := by cases b <;> cases w <;> rfl
theorem gV_minr (b w : Bool) (v u : Value) : gV (.bool b) w (minV u (gD b w v)) = gV (.bool b) w (minV u v) := by cases b <;> cases w <;> rfl
theorem gV_part (b w a : Bool) (n o : Nat) (v : Value) : gV (.bool b) w (partV a n o (gD b w v)) = gV (.bool b) w (partV a n o v) := by cases b <;> cases w <;> rfl
theorem gV_pick0 (b w : Bool) (v u x : Value) : gV (.bool b) w (pickV (gD b w v) u x) = gV (.bool b) w (pickV v u x) := by cases b <;> cases w <;> rfl
theorem gV_pick1 (b w : Bool) (v u x : Value) : gV (.bool b) w (pickV v (gD b w u) x) = gV (.bool b) w (pickV v u x) := by cases b <;> cases w <;> rfl
theorem gV_pick2 (b w : Bool) (v u x : Value) : gV (.bool b) w (pickV v u (gD b w x)) = gV (.bool b) w (pickV v u x) := by cases b <;> cases w <;> rfl
theorem pick_and (b c : Bool) : pickV (.bool b) (gD b true (.bool c)) (.bool false) = some (.bool (b && c)) := by cases b <;> rfl
theorem pick_or (b c : Bool) : pickV (.bool b) (.bool true) (gD b false (.bool c)) = some (.bool (b || c)) := by cases b <;> rfl
theorem gV_guard (b w c w2 : Bool) (r : Option Value) : gV (gD b w (.bool c)) w2 r = gV (.bool ((b == w) && (c == w2))) true r := by cases b <;> cases w <;> cases c <;> cases w2 <;> rfl
theorem gK_guard (b w c w2 : Bool) (m : (Value → Heap → Prop) → Prop) (h : Heap) (K : Value → Heap → Prop) : gK (gD b w (.bool c)) w2 m h K = gK (.bool ((b == w) && (c == w2))) true m h K := by cases b <;> cases w <;> cases c <;> cases w2 <;> rfl
theorem gV_and_t (b c d : Bool) : gV (.bool b) true (pickV (.bool c) (gD (b && c) true (.bool d)) (.bool false)) = some (gD b true (.bool (c && d))) := by cases b <;> cases c <;> rfl
theorem gV_and_f (b c d : Bool) : gV (.bool b) false (pickV (.bool c) (gD (!b && c) true (.bool d)) (.bool false)) = some (gD b false (.bool (c && d))) := by cases b <;> cases c <;> rfl
theorem gV_or_t (b c d : Bool) : gV (.bool b) true (pickV (.bool c) (.bool true) (gD (b && !c) true (.bool d))) = some (gD b true (.bool (c || d))) := by cases b <;> cases c <;> rfl
theorem gV_or_f (b c d : Bool) : gV (.bool b) false (pickV (.bool c) (.bool true) (gD (!b && !c) true (.bool d))) = some (gD b false (.bool (c || d))) := by cases b <;> cases c <;> rfl
theorem gV_and_td (p q : Prop) [Decidable p] [Decidable q] (d : Bool) : gV (.bool (decide p)) true (pickV (.bool (decide q)) (gD (decide (p ∧ q)) true (.bool d)) (.bool false)) = some (gD (decide p) true (.bool (decide q && d))) := by rw [Bool.decide_and]; exact gV_and_t _ _ _
theorem gV_and_fd (p q : Prop) [Decidable p] [Decidable q] (d : Bool) : gV (.bool (decide p)) false (pickV (.bool (decide q)) (gD (decide (¬ p ∧ q)) true (.bool d)) (.bool false)) = some (gD (decide p) false (.bool (decide q && d))) := by rw [Bool.decide_and, decide_not]; exact gV_and_f _ _ _
theorem gV_or_td (p q : Prop) [Decidable p] [Decidable q] (d : Bool) : gV (.bool (decide p)) true (pickV (.bool (decide q)) (.bool true) (gD (decide (p ∧ ¬ q)) true (.bool d))) = some (gD (decide p) true (.bool (decide q || d))) := by rw [Bool.decide_and, decide_not]; exact gV_or_t _ _ _
theorem gV_or_fd (p q : Prop) [Decidable p] [Decidable q] (d : Bool) : gV (.bool (decide p)) false (pickV (.bool (decide q)) (.bool true) (gD (decide (¬ p ∧ ¬ q)) true (.bool d))) = some (gD (decide p) false (.bool (decide q || d))) := by rw [Bool.decide_and, decide_not, decide_not]; exact gV_or_f _ _ _
theorem beq_t (b : Bool) : (b == true) = b := by cases b <;> rfl
theorem beq_f (b : Bool) : (b == false) = !b := by cases b <;> rfl
theorem dec_and (p q : Prop) [Decidable p] [Decidable q] : (decide p && decide q) = decide (p ∧ q) := (Bool.decide_and p q).symm
theorem dec_or (p q : Prop) [Decidable p] [Decidable q] : (decide p || decide q) = decide (p ∨ q) := (Bool.decide_or p q).symm
theorem dec_not (p : Prop) [Decidable p] : (!decide p) = decide (¬ p) := decide_not.symm
theorem dec_ta (p : Prop) [Decidable p] : decide (True ∧ p) = decide p := by by_cases h : p <;> simp [h]
theorem dec_at (p : Prop) [Decidable p] : decide (p ∧ True) = decide p := by by_cases h : p <;> simp [h]
theorem dec_fa (p : Prop) [Decidable p] : decide (False ∧ p) = false := by simp
theorem dec_af (p : Prop) [Decidable p] : decide (p ∧ False) = false := by simp
theorem Upd.refl {b : Nat} {h : Heap} : Upd b h h := ⟨rfl, fun _ _ => rfl⟩
theorem Upd.trans {b : Nat} {h h1 h2 : Heap} (u : Upd b h h1) (v : Upd b h1 h2) : Upd b h h2 := ⟨v.1.trans u.1, fun k hk => (v.2 k hk).trans (u.2 k hk)⟩
attribute [go_sem] gD_gD gD_tt gD_ff gD_tf gD_ft gV_gD gV_un gV_binl gV_binr gV_cvi gV_fld gV_ld gV_lds gV_idxl gV_idxr gV_lensl gV_lenst gV_ext gV_nil gV_maxl gV_maxr gV_minl gV_minr gV_part gV_pick0 gV_pick1 gV_pick2 true_or or_true false_or or_false dec_ta dec_at dec_fa dec_af pick_and pick_or gV_guard gK_guard gV_and_t gV_and_f gV_or_t gV_or_f gV_and_td gV_and_fd gV_or_td gV_or_fd beq_t beq_f dec_and dec_or dec_not
attribute [irreducible] gD
end Go.Crisp
namespace Go.Proofs.YtolcfipmjhjeaaaDoor
open Go Go.Crisp
attribute [local irreducible] FCall rowK newK stK iteK vK qK drawK gK joinK loopK mkK appK cpyK
def bName (b : Int) : List UInt8 := if b = 0 then [99, 108, 97, 109, 112] else if b = 1 then [109, 105, 114, 114, 111, 114] else if b = 2 then [119, 114, 97, 112] else []
def fName (b : Int) : List UInt8 := if b = 0 then [98, 111, 120] else if b = 1 then [99, 117, 98, 105, 99] else if b = 2 then [108, 97, 110, 99, 122, 111, 115] else []
theorem c_borderName {h : Heap} (G : GlobB h) {b : Int} :
  FCall Tryd.prog F_border_Name #[.int .i64 b] h fun r h' => r = S (bName b) ∧ h' = h := by
 apply ok_border_Name
 unfold sh_border_Name
 obtain ⟨v, hv, H⟩ := G.names
 obtain ⟨a, cap, rfl⟩ := H.isSl
 simp only [go_sem, hv]
 refine iteK_dec (fun h1 => ?_) (fun h1 => ?_)
 ·refine ⟨?_, trivial⟩
  unfold bName
  rw [if_neg (by omega), if_neg (by omega), if_neg (by omega)]
 ·obtain ⟨n, rfl⟩ : ∃ n : Nat, b = (n : Int) := ⟨b.toNat, by omega⟩
  obtain ⟨p, hp, hl⟩ := H.at1 (k := .i64) (i := n) (by omega)
  simp only [go_sem, hp, hl]
  refine ⟨?_, trivial⟩
  have hn : n < 3 := by omega
  have key : ∀ (i : Nat) (hi : i < [Value.string (borderName 0), Value.string (borderName 1), Value.string (borderName 2)].length), [Value.string (borderName 0), Value.string (borderName 1), Value.string (borderName 2)][i] = S (bName (i : Int)) := fun i hi => by
   match i, hi with
   | 0, _ => rfl
   | 1, _ => rfl
   | 2, _ => rfl
  exact key n _
theorem c_rawName {h : Heap} (G : GlobB h) {b : Int} :
  FCall Tryd.prog F_raw_Name #[.int .i64 b] h fun r h' => r = S (fName b) ∧ h' = h := by
 apply ok_raw_Name
 unfold sh_raw_Name
 simp only [go_sem]
 refine iteK_dec (fun h1 => ?_) (fun h1 => ?_)
 ·refine ⟨?_, trivial⟩
  unfold fName
  rw [if_neg (by omega), if_neg (by omega), if_neg (by omega)]
 ·obtain ⟨n, rfl⟩ : ∃ n : Nat, b = (n : Int) := ⟨b.toNat, by omega⟩
  have hn : n < 3 := by omega
  have hk := (G.kinds n hn).1
  have e : idxaV 3 2 (.pointer (some ⟨G_raw_kinds, 0, none⟩)) (.int .i64 (n : Int)) = some (.pointer (some ⟨G_raw_kinds, 2 * n, none⟩)) := by
   show (if 0 ≤ (n : Int) ∧ (n : Int) < ((3 : Nat) : Int) then some (Value.pointer (some ((⟨G_raw_kinds, 0, none⟩ : Addr).add ((n : Int).toNat * 2)))) else none) = _
   rw [if_pos (by omega), add_lit, Int.toNat_natCast, Nat.zero_add, Nat.mul_comm]
  simp only [go_sem, e, Nat.add_zero, hk]
  refine ⟨?_, trivial⟩
  clear h1 hk e
  match n, hn with
  | 0, _ => rfl
  | 1, _ => rfl
  | 2, _ => rfl
end Go.Proofs.YtolcfipmjhjeaaaDoor
namespace Go.Proofs.YtolcfipmjhjeaaaDoor
open Go Go.Crisp
def ren_lay_FormatInt : Go.Shelf.Ren := ⟨fun n => match n with | 129 => 70 | 173 => 31 | 246 => 49 | 283 => 60 | 284 => 61 | 285 => 62 | 286 => 63 | 317 => 69 | 318 => 71 | 319 => 72 | 320 => 73 | 337 => 83 | 338 => 84 | n => n, fun n => match n with | 0 => 0 | 2 => 2 | 3 => 3 | 4 => 4 | 5 => 5 | 9 => 9 | 20 => 20 | 37 => 85 | 46 => 109 | 51 => 120 | 53 => 100 | 171 => 103 | 173 => 106 | 212 => 119 | 213 => 121 | 232 => 139 | 233 => 140 | n => n, fun n => match n with | 17 => 4 | 18 => 8 | 19 => 9 | n => n⟩
theorem lay_FormatInt : Go.Proofs.LaysM.n173 Tryd.prog ren_lay_FormatInt where
 mixed := by kernel_rfl
 f129 := by kernel_rfl
 f173 := by kernel_rfl
 f246 := by kernel_rfl
 f283 := by kernel_rfl
 f284 := by kernel_rfl
 f285 := by kernel_rfl
 f286 := by kernel_rfl
 f317 := by kernel_rfl
 f318 := by kernel_rfl
 f319 := by kernel_rfl
 f320 := by kernel_rfl
 f337 := by kernel_rfl
 f338 := by kernel_rfl
 t0 := by kernel_rfl
 a0 := fun w => run_isAgg' (by kernel_rfl)
 z0 := fun w => run_sizeOf' (by kernel_rfl)
 v0 := fun w => run_zeroValue' (by kernel_rfl)
 t2 := by kernel_rfl
 a2 := fun w => run_isAgg' (by kernel_rfl)
 z2 := fun w => run_sizeOf' (by kernel_rfl)
 v2 := fun w => run_zeroValue' (by kernel_rfl)
 t3 := by kernel_rfl
 a3 := fun w => run_isAgg' (by kernel_rfl)
 z3 := fun w => run_sizeOf' (by kernel_rfl)
 v3 := fun w => run_zeroValue' (by kernel_rfl)
 t4 := by kernel_rfl
 a4 := fun w => run_isAgg' (by kernel_rfl)
 z4 := fun w => run_sizeOf' (by kernel_rfl)
 v4 := fun w => run_zeroValue' (by kernel_rfl)
 t5 := by kernel_rfl
 a5 := fun w => run_isAgg' (by kernel_rfl)
 z5 := fun w => run_sizeOf' (by kernel_rfl)
 v5 := fun w => run_zeroValue' (by kernel_rfl)
 t9 := by kernel_rfl
 a9 := fun w => run_isAgg' (by kernel_rfl)
 z9 := fun w => run_sizeOf' (by kernel_rfl)
 v9 := fun w => run_zeroValue' (by kernel_rfl)
 t20 := by kernel_rfl
 a20 := fun w => run_isAgg' (by kernel_rfl)
 z20 := fun w => run_sizeOf' (by kernel_rfl)
 v20 := fun w => run_zeroValue' (by kernel_rfl)
 t37 := by kernel_rfl
 a37 := fun w => run_isAgg' (by kernel_rfl)
 z37 := fun w => run_sizeOf' (by kernel_rfl)
 v37 := fun w => run_zeroValue' (by kernel_rfl)
 t46 := by kernel_rfl
 a46 := fun w => run_isAgg' (by kernel_rfl)
 z46 := fun w => run_sizeOf' (by kernel_rfl)
 v46 := fun w => run_zeroValue' (by kernel_rfl)
 t51 := by kernel_rfl
 a51 := fun w => run_isAgg' (by kernel_rfl)
 z51 := fun w => run_sizeOf' (by kernel_rfl)
 v51 := fun w => run_zeroValue' (by kernel_rfl)
 t53 := by kernel_rfl
 a53 := fun w => run_isAgg' (by kernel_rfl)
 z53 := fun w => run_sizeOf' (by kernel_rfl)
 v53 := fun w => run_zeroValue' (by kernel_rfl)
 t171 := by kernel_rfl
 a171 := fun w => run_isAgg' (by kernel_rfl)
 z171 := fun w => run_sizeOf' (by kernel_rfl)
 v171 := fun w => run_zeroValue' (by kernel_rfl)
 t173 := by kernel_rfl
 a173 := fun w => run_isAgg' (by kernel_rfl)
 z173 := fun w => run_sizeOf' (by kernel_rfl)
 v173 := fun w => run_zeroValue' (by kernel_rfl)
 t212 := by kernel_rfl
 a212 := fun w => run_isAgg' (by kernel_rfl)
 z212 := fun w => run_sizeOf' (by kernel_rfl)
 v212 := fun w => run_zeroValue' (by kernel_rfl)
 t213 := by kernel_rfl
 a213 := fun w => run_isAgg' (by kernel_rfl)
 z213 := fun w => run_sizeOf' (by kernel_rfl)
 t232 := by kernel_rfl
 a232 := fun w => run_isAgg' (by kernel_rfl)
 z232 := fun w => run_sizeOf' (by kernel_rfl)
 v232 := fun w => run_zeroValue' (by kernel_rfl)
 t233 := by kernel_rfl
 a233 := fun w => run_isAgg' (by kernel_rfl)
 z233 := fun w => run_sizeOf' (by kernel_rfl)
 v233 := fun w => run_zeroValue' (by kernel_rfl)
 g17 := by kernel_rfl
 g18 := by kernel_rfl
 g19 := by kernel_rfl
 i0 := by kernel_rfl
 i2 := by kernel_rfl
 i3 := by kernel_rfl
 i4 := by kernel_rfl
 i5 := by kernel_rfl
 i9 := by kernel_rfl
 i20 := by kernel_rfl
 i37 := by kernel_rfl
 i46 := by kernel_rfl
 i51 := by kernel_rfl
 i53 := by kernel_rfl
 i171 := by kernel_rfl
 i173 := by kernel_rfl
 i212 := by kernel_rfl
 i232 := by kernel_rfl
 i233 := by kernel_rfl
 m17 := by kernel_rfl
 m18 := by kernel_rfl
 m19 := by kernel_rfl
def ren_lay_Itoa : Go.Shelf.Ren := ⟨fun n => match n with | 129 => 70 | 171 => 32 | 243 => 50 | 246 => 49 | 283 => 60 | 284 => 61 | 285 => 62 | 286 => 63 | 317 => 69 | 318 => 71 | 319 => 72 | 320 => 73 | 337 => 83 | 338 => 84 | n => n, fun n => match n with | 0 => 0 | 2 => 2 | 3 => 3 | 4 => 4 | 5 => 5 | 9 => 9 | 20 => 20 | 37 => 85 | 46 => 109 | 51 => 120 | 53 => 100 | 171 => 103 | 173 => 106 | 212 => 119 | 213 => 121 | 232 => 139 | 233 => 140 | n => n, fun n => match n with | 17 => 4 | 18 => 8 | 19 => 9 | n => n⟩
theorem lay_Itoa : Go.Proofs.LaysM.n171 Tryd.prog ren_lay_Itoa where
 mixed := by kernel_rfl
 f129 := by kernel_rfl
 f171 := by kernel_rfl
 f243 := by kernel_rfl
 f246 := by kernel_rfl
 f283 := by kernel_rfl
 f284 := by kernel_rfl
 f285 := by kernel_rfl
 f286 := by kernel_rfl
 f317 := by kernel_rfl
 f318 := by kernel_rfl
 f319 := by kernel_rfl
 f320 := by kernel_rfl
 f337 := by kernel_rfl
 f338 := by kernel_rfl
 t0 := by kernel_rfl
 a0 := fun w => run_isAgg' (by kernel_rfl)
 z0 := fun w => run_sizeOf' (by kernel_rfl)
 v0 := fun w => run_zeroValue' (by kernel_rfl)
 t2 := by kernel_rfl
 a2 := fun w => run_isAgg' (by kernel_rfl)
 z2 := fun w => run_sizeOf' (by kernel_rfl)
 v2 := fun w => run_zeroValue' (by kernel_rfl)
 t3 := by kernel_rfl
 a3 := fun w => run_isAgg' (by kernel_rfl)
 z3 := fun w => run_sizeOf' (by kernel_rfl)
 v3 := fun w => run_zeroValue' (by kernel_rfl)
 t4 := by kernel_rfl
 a4 := fun w => run_isAgg' (by kernel_rfl)
 z4 := fun w => run_sizeOf' (by kernel_rfl)
 v4 := fun w => run_zeroValue' (by kernel_rfl)
 t5 := by kernel_rfl
 a5 := fun w => run_isAgg' (by kernel_rfl)
 z5 := fun w => run_sizeOf' (by kernel_rfl)
 v5 := fun w => run_zeroValue' (by kernel_rfl)
 t9 := by kernel_rfl
 a9 := fun w => run_isAgg' (by kernel_rfl)
 z9 := fun w => run_sizeOf' (by kernel_rfl)
 v9 := fun w => run_zeroValue' (by kernel_rfl)
 t20 := by kernel_rfl
 a20 := fun w => run_isAgg' (by kernel_rfl)
 z20 := fun w => run_sizeOf' (by kernel_rfl)
 v20 := fun w => run_zeroValue' (by kernel_rfl)
 t37 := by kernel_rfl
 a37 := fun w => run_isAgg' (by kernel_rfl)
 z37 := fun w => run_sizeOf' (by kernel_rfl)
 v37 := fun w => run_zeroValue' (by kernel_rfl)
 t46 := by kernel_rfl
 a46 := fun w => run_isAgg' (by kernel_rfl)
 z46 := fun w => run_sizeOf' (by kernel_rfl)
 v46 := fun w => run_zeroValue' (by kernel_rfl)
 t51 := by kernel_rfl
 a51 := fun w => run_isAgg' (by kernel_rfl)
 z51 := fun w => run_sizeOf' (by kernel_rfl)
 v51 := fun w => run_zeroValue' (by kernel_rfl)
 t53 := by kernel_rfl
 a53 := fun w => run_isAgg' (by kernel_rfl)
 z53 := fun w => run_sizeOf' (by kernel_rfl)
 v53 := fun w => run_zeroValue' (by kernel_rfl)
 t171 := by kernel_rfl
 a171 := fun w => run_isAgg' (by kernel_rfl)
 z171 := fun w => run_sizeOf' (by kernel_rfl)
 v171 := fun w => run_zeroValue' (by kernel_rfl)
 t173 := by kernel_rfl
 a173 := fun w => run_isAgg' (by kernel_rfl)
 z173 := fun w => run_sizeOf' (by kernel_rfl)
 v173 := fun w => run_zeroValue' (by kernel_rfl)
 t212 := by kernel_rfl
 a212 := fun w => run_isAgg' (by kernel_rfl)
 z212 := fun w => run_sizeOf' (by kernel_rfl)
 v212 := fun w => run_zeroValue' (by kernel_rfl)
 t213 := by kernel_rfl
 a213 := fun w => run_isAgg' (by kernel_rfl)
 z213 := fun w => run_sizeOf' (by kernel_rfl)
 t232 := by kernel_rfl
 a232 := fun w => run_isAgg' (by kernel_rfl)
 z232 := fun w => run_sizeOf' (by kernel_rfl)
 v232 := fun w => run_zeroValue' (by kernel_rfl)
 t233 := by kernel_rfl
 a233 := fun w => run_isAgg' (by kernel_rfl)
 z233 := fun w => run_sizeOf' (by kernel_rfl)
 v233 := fun w => run_zeroValue' (by kernel_rfl)
 g17 := by kernel_rfl
 g18 := by kernel_rfl
 g19 := by kernel_rfl
 i0 := by kernel_rfl
 i2 := by kernel_rfl
 i3 := by kernel_rfl
 i4 := by kernel_rfl
 i5 := by kernel_rfl
 i9 := by kernel_rfl
 i20 := by kernel_rfl
 i37 := by kernel_rfl
 i46 := by kernel_rfl
 i51 := by kernel_rfl
 i53 := by kernel_rfl
 i171 := by kernel_rfl
 i173 := by kernel_rfl
 i212 := by kernel_rfl
 i232 := by kernel_rfl
 i233 := by kernel_rfl
 m17 := by kernel_rfl
 m18 := by kernel_rfl
 m19 := by kernel_rfl
def ren_lay_Join : Go.Shelf.Ren := ⟨fun n => match n with | 156 => 21 | 165 => 45 | 166 => 46 | 169 => 47 | 240 => 57 | 241 => 58 | 276 => 67 | 277 => 68 | n => n, fun n => match n with | 0 => 0 | 3 => 3 | 4 => 4 | 5 => 5 | 9 => 9 | 20 => 20 | 31 => 59 | 37 => 85 | 70 => 84 | 72 => 87 | 75 => 90 | 76 => 91 | 80 => 64 | 127 => 101 | 164 => 114 | n => n, fun n => n⟩
theorem lay_Join : Go.Proofs.Lays.n156 Tryd.prog ren_lay_Join where
 mixed := by kernel_rfl
 f156 := by kernel_rfl
 f165 := by kernel_rfl
 f166 := by kernel_rfl
 f169 := by kernel_rfl
 f240 := by kernel_rfl
 f241 := by kernel_rfl
 f276 := by kernel_rfl
 f277 := by kernel_rfl
 t0 := by kernel_rfl
 a0 := fun w => run_isAgg' (by kernel_rfl)
 z0 := fun w => run_sizeOf' (by kernel_rfl)
 v0 := fun w => run_zeroValue' (by kernel_rfl)
 t3 := by kernel_rfl
 a3 := fun w => run_isAgg' (by kernel_rfl)
 z3 := fun w => run_sizeOf' (by kernel_rfl)
 v3 := fun w => run_zeroValue' (by kernel_rfl)
 t4 := by kernel_rfl
 a4 := fun w => run_isAgg' (by kernel_rfl)
 z4 := fun w => run_sizeOf' (by kernel_rfl)
 v4 := fun w => run_zeroValue' (by kernel_rfl)
 t9 := by kernel_rfl
 a9 := fun w => run_isAgg' (by kernel_rfl)
 z9 := fun w => run_sizeOf' (by kernel_rfl)
 v9 := fun w => run_zeroValue' (by kernel_rfl)
 t20 := by kernel_rfl
 a20 := fun w => run_isAgg' (by kernel_rfl)
 z20 := fun w => run_sizeOf' (by kernel_rfl)
 v20 := fun w => run_zeroValue' (by kernel_rfl)
 t31 := by kernel_rfl
 a31 := fun w => run_isAgg' (by kernel_rfl)
 z31 := fun w => run_sizeOf' (by kernel_rfl)
 v31 := fun w => run_zeroValue' (by kernel_rfl)
 t37 := by kernel_rfl
 a37 := fun w => run_isAgg' (by kernel_rfl)
 z37 := fun w => run_sizeOf' (by kernel_rfl)
 v37 := fun w => run_zeroValue' (by kernel_rfl)
 t70 := by kernel_rfl
 a70 := fun w => run_isAgg' (by kernel_rfl)
 z70 := fun w => run_sizeOf' (by kernel_rfl)
 v70 := fun w => run_zeroValue' (by kernel_rfl)
 t72 := by kernel_rfl
 a72 := fun w => run_isAgg' (by kernel_rfl)
 z72 := fun w => run_sizeOf' (by kernel_rfl)
 v72 := fun w => run_zeroValue' (by kernel_rfl)
 t75 := by kernel_rfl
 a75 := fun w => run_isAgg' (by kernel_rfl)
 z75 := fun w => run_sizeOf' (by kernel_rfl)
 v75 := fun w => run_zeroValue' (by kernel_rfl)
 t76 := by kernel_rfl
 a76 := fun w => run_isAgg' (by kernel_rfl)
 z76 := fun w => run_sizeOf' (by kernel_rfl)
 v76 := fun w => run_zeroValue' (by kernel_rfl)
 t127 := by kernel_rfl
 a127 := fun w => run_isAgg' (by kernel_rfl)
 z127 := fun w => run_sizeOf' (by kernel_rfl)
 v127 := fun w => run_zeroValue' (by kernel_rfl)
 t164 := by kernel_rfl
 a164 := fun w => run_isAgg' (by kernel_rfl)
 z164 := fun w => run_sizeOf' (by kernel_rfl)
 v164 := fun w => run_zeroValue' (by kernel_rfl)
theorem lay_JoinX : Builder.Extra Tryd.prog ren_lay_Join where
 sizeBuilder := by kernel_rfl
 liesBuilder := by kernel_rfl
 t5 := by kernel_rfl
 a5 := fun w => run_isAgg' (by kernel_rfl)
 z5 := fun w => run_sizeOf' (by kernel_rfl)
 v5 := fun w => run_zeroValue' (by kernel_rfl)
 infoByte := by kernel_rfl
 cellsByte := by kernel_rfl
 sizeByte := by kernel_rfl
 neB5 := by decide
end Go.Proofs.YtolcfipmjhjeaaaDoor
namespace Go.Crisp
open Go Go.RowKit Go.Sort
theorem Same.of_grow (w : World) (k : Nat) (os : Array Obj) : Same w (grow (w.drewN k) os) ∧ Ext w.heap (grow (w.drewN k) os).heap := by
 refine ⟨⟨rfl, rfl, rfl⟩, by simp [grow, World.drewN], fun b hb => ?_⟩
 show (w.heap ++ os)[b]? = w.heap[b]?
 rw [Array.getElem?_append_left hb]
theorem below_same {w w' : World} (H : Below w.heap.size w w') : Same w w' ∧ Ext w.heap w'.heap := ⟨⟨H.os, H.tape, H.output⟩, H.size, fun b hb => H.block b hb⟩
end Go.Crisp
namespace Go.Proofs.YtolcfipmjhjeaaaDoor
open Go Go.Crisp
attribute [local irreducible] FCall rowK newK stK iteK vK qK drawK gK joinK loopK mkK appK cpyK
def kSign (k : Int) : List UInt8 := if k = 0 then [207, 131] else if k = 1 then [226, 150, 161] else if k = 2 then [226, 138, 151] else if k = 3 then [226, 134, 148] else []
def kRune (k : Int) : Int := if k = 0 then 963 else if k = 1 then 9633 else if k = 2 then 8855 else if k = 3 then 8596 else 0
section
attribute [local semireducible] FCall
theorem c_FormatInt {h : Heap} (G : GlobH h) {n : Int} (h0 : -9223372036854775808 ≤ n) (h1 : n ≤ 9223372036854775807) :
  FCall Tryd.prog F_strconv_FormatInt #[.int .i64 n, .int .i64 10] h fun r h' => r = S (Lib.itoa n) ∧ Ext h h' := by
 refine FCall.ofCalls (by kernel_rfl) fun w hw => ?_
 refine (Any.strconv_FormatInt_10 lay_FormatInt n h0 h1 w (G.tab.is w hw)).mono ?_
 rintro e w' ⟨rfl, k, os, rfl⟩
 obtain ⟨a, b⟩ := Same.of_grow w k os
 exact ⟨_, rfl, a, rfl, hw ▸ b⟩
theorem c_Itoa {h : Heap} (G : GlobH h) {n : Int} (h0 : -9223372036854775808 ≤ n) (h1 : n ≤ 9223372036854775807) :
  FCall Tryd.prog F_strconv_Itoa #[.int .i64 n] h fun r h' => r = S (Lib.itoa n) ∧ Ext h h' := by
 refine FCall.ofCalls (by kernel_rfl) fun w hw => ?_
 refine (Any.strconv_Itoa lay_Itoa n h0 h1 w (G.tab.is w hw)).mono ?_
 rintro e w' ⟨rfl, k, os, rfl⟩
 obtain ⟨a, b⟩ := Same.of_grow w k os
 exact ⟨_, rfl, a, rfl, hw ▸ b⟩
theorem c_Join {h : Heap} {v : Value} {l : List (List UInt8)} {sep : List UInt8} (H : Words h v l) (hN : l.length ≤ 140737488355328) (hlen : (Lib.join l sep).length ≤ 140737488355328) :
  FCall Tryd.prog F_strings_Join #[v, S sep] h fun r h' => r = S (Lib.join l sep) ∧ Ext h h' := by
 refine FCall.ofCalls (by kernel_rfl) fun w hw => ?_
 subst hw
 have hm : ∀ l : List (List UInt8), (l.map fun x => (ByteArray.mk (Array.mk x))).map (·.data.toList) = l := fun l => by
  induction l with
  | nil => rfl
  | cons x l ih => simp only [List.map_cons, ih]
 rcases H.own with ⟨rfl, hl, _⟩ | ⟨b, cap, r, e, rfl, hc, _, hs, hb⟩
 ·have : l = [] := List.eq_nil_of_length_eq_zero hl
  subst this
  refine (Any.strings_Join_none lay_Join lay_JoinX none 0 ⟨⟨sep⟩⟩ w).mono ?_
  rintro e w' ⟨rfl, rfl⟩
  exact ⟨_, rfl, Same.refl _, rfl, Ext.refl _⟩
 ·have := Any.strings_Join lay_Join lay_JoinX b 0 cap (l.map fun x => (ByteArray.mk (Array.mk x))) ⟨⟨sep⟩⟩ w (fun j x hj => by
   rw [List.getElem?_map, Option.map_eq_some_iff] at hj
   obtain ⟨y, hy, rfl⟩ := hj
   obtain ⟨hj, rfl⟩ := List.getElem?_eq_some_iff.1 hy
   rw [cell?_eq, cell_row hb]
   simp only [List.getElem?_toArray, Nat.zero_add]
   rw [List.getElem?_append_left (by simpa using hj)]
   simp [hj, S]) (row_lt hb) (by simpa using hN) (by simpa using hc) (by rw [hm]; exact hlen)
  rw [hm, List.length_map] at this
  refine this.mono ?_
  rintro e w' ⟨rfl, hB⟩
  obtain ⟨a, b⟩ := below_same hB
  exact ⟨_, rfl, a, rfl, b⟩
end
theorem c_refSign {h : Heap} {k : Int} : FCall Tryd.prog F_ref13_Sign #[.int .i64 k] h fun r h' => r = S (kSign k) ∧ h' = h := by
 apply ok_ref13_Sign
 unfold sh_ref13_Sign
 simp only [go_sem]
 unfold kSign
 refine iteK_dec (fun h1 => ?_) (fun h1 => ?_)
 ·rw [if_pos h1]; exact ⟨rfl, trivial⟩
 rw [if_neg h1]
 refine iteK_dec (fun h1 => ?_) (fun h1 => ?_)
 ·rw [if_pos h1]; exact ⟨rfl, trivial⟩
 rw [if_neg h1]
 refine iteK_dec (fun h1 => ?_) (fun h1 => ?_)
 ·rw [if_pos h1]; exact ⟨rfl, trivial⟩
 rw [if_neg h1]
 refine iteK_dec (fun h1 => ?_) (fun h1 => ?_)
 ·rw [if_pos h1]; exact ⟨rfl, trivial⟩
 rw [if_neg h1]
 exact ⟨rfl, trivial⟩
def signsB : ByteArray := ⟨#[207, 131, 226, 150, 161, 226, 138, 151, 226, 134, 148]⟩
def signAt : Nat → Nat
 | 0 => 0
 | 1 => 2
 | 2 => 5
 | 3 => 8
 | _ => 11
theorem sign_dec : ∀ i : Fin 4, Utf8.decode signsB (signAt i) = ((kRune i).toNat, signAt (i + 1) - signAt i) ∧ (((kRune i).toNat : Nat) : Int) = kRune i := by decide +kernel
theorem sign_size : signsB.size = 11 := rfl
theorem sign_lt : ∀ i : Fin 4, signAt i < 11 ∧ signAt i + (signAt (i + 1) - signAt i) = signAt (i + 1) := by decide
theorem nextStr_some {h : Heap} {r pos : Nat} {s : ByteArray} {K : Value → Heap → Prop} (hr : h[r]? = some (.stringIter s pos)) (hp : pos < s.size)
  (H : ∀ h', h'[r]? = some (.stringIter s (pos + (Utf8.decode s pos).2)) → Upd r h h' → K (.tuple #[.bool true, .int .i64 (pos : Nat), .int .i32 (Utf8.decode s pos).1]) h') : nextStrK (.pointer (some ⟨r, 0, none⟩)) h K := by
 unfold nextStrK
 simp only [hr]
 rw [if_pos hp]
 exact H _ (set_get hr) Upd.set
theorem nextStr_none {h : Heap} {r pos : Nat} {s : ByteArray} {K : Value → Heap → Prop} (hr : h[r]? = some (.stringIter s pos)) (hp : ¬ pos < s.size)
  (H : K (.tuple #[.bool false]) h) : nextStrK (.pointer (some ⟨r, 0, none⟩)) h K := by
 unfold nextStrK
 simp only [hr]
 rw [if_neg hp]
 exact H
theorem rangeStr_use {h : Heap} {s : ByteArray} {K : Value → Heap → Prop} (H : ∀ r h', h'[r]? = some (.stringIter s 0) → Ext h h' → h.size ≤ r → K (.pointer (some ⟨r, 0, none⟩)) h') : rangeStrK (.string s) h K :=
 H h.size _ push_new (Ext.push _ _) (Nat.le_refl _)
attribute [local irreducible] nextStrK rangeStrK
theorem c_Sign {h : Heap} {k : Int} : FCall Tryd.prog F_recipe_Sign #[.int .i64 k] h fun r h' => r = .int .i32 (kRune k) ∧ Ext h h' := by
 apply ok_recipe_Sign
 unfold sh_recipe_Sign
 refine rangeStr_use fun r h1 r1 e1 n1 => ?_
 refine loopK_var (fun d xs h2 => ∃ i : Nat, i ≤ 4 ∧ d = 4 - i ∧ xs = [.int .i64 (i : Int)] ∧ h2[r]? = some (.stringIter signsB (signAt i)) ∧ Upd r h1 h2 ∧ ∀ j : Nat, j < i → k ≠ (j : Int)) 4
  ⟨0, by omega, rfl, rfl, r1, Upd.refl, fun j hj => absurd hj (by omega)⟩ ?_
 rintro d _ ρj h2 again ⟨i, hi, rfl, rfl, r2, u2, hk⟩ hag
 by_cases h4 : i = 4
 ·subst h4
  refine nextStr_none r2 (by rw [sign_size]; exact Nat.lt_irrefl _) ?_
  simp only [go_sem]
  refine ⟨?_, e1.upd n1 u2⟩
  have := hk 0 (by omega); have := hk 1 (by omega); have := hk 2 (by omega); have := hk 3 (by omega)
  unfold kRune
  rw [if_neg (by omega), if_neg (by omega), if_neg (by omega), if_neg (by omega)]
 ·have hi4 : i < 4 := by omega
  have hd : Utf8.decode signsB (signAt i) = ((kRune i).toNat, signAt (i + 1) - signAt i) := (sign_dec ⟨i, hi4⟩).1
  have hd2 : (((kRune i).toNat : Nat) : Int) = kRune i := (sign_dec ⟨i, hi4⟩).2
  have hl := sign_lt ⟨i, hi4⟩
  refine nextStr_some r2 (by rw [sign_size]; exact hl.1) fun h3 r3 u3 => ?_
  rw [hd] at r3 ⊢
  simp only [go_sem, hd2]
  refine iteK_dec (fun h5 => ?_) (fun h5 => ?_)
  ·rw [← h5]
   exact ⟨rfl, e1.upd n1 (u2.trans u3)⟩
  ·rw [w64 (by omega) (by omega)]
   refine hag _ _ (4 - (i + 1)) (by omega) ⟨i + 1, by omega, rfl, by simp, ?_, u2.trans u3, fun j hj => ?_⟩
   ·rw [r3, hl.2]
   ·rcases Nat.lt_succ_iff_lt_or_eq.1 hj with h6 | h6
    ·exact hk j h6
    ·subst h6; omega
end Go.Proofs.YtolcfipmjhjeaaaDoor
namespace Go.Crisp
open Go
def I64 (n : Int) : Prop := -9223372036854775808 ≤ n ∧ n ≤ 9223372036854775807
theorem wrap64 (n : Int) : IntKind.i64.wrap n = (n + 9223372036854775808) % 18446744073709551616 - 9223372036854775808 := by
 show (if (true && decide (n % (2 ^ 64 : Int) ≥ (2 ^ 63 : Int))) = true then n % (2 ^ 64 : Int) - (2 ^ 64 : Int) else n % (2 ^ 64 : Int)) = _
 split
 ·rename_i hh
  simp only [Bool.true_and, decide_eq_true_eq] at hh
  omega
 ·rename_i hh
  simp only [Bool.true_and, decide_eq_true_eq] at hh
  omega
end Go.Crisp
namespace Go.Proofs.YtolcfipmjhjeaaaDoor
open Go Go.Crisp
abbrev rI : Rp Int := Rp.int .i64
structure OpD where
 kind : Int
 border : Int
 sigma : Int
 radius : Int
 x : List Int
 y : List Int
 filter : Int
 w : Int
 hh : Int
structure OpD.Wf (o : OpD) : Prop where
 kind : I64 o.kind
 border : I64 o.border
 sigma : I64 o.sigma
 radius : I64 o.radius
 filter : I64 o.filter
 w : I64 o.w
 hh : I64 o.hh
 x : ∀ n ∈ o.x, I64 n
 y : ∀ n ∈ o.y, I64 n
def rOp : Rp OpD where
 w := 9
 R := fun Z h cs o => ∃ s t, cs = [.int .i64 o.kind, .int .i64 o.border, .int .i64 o.sigma, .int .i64 o.radius, s, t, .int .i64 o.filter, .int .i64 o.w, .int .i64 o.hh] ∧ Rp.Sl rI Z h s o.x ∧ Rp.Sl rI Z h t o.y
 len := by rintro _ _ _ _ ⟨s, t, rfl, _⟩; rfl
 one := by
  rintro _ _ _ _ ⟨s, t, rfl, H, K⟩ v hv
  have := H.one
  have := K.one
  simp only [List.mem_cons, List.not_mem_nil, or_false] at hv
  rcases hv with rfl | rfl | rfl | rfl | rfl | rfl | rfl | rfl | rfl <;> first | rfl | assumption
 fr := by rintro _ _ _ _ _ _ ⟨s, t, rfl, H, K⟩ f q; exact ⟨s, t, rfl, H.fr f q, K.fr f q⟩
 mono := by rintro _ _ _ _ _ ⟨s, t, rfl, H, K⟩ q; exact ⟨s, t, rfl, H.mono q, K.mono q⟩
end Go.Proofs.YtolcfipmjhjeaaaDoor
namespace Go.Proofs.YtolcfipmjhjeaaaDoor
open Go Go.Crisp
attribute [local irreducible] FCall rowK newK stK iteK vK qK drawK gK joinK loopK mkK appK cpyK nextStrK rangeStrK
def numsL (l : List Int) : List UInt8 := Lib.join (l.map Lib.itoa) [44]
theorem joinTail_length (sep : List UInt8) : ∀ (r : List (List UInt8)) (k : Nat), (∀ x ∈ r, x.length ≤ k) → (Lib.joinTail sep r).length ≤ (sep.length + k) * r.length
 | [], k, _ => by simp [Lib.joinTail]
 | x :: r, k, h => by
  have h1 := joinTail_length sep r k fun y hy => h y (List.mem_cons_of_mem _ hy)
  have h2 := h x (List.mem_cons_self ..)
  have e : Lib.joinTail sep (x :: r) = sep ++ x ++ Lib.joinTail sep r := by simp [Lib.joinTail]
  rw [e, List.length_append, List.length_append, List.length_cons, Nat.mul_succ]
  omega
theorem join_length (sep : List UInt8) (r : List (List UInt8)) (k : Nat) (h : ∀ x ∈ r, x.length ≤ k) : (Lib.join r sep).length ≤ (sep.length + k) * r.length := by
 match r, h with
 | [], _ => simp [Lib.join_nil]
 | x :: r, h =>
  rw [Lib.join_cons, List.length_append, List.length_cons, Nat.mul_succ]
  have h1 := joinTail_length sep r k fun y hy => h y (List.mem_cons_of_mem _ hy)
  have h2 := h x (List.mem_cons_self ..)
  omega
theorem numsL_length {l : List Int} (h : ∀ n ∈ l, I64 n) : (numsL l).length ≤ 22 * l.length := by
 have := join_length [44] (l.map Lib.itoa) 21 (fun x hx => by
  obtain ⟨n, hn, rfl⟩ := List.mem_map.1 hx
  exact Lib.itoa_length_le n (h n hn).1 (h n hn).2)
 simpa [numsL] using this
theorem c_numbers {h : Heap} (G : GlobH h) {Z : Nat → Prop} {v : Value} {l : List Int} (H : Rp.Sl rI Z h v l) (hw : ∀ n ∈ l, I64 n) (hl : l.length ≤ 1000000) :
  FCall Tryd.prog F_recipe_numbers #[v] h fun r h' => r = S (numsL l) ∧ Ext h h' := by
 apply ok_recipe_numbers
 unfold sh_recipe_numbers
 obtain ⟨a, cap, rfl⟩ := H.isSl
 simp only [go_sem]
 refine loopK_var (fun d xs h2 => ∃ (i : Nat) (sv : Value), i ≤ l.length ∧ d = l.length - i ∧ xs = [sv, .int .i64 (i : Int)] ∧ Words h2 sv ((l.take i).map Lib.itoa) ∧ Ext h h2 ∧ ∀ b, blk sv b → h.size ≤ b) l.length
  ⟨0, _, by omega, by omega, rfl, Rp.Ow.nil, Ext.refl _, fun b hb => hb.elim⟩ ?_
 rintro d _ ρj h2 again ⟨i, sv, hi, rfl, rfl, W, e, nb⟩ hag
 simp only [go_sem]
 refine iteK_dec (fun h1 => ?_) (fun h1 => ?_)
 ·have hi' : i < l.length := by omega
  obtain ⟨p, c, hp, hc, hR⟩ := (H.ext e).at1 rfl (k := .i64) hi'
  have hR : [c] = [.int .i64 l[i]] := hR
  obtain rfl : c = .int .i64 l[i] := by simpa using hR
  simp only [go_sem, hp, hc]
  have hx := hw l[i] (List.getElem_mem hi')
  refine (c_FormatInt (G.ext e) hx.1 hx.2).mono fun r h3 ⟨hr, e3⟩ => ?_
  subst hr
  refine Rp.push_ow1 (e := Rp.bs) rfl (x := Lib.itoa l[i]) (W.ext e3) rfl rfl (by simp; omega) (by simp; omega) (fun b hb => hb.elim) fun s' h5 o5 f5 n5 => ?_
  rw [w64 (by omega) (by omega)]
  refine hag _ _ (l.length - (i + 1)) (by omega) ⟨i + 1, s', by omega, rfl, by simp, ?_, (e.trans e3).then_fr f5 nb, fun b hb => ?_⟩
  ·have : (l.take (i + 1)).map Lib.itoa = (l.take i).map Lib.itoa ++ [Lib.itoa l[i]] := by rw [List.take_succ_eq_append_getElem hi', List.map_append]; rfl
   rw [this]; exact o5
  ·rcases n5 b hb with h6 | h6
   ·exact nb b h6
   ·exact Nat.le_trans (e.trans e3).1 h6
 ·have : i = l.length := by omega
  subst this
  rw [List.take_length] at W
  refine FCall.mono (c_Join W (by simp; omega) ?_) fun r h3 ⟨hr, e3⟩ => ⟨hr, e.trans e3⟩
  have := numsL_length hw
  show (numsL l).length ≤ _
  omega
def bodyL (o : OpD) : List UInt8 :=
 if o.kind = 0 then Lib.itoa o.sigma else if o.kind = 1 then Lib.itoa o.radius else if o.kind = 2 then numsL o.x ++ [195, 151] ++ numsL o.y
 else if o.kind = 3 then Lib.itoa o.w ++ [195, 151] ++ Lib.itoa o.hh ++ [44] ++ fName o.filter else []
def OpD.ok (o : OpD) : Prop := (0 ≤ o.kind ∧ o.kind ≤ 3) ∧ (0 ≤ o.border ∧ o.border ≤ 2) ∧ (o.kind = 3 → 0 ≤ o.filter ∧ o.filter ≤ 2)
instance (o : OpD) : Decidable o.ok := by unfold OpD.ok; exact inferInstance
def wordL (o : OpD) : List UInt8 := if o.ok then kSign o.kind ++ bodyL o ++ [124] ++ bName o.border else []
theorem bName_nil (b : Int) : bName b = [] ↔ ¬ (0 ≤ b ∧ b ≤ 2) := by
 unfold bName
 by_cases h0 : b = 0
 ·subst h0; simp
 by_cases h1 : b = 1
 ·subst h1; simp
 by_cases h2 : b = 2
 ·subst h2; simp
 rw [if_neg h0, if_neg h1, if_neg h2]
 simp; omega
theorem fName_nil (b : Int) : fName b = [] ↔ ¬ (0 ≤ b ∧ b ≤ 2) := by
 unfold fName
 by_cases h0 : b = 0
 ·subst h0; simp
 by_cases h1 : b = 1
 ·subst h1; simp
 by_cases h2 : b = 2
 ·subst h2; simp
 rw [if_neg h0, if_neg h1, if_neg h2]
 simp; omega
theorem kRune_zero (b : Int) : kRune b = 0 ↔ ¬ (0 ≤ b ∧ b ≤ 3) := by
 unfold kRune
 by_cases h0 : b = 0
 ·subst h0; simp
 by_cases h1 : b = 1
 ·subst h1; simp
 by_cases h2 : b = 2
 ·subst h2; simp
 by_cases h3 : b = 3
 ·subst h3; simp
 rw [if_neg h0, if_neg h1, if_neg h2, if_neg h3]
 simp; omega
theorem kSign_enc {b : Int} (h : 0 ≤ b ∧ b ≤ 3) : cvrsV (.int .i32 (kRune b)) = some (S (kSign b)) := by
 obtain ⟨n, rfl⟩ : ∃ n : Nat, b = (n : Int) := ⟨b.toNat, by omega⟩
 have : n < 4 := by omega
 match n, this with
 | 0, _ => exact cvrs_lit _ _ _ (by decide +kernel)
 | 1, _ => exact cvrs_lit _ _ _ (by decide +kernel)
 | 2, _ => exact cvrs_lit _ _ _ (by decide +kernel)
 | 3, _ => exact cvrs_lit _ _ _ (by decide +kernel)
theorem itoa_le {n : Int} (h : I64 n) : (Lib.itoa n).length ≤ 21 := Lib.itoa_length_le n h.1 h.2
theorem bodyL_length {o : OpD} (hw : o.Wf) : (bodyL o).length ≤ 22 * o.x.length + 22 * o.y.length + 60 := by
 have h1 := itoa_le hw.sigma
 have h2 := itoa_le hw.radius
 have h3 := itoa_le hw.w
 have h4 := itoa_le hw.hh
 have h5 := numsL_length hw.x
 have h6 := numsL_length hw.y
 have h7 : (fName o.filter).length ≤ 7 := by unfold fName; split <;> (try split) <;> (try split) <;> simp
 unfold bodyL
 split
 ·omega
 split
 ·omega
 split
 ·simp; omega
 split
 ·simp; omega
 ·simp
theorem kSign_le (k : Int) : (kSign k).length ≤ 3 := by unfold kSign; split <;> (try split) <;> (try split) <;> (try split) <;> simp
theorem bName_le (k : Int) : (bName k).length ≤ 6 := by unfold bName; split <;> (try split) <;> (try split) <;> simp
theorem wordL_length {o : OpD} (hw : o.Wf) : (wordL o).length ≤ 22 * o.x.length + 22 * o.y.length + 70 := by
 have h1 := bodyL_length hw
 have h2 := kSign_le o.kind
 have h3 := bName_le o.border
 unfold wordL
 split
 ·simp; omega
 ·simp
theorem c_Word {h : Heap} (G : GlobH h) {Z : Nat → Prop} {cs : List Value} {o : OpD} (H : rOp.R Z h cs o) (hw : o.Wf) (hx : o.x.length ≤ 1000000) (hy : o.y.length ≤ 1000000) :
  FCall Tryd.prog F_recipe_Word #[.agg cs.toArray] h fun r h' => r = .tuple #[S (wordL o), .int .i64 (if o.ok then 0 else 6)] ∧ Ext h h' := by
 apply ok_recipe_Word
 unfold sh_recipe_Word
 obtain ⟨s, t, rfl, Hx, Hy⟩ := H
 simp only [cells_agg]
 refine newK_use fun b1 h1 r1 e1 n1 => ?_
 simp only [go_sem, cell_row r1]
 refine (c_borderName (G.toGlobB.ext e1)).mono fun v2 h2 ⟨hv2, hh2⟩ => ?_
 have hh2 := hh2.symm
 subst hv2 hh2
 simp only [go_sem, cell_row r1]
 refine c_Sign.mono fun v3 h3 ⟨hv3, e3⟩ => ?_
 subst hv3
 have r3 := e3.row r1
 have e13 := e1.trans e3
 have G3 := G.ext e13
 have bad : ∀ {h' : Heap}, ¬ o.ok → Ext h3 h' → (Value.tuple #[S [], .int .i64 6] = .tuple #[S (wordL o), .int .i64 (if o.ok then 0 else 6)] ∧ Ext h h') := fun hb e => by
  refine ⟨?_, e13.trans e⟩
  rw [if_neg hb]
  unfold wordL
  rw [if_neg hb]
 have fin : ∀ hJ, o.ok → Ext h3 hJ → FCall Tryd.prog F_recipe_Sign #[.int .i64 o.kind] hJ fun v72 h73 =>
   vK (cvrsV v72) fun v74 => vK (binV .s .add v74 (S (bodyL o))) fun v75 => vK (binV .s .add v75 (S [124])) fun v76 => vK (binV .s .add v76 (S (bName o.border))) fun v77 =>
   Value.tuple #[v77, .int .i64 0] = .tuple #[S (wordL o), .int .i64 (if o.ok then 0 else 6)] ∧ Ext h h73 := fun hJ ok eJ => by
  refine c_Sign.mono fun v4 h4 ⟨hv4, e4⟩ => ?_
  subst hv4
  have l1 := bodyL_length hw
  have l2 := kSign_le o.kind
  have l3 := bName_le o.border
  rw [kSign_enc ok.1, vK_some, binS_add (by omega), vK_some, binS_add (by simp; omega), vK_some, binS_add (by simp; omega), vK_some]
  refine ⟨?_, e13.trans (eJ.trans e4)⟩
  unfold wordL
  rw [if_pos ok, if_pos ok]
 by_cases hk : 0 ≤ o.kind ∧ o.kind ≤ 3
 ·have hz : ¬ kRune o.kind = 0 := fun h => (kRune_zero _).1 h hk
  by_cases hb : 0 ≤ o.border ∧ o.border ≤ 2
  ·have hbz : ¬ bName o.border = [] := fun h => (bName_nil _).1 h hb
   have hk4 : o.kind = 0 ∨ o.kind = 1 ∨ o.kind = 2 ∨ o.kind = 3 := by omega
   rcases hk4 with k0 | k0 | k0 | k0
   ·have q0 : (o.kind = 0) = True := eq_true k0
    have q1 : (o.kind = 1) = False := eq_false (by omega)
    have q2 : (o.kind = 2) = False := eq_false (by omega)
    have q3 : (o.kind = 3) = False := eq_false (by omega)
    have ok : o.ok := ⟨hk, hb, fun h => by omega⟩
    simp only [go_sem, cell_row r3, hz, hbz, q0, q1, q2, q3]
    refine joinK_intro (fun xs hJ => xs = [S (bodyL o)] ∧ Ext h3 hJ) ?_ ?_
    ·refine (c_FormatInt G3 hw.sigma.1 hw.sigma.2).mono fun v5 h5 ⟨hv5, e5⟩ => ⟨?_, e5⟩
     rw [hv5]; unfold bodyL; rw [if_pos k0]
    ·rintro _ _ hJ ⟨rfl, eJ⟩
     simp only [go_sem, cell_row (eJ.row r3)]
     exact fin hJ ok eJ
   ·have q0 : (o.kind = 0) = False := eq_false (by omega)
    have q1 : (o.kind = 1) = True := eq_true k0
    have q2 : (o.kind = 2) = False := eq_false (by omega)
    have q3 : (o.kind = 3) = False := eq_false (by omega)
    have ok : o.ok := ⟨hk, hb, fun h => by omega⟩
    simp only [go_sem, cell_row r3, hz, hbz, q0, q1, q2, q3]
    refine joinK_intro (fun xs hJ => xs = [S (bodyL o)] ∧ Ext h3 hJ) ?_ ?_
    ·refine (c_Itoa G3 hw.radius.1 hw.radius.2).mono fun v5 h5 ⟨hv5, e5⟩ => ⟨?_, e5⟩
     rw [hv5]; unfold bodyL; rw [if_neg (by omega), if_pos k0]
    ·rintro _ _ hJ ⟨rfl, eJ⟩
     simp only [go_sem, cell_row (eJ.row r3)]
     exact fin hJ ok eJ
   ·have q0 : (o.kind = 0) = False := eq_false (by omega)
    have q1 : (o.kind = 1) = False := eq_false (by omega)
    have q2 : (o.kind = 2) = True := eq_true k0
    have q3 : (o.kind = 3) = False := eq_false (by omega)
    have ok : o.ok := ⟨hk, hb, fun h => by omega⟩
    simp only [go_sem, cell_row r3, hz, hbz, q0, q1, q2, q3]
    refine joinK_intro (fun xs hJ => xs = [S (bodyL o)] ∧ Ext h3 hJ) ?_ ?_
    ·refine drawK_ext ?_
     try simp only [go_sem]
     refine qK_val s (fun h' e => by simp only [go_sem, cell_row (e.row r3)]) ?_
     try simp only [go_sem]
     refine qK_val t (fun h' e => by simp only [go_sem, cell_row (e.row r3)]) ?_
     refine (c_numbers G3 (Hx.ext e13) hw.x hx).mono fun v5 h5 ⟨hv5, e5⟩ => ⟨e5, ?_⟩
     subst hv5
     have l5 := numsL_length hw.x
     have l6 := numsL_length hw.y
     rw [binS_add (by simp; omega), vK_some]
     refine (c_numbers (G3.ext e5) (Hy.ext (e13.trans e5)) hw.y hy).mono fun v6 h6 ⟨hv6, e6⟩ => ⟨e5.trans e6, ?_⟩
     subst hv6
     rw [binS_add (by simp; omega), vK_some]
     refine ⟨?_, e5.trans e6⟩
     unfold bodyL; rw [if_neg (by omega), if_neg (by omega), if_pos k0]
    ·rintro _ _ hJ ⟨rfl, eJ⟩
     simp only [go_sem, cell_row (eJ.row r3)]
     exact fin hJ ok eJ
   ·have q0 : (o.kind = 0) = False := eq_false (by omega)
    have q1 : (o.kind = 1) = False := eq_false (by omega)
    have q2 : (o.kind = 2) = False := eq_false (by omega)
    have q3 : (o.kind = 3) = True := eq_true k0
    simp only [go_sem, cell_row r3, hz, hbz, q0, q1, q2, q3]
    refine (c_rawName G3.toGlobB).mono fun v5 h5 ⟨hv5, hh5⟩ => ?_
    have hh5 := hh5.symm
    subst hv5 hh5
    simp only [go_sem]
    refine iteK_dec (fun h6 => ?_) (fun h6 => ?_)
    ·exact bad (fun ok => (fName_nil _).1 h6 (ok.2.2 k0)) (Ext.refl _)
    have ok : o.ok := ⟨hk, hb, fun _ => by
     by_cases h7 : 0 ≤ o.filter ∧ o.filter ≤ 2
     ·exact h7
     ·exact absurd ((fName_nil _).2 h7) h6⟩
    simp only [go_sem, cell_row r3, q0, q1, q2, q3]
    refine joinK_intro (fun xs hJ => xs = [S (bodyL o)] ∧ Ext h3 hJ) ?_ ?_
    ·refine drawK_ext ?_
     try simp only [go_sem]
     refine qK_val (.int .i64 o.w) (fun h' e => by simp only [go_sem, cell_row (e.row r3)]) ?_
     try simp only [go_sem]
     refine qK_val (.int .i64 o.hh) (fun h' e => by simp only [go_sem, cell_row (e.row r3)]) ?_
     try simp only [go_sem]
     refine qK_val (.int .i64 o.filter) (fun h' e => by simp only [go_sem, cell_row (e.row r3)]) ?_
     have l5 := itoa_le hw.w
     have l6 := itoa_le hw.hh
     have h7 : (fName o.filter).length ≤ 7 := by unfold fName; split <;> (try split) <;> (try split) <;> simp
     refine (c_Itoa G3 hw.w.1 hw.w.2).mono fun v5 h5 ⟨hv5, e5⟩ => ⟨e5, ?_⟩
     subst hv5
     rw [binS_add (by simp; omega), vK_some]
     refine (c_Itoa (G3.ext e5) hw.hh.1 hw.hh.2).mono fun v6 h6 ⟨hv6, e6⟩ => ⟨e5.trans e6, ?_⟩
     subst hv6
     rw [binS_add (by simp; omega), vK_some, binS_add (by simp; omega), vK_some]
     refine (c_rawName (G3.ext (e5.trans e6)).toGlobB).mono fun v8 h8 ⟨hv8, hh8⟩ => ?_
     have hh8 := hh8.symm
     subst hv8 hh8
     refine ⟨e5.trans e6, ?_⟩
     rw [binS_add (by simp; omega), vK_some]
     refine ⟨?_, e5.trans e6⟩
     unfold bodyL; rw [if_neg (by omega), if_neg (by omega), if_neg (by omega), if_pos k0]
    ·rintro _ _ hJ ⟨rfl, eJ⟩
     simp only [go_sem, cell_row (eJ.row r3)]
     exact fin hJ ok eJ
  ·have hbz : bName o.border = [] := (bName_nil _).2 hb
   simp only [go_sem, cell_row r3, hz, hbz]
   exact bad (fun ok => hb ok.2.1) (Ext.refl _)
 ·have hz : kRune o.kind = 0 := (kRune_zero _).2 hk
  simp only [go_sem, cell_row r3, hz]
  exact bad (fun ok => hk ok.1) (Ext.refl _)
end Go.Proofs.YtolcfipmjhjeaaaDoor
namespace Go.Crisp
open Go Go.ChangeShapes Go.WideShapes Go.ChangeAt Go.RowKit
inductive TS where
 | int (k : IntKind)
 | bool
 | str
 | sl (e : TS) (z : Nat)
 | st (b : TS)
 | unit
 | pair (a b : TS)
def TS.T : TS → Type
 | .int _ => Int
 | .bool => Bool
 | .str => ByteArray
 | .sl e _ => List e.T
 | .st b => b.T
 | .unit => Unit
 | .pair a b => a.T × b.T
def TS.w : TS → Nat
 | .int _ => 1
 | .bool => 1
 | .str => 1
 | .sl _ _ => 1
 | .st b => b.w
 | .unit => 0
 | .pair a b => a.w + b.w
def Rd : (t : TS) → Heap → List Value → t.T → Prop
 | .int k, _, cs, n => cs = [.int k n] ∧ (Lit.int k n).wf = true
 | .bool, _, cs, b => cs = [.bool b]
 | .str, _, cs, s => cs = [.string s] ∧ s.size ≤ 140737488351232
 | .sl e z, h, cs, l => ∃ a cap, cs = [.slice a (List.length l) cap] ∧ List.length l ≤ cap ∧ cap ≤ maxLen ∧ cap * z ≤ 140737488351232 ∧
   (List.length l = 0 ∨ ∃ b o, (e.w = 0 ∨ a = some ⟨b, o, none⟩) ∧ ∀ i (hi : i < List.length l), ∃ ds : List Value, ds.length = e.w ∧
    (∀ j (hj : j < ds.length), cellOf h ⟨b, o + i * e.w + j, none⟩ = some ds[j]) ∧ Rd e h ds (List.get (α := e.T) l ⟨i, hi⟩))
 | .st b, h, cs, x => Rd b h cs x
 | .unit, _, cs, _ => cs = []
 | .pair a b, h, cs, x => ∃ c1 c2, cs = c1 ++ c2 ∧ Rd a h c1 x.1 ∧ Rd b h c2 x.2
mutual
/-- The type has this shape. -/
def TS.okB (P : Program) : TS → TypeId → Bool
 | .int k, t => match P.underlying t with | some (.int k') => decide (k' = k) | _ => false
 | .bool, t => match P.underlying t with | some .bool => true | _ => false
 | .str, t => match P.underlying t with | some .string => true | _ => false
 | .sl e z, t => match P.underlying t with | some (.slice e') => P.cellsOf e' == e.w && P.bytesOf e' == z && e.okB P e' | _ => false
 | .st b, t => match P.underlying t with | some (.struct fs) => P.cellsOf t == b.w && b.okF P fs.toList 0 | _ => false
 | _, _ => false
/-- The fields have these shapes, from this place on. -/
def TS.okF (P : Program) : TS → List Field → Nat → Bool
 | .unit, fs, _ => match fs with | [] => true | _ => false
 | .pair a b, fs, n => match fs with | [] => false | f :: fs => f.offset == n && P.cellsOf f.type == a.w && a.okB P f.type && b.okF P fs (n + a.w)
 | _, _, _ => false
end
def light (l : List Nat) : Prop := ∀ n ∈ l, n ≤ 140737488351232
theorem add_none (b o n : Nat) : (⟨b, o, none⟩ : Addr).add n = ⟨b, o + n, none⟩ := by
 unfold Addr.add
 split <;> simp_all
theorem cells_spot {w : World} {a : Addr} {n : Nat} {l : List Value} (h : w.cells? 0 a n = some l) : l.length = n ∧ ∀ j (hj : j < l.length), cellOf w.heap (a.add j) = some l[j] := by
 unfold World.cells? at h
 rw [if_pos (Nat.zero_le _)] at h
 have hl : l.length = n := by simpa using mapM_some_length h
 refine ⟨hl, fun j hj => ?_⟩
 have := mapM_some_get h j j (by simp [← hl, hj])
 rw [List.getElem?_eq_getElem hj] at this
 exact this
theorem light_app {a b : List Nat} (h : light (a ++ b)) : light a ∧ light b := ⟨fun n hn => h n (List.mem_append.2 (.inl hn)), fun n hn => h n (List.mem_append.2 (.inr hn))⟩
theorem light_cons {a : Nat} {b : List Nat} (h : light (a :: b)) : a ≤ 140737488351232 ∧ light b := ⟨h a (List.mem_cons_self ..), fun n hn => h n (List.mem_cons_of_mem _ hn)⟩
theorem light_all {H : Type} {P : Program} {e : TypeId} : ∀ {l : List (DataW H)}, light (DataW.weightsAll P e l) → ∀ d ∈ l, light (d.weights P e)
 | [], _, d, hd => by cases hd
 | x :: r, h, d, hd => by
  rw [DataW.weightsAll] at h
  rcases List.mem_cons.1 hd with rfl | hd
  ·exact (light_app h).1
  ·exact light_all (light_app h).2 d hd
theorem rd_both {H : Type} {enc : TypeId × Value → H} {P : Program} {w : World} {held : Bool} (t : TS) :
  (∀ (id : TypeId) (fuel : Nat) (cs : List Value) (x : DataW H × List MemPlace), t.okB P id = true → DataW.trod enc P w 0 (fun _ => true) held fuel id cs = some x → light (x.1.weights P id) → ∃ d : t.T, Rd t w.heap cs d) ∧
  (∀ (fs : List Field) (off fuel : Nat) (cs : List Value) (xs : List (DataW H × List MemPlace)), t.okF P fs off = true → off + t.w = cs.length →
   fs.mapM (fun f => DataW.trod enc P w 0 (fun _ => true) held fuel f.type ((cs.drop f.offset).take (P.cellsOf f.type))) = some xs → light (DataW.weightsEach P (fs.map (·.type)) (xs.map (·.1))) → ∃ d : t.T, Rd t w.heap (cs.drop off) d) := by
 induction t with
 | int k =>
  refine ⟨fun id fuel cs x ok h hw => ?_, fun _ _ _ _ _ ok => by simp [TS.okF] at ok⟩
  rw [TS.okB] at ok
  split at ok <;> simp at ok
  rename_i k' hk
  subst ok
  obtain ⟨n, rfl, _, hn⟩ := DataW.trod_int hk h
  exact ⟨n, rfl, hn⟩
 | bool =>
  refine ⟨fun id fuel cs x ok h hw => ?_, fun _ _ _ _ _ ok => by simp [TS.okF] at ok⟩
  rw [TS.okB] at ok
  split at ok <;> simp at ok
  rename_i hk
  obtain ⟨n, rfl, _⟩ := DataW.trod_bool hk h
  exact ⟨n, by simp [Rd]⟩
 | str =>
  refine ⟨fun id fuel cs x ok h hw => ?_, fun _ _ _ _ _ ok => by simp [TS.okF] at ok⟩
  rw [TS.okB] at ok
  split at ok <;> simp at ok
  rename_i hk
  obtain ⟨s, rfl, rfl, _⟩ := DataW.trod_string hk h
  simp only [DataW.weights] at hw
  have := (light_cons hw).1
  exact ⟨s, rfl, by rw [Array.length_toList] at this; exact this⟩
 | sl e z ih =>
  refine ⟨fun id fuel cs x ok h hw => ?_, fun _ _ _ _ _ ok => by simp [TS.okF] at ok⟩
  rw [TS.okB] at ok
  split at ok <;> simp at ok
  rename_i e' hk
  obtain ⟨⟨hc, hz⟩, ok⟩ := ok
  rcases DataW.trod_slice hk h with ⟨rfl, rfl⟩ | ⟨a, len, cap, elems, rest, n, rfl, rfl, rfl, _, hlc, hcm, hel, hi, hsp, _⟩
  ·exact ⟨([] : List e.T), none, 0, rfl, Nat.le_refl _, Nat.zero_le _, by simp, .inl rfl⟩
  ·obtain ⟨hrl, _⟩ := hsp rfl
   rw [DataW.weights, hk] at hw
   simp only [List.length_map] at hw
   obtain ⟨hw0, hw⟩ := light_cons hw
   have hw := light_all (light_app hw).1
   have hcap : elems.length + rest.length = cap := by omega
   rw [hcap, hz] at hw0
   have each : ∀ i, i < len → ∃ (ds : List Value) (x : e.T), ds.length = e.w ∧ (∀ j (hj : j < ds.length), cellOf w.heap ((a.add (i * e.w)).add j) = some ds[j]) ∧ Rd e w.heap ds x := by
    intro i hil
    have h1 := hi i hil
    have hie : i < elems.length := by omega
    rw [List.getElem?_eq_getElem hie] at h1
    rw [Option.bind_eq_some_iff] at h1
    obtain ⟨ds, hds, h1⟩ := h1
    rw [hc] at hds
    obtain ⟨hl, hj⟩ := cells_spot hds
    obtain ⟨x, hx⟩ := ih.1 e' n ds _ ok h1 (hw _ (List.mem_map.2 ⟨_, List.getElem_mem hie, rfl⟩))
    exact ⟨ds, x, hl, hj, hx⟩
   let f (i : Nat) : Option e.T := if hil : i < len then some (each i hil).choose_spec.choose else none
   have hf : ∀ i, i < len → ∃ y, f i = some y := fun i hil => ⟨_, dif_pos hil⟩
   obtain ⟨l, hl⟩ : ∃ l, (List.range len).mapM f = some l := by
    have : ∀ (r : List Nat), (∀ i ∈ r, i < len) → ∃ l, r.mapM f = some l := by
     intro r
     induction r with
     | nil => exact fun _ => ⟨[], rfl⟩
     | cons i r ihr =>
      intro hr
      obtain ⟨y, hy⟩ := hf i (hr i (List.mem_cons_self ..))
      obtain ⟨l, hl⟩ := ihr fun k hk => hr k (List.mem_cons_of_mem _ hk)
      exact ⟨y :: l, by simp [List.mapM_cons, hy, hl]⟩
    exact this _ fun i hi => List.mem_range.1 hi
   have hll : l.length = len := by simpa using mapM_some_length hl
   refine ⟨l, some a, cap, by rw [hll], by rw [hll]; exact hlc, hcm, hw0, ?_⟩
   by_cases hlen : List.length l = 0
   ·exact .inl hlen
   ·have hs : e.w = 0 ∨ a = ⟨a.block, a.off, none⟩ := by
     by_cases h0 : e.w = 0
     ·exact .inl h0
     ·refine .inr ?_
      obtain ⟨ds, x, hl0, hj, _⟩ := each 0 (by omega)
      have hj := hj 0 (by omega)
      obtain ⟨b, o, sp⟩ := a
      cases sp with
      | none => rfl
      | some s => simp [cellOf, Addr.add] at hj; split at hj <;> simp at hj
    refine .inr ⟨a.block, a.off, hs.imp (fun h => h) (congrArg some), fun i hil => ?_⟩
    ·have hil' : i < len := by rw [← hll]; exact hil
     obtain ⟨h1, h2, h3⟩ := (each i hil').choose_spec.choose_spec
     have hx : l.get ⟨i, hil⟩ = (each i hil').choose_spec.choose := by
      have := mapM_some_get hl i i (by simp [hil'])
      rw [show f i = some (each i hil').choose_spec.choose from dif_pos hil', List.getElem?_eq_getElem hil] at this
      exact (Option.some.inj this).symm
     refine ⟨(each i hil').choose, h1, fun j hj => ?_, ?_⟩
     ·have h2 := h2 j hj
      rcases hs with h0 | ha
      ·omega
      ·have ha2 : (a.add (i * e.w)).add j = ⟨a.block, a.off + i * e.w + j, none⟩ := by rw [ha, add_none, add_none]
       exact ha2 ▸ h2
     ·rw [show List.get (α := e.T) l ⟨i, hil⟩ = _ from hx]
      exact h3
 | st b ih =>
  refine ⟨fun id fuel cs x ok h hw => ?_, fun _ _ _ _ _ ok => by simp [TS.okF] at ok⟩
  rw [TS.okB] at ok
  split at ok <;> simp at ok
  rename_i fs hk
  obtain ⟨hc, ok⟩ := ok
  cases fuel with
  | zero => simp [DataW.trod] at h
  | succ n =>
   unfold DataW.trod at h
   rw [hk] at h
   simp only at h
   split at h
   ·rename_i hcl
    rw [Option.map_eq_some_iff] at h
    obtain ⟨xs, hxs, rfl⟩ := h
    rw [DataW.weights, hk] at hw
    obtain ⟨d, hd⟩ := ih.2 fs.toList 0 n cs xs ok (by rw [hcl, hc]; omega) hxs hw
    exact ⟨d, by simpa [Rd] using hd⟩
   ·simp at h
 | unit =>
  refine ⟨fun id fuel cs x ok h hw => by simp [TS.okB] at ok, fun fs off fuel cs xs ok hl h hw => ⟨(), ?_⟩⟩
  simp only [Rd]
  simp [TS.w] at hl
  exact List.drop_eq_nil_of_le (by omega)
 | pair a b iha ihb =>
  refine ⟨fun id fuel cs x ok h hw => by simp [TS.okB] at ok, fun fs off fuel cs xs ok hl h hw => ?_⟩
  cases fs with
  | nil => simp [TS.okF] at ok
  | cons f fs =>
   simp [TS.okF] at ok
   obtain ⟨⟨⟨ho, hc⟩, oka⟩, okb⟩ := ok
   rw [List.mapM_cons] at h
   simp only [Option.bind_eq_bind, Option.bind_eq_some_iff, Option.pure_def, Option.some.injEq] at h
   obtain ⟨x, hx, ys, hys, rfl⟩ := h
   simp only [List.map_cons, DataW.weightsEach] at hw
   obtain ⟨hwa, hwb⟩ := light_app hw
   obtain ⟨d1, h1⟩ := iha.1 f.type fuel _ x oka hx hwa
   obtain ⟨d2, h2⟩ := ihb.2 fs (off + a.w) fuel cs ys okb (by simp [TS.w] at hl; omega) hys hwb
   refine ⟨(d1, d2), (cs.drop off).take a.w, cs.drop (off + a.w), ?_, ?_, h2⟩
   ·rw [← List.drop_drop]; exact (List.take_append_drop ..).symm
   ·rw [← hc, ← ho]; exact h1
def RdV : (t : TS) → Heap → Value → t.T → Prop
 | .st b, h, v, x => ∃ cs : Array Value, v = .agg cs ∧ Rd b h cs.toList x
 | .int k, h, v, x => Rd (.int k) h [v] x
 | .bool, h, v, x => Rd .bool h [v] x
 | .str, h, v, x => Rd .str h [v] x
 | .sl e z, h, v, x => Rd (.sl e z) h [v] x
 | _, _, _, _ => False
def ArgsRd : List TS → Heap → List Value → Prop
 | [], _, vs => vs = []
 | t :: ts, h, vs => ∃ v r, vs = v :: r ∧ (∃ x : t.T, RdV t h v x) ∧ ArgsRd ts h r
def okAll (P : Program) : List TS → List TypeId → Bool
 | [], ids => match ids with | [] => true | _ => false
 | t :: ts, ids => match ids with | [] => false | id :: ids => t.okB P id && okAll P ts ids
theorem rdV_of {H : Type} {enc : TypeId × Value → H} {P : Program} {w : World} {held : Bool} {r : Reach} {base : Nat} {t : TS} {id : TypeId} {v : Value} {d : DataW H} {ps : List MemPlace}
  (ok : t.okB P id = true) (hval : Value.okWide P w r base id v) (h : DataW.Trod enc P w 0 (fun _ => true) held id v d ps) (hw : light (d.weights P id)) : ∃ x : t.T, RdV t w.heap v x := by
 obtain ⟨fuel, hf⟩ := h
 obtain ⟨x, hx⟩ := (rd_both t).1 id fuel _ _ ok hf hw
 cases t with
 | int k =>
  rw [TS.okB] at ok
  split at ok <;> simp at ok
  rename_i hk
  obtain ⟨n, rfl⟩ := okWide_int hk hval
  exact ⟨x, hx⟩
 | bool =>
  rw [TS.okB] at ok
  split at ok <;> simp at ok
  rename_i hk
  obtain ⟨n, rfl⟩ := okWide_bool hk hval
  exact ⟨x, hx⟩
 | str =>
  rw [TS.okB] at ok
  split at ok <;> simp at ok
  rename_i hk
  obtain ⟨n, rfl⟩ := okWide_string hk hval
  exact ⟨x, hx⟩
 | sl e z =>
  rw [TS.okB] at ok
  split at ok <;> simp at ok
  rename_i hk
  obtain ⟨a, l, c, rfl⟩ := okWide_slice hk hval
  exact ⟨x, hx⟩
 | st b =>
  rw [TS.okB] at ok
  split at ok <;> simp at ok
  rename_i hk
  obtain ⟨cs, rfl, _⟩ := okWide_struct hk hval
  exact ⟨x, cs, rfl, hx⟩
 | unit => simp [TS.okB] at ok
 | pair a b => simp [TS.okB] at ok
theorem args_rd {H : Type} {enc : TypeId × Value → H} {P : Program} {w : World} {held : Bool} {r : Reach} {base : Nat} : ∀ {ts : List TS} {ids : List TypeId} {vs : List Value} {ds : List (DataW H)} {ps : List MemPlace},
  okAll P ts ids = true → (∀ (j : Nat) t v, ids[j]? = some t → vs[j]? = some v → Value.okWide P w r base t v) → DataW.TrodAll enc P w 0 (fun _ => true) held ids vs ds ps →
  light (DataW.weightsEach P ids ds) → ArgsRd ts w.heap vs
 | [], ids, vs, ds, ps, ok, _, h, _ => by
  cases ids with
  | nil => exact (trodAll_nil h).1
  | cons => simp [okAll] at ok
 | t :: ts, ids, vs, ds, ps, ok, hval, h, hw => by
  cases ids with
  | nil => simp [okAll] at ok
  | cons id ids =>
   simp [okAll] at ok
   obtain ⟨v, vs', d, ds', p, q, rfl, rfl, rfl, h1, h2⟩ := trodAll_cons h
   rw [DataW.weightsEach] at hw
   obtain ⟨hw1, hw2⟩ := light_app hw
   exact ⟨v, vs', rfl, rdV_of ok.1 (hval 0 id v rfl rfl) h1 hw1, args_rd ok.2 (fun j t v ht hv => hval (j + 1) t v ht hv) h2 hw2⟩
theorem carry_all {H : Type} {enc : TypeId × Value → H} {P : Program} {W W' : World} (hl : laidOutB P = true) (hb : Below W.heap.size W W') : ∀ {ids : List TypeId} {vs : List Value} {ds : List (DataW H)} {ps : List MemPlace},
  ids.all (fun t => P.readableRec t && decide (t < P.types.size)) = true → DataW.TrodAll enc P W 0 (fun _ => true) true ids vs ds ps → DataW.TrodAll enc P W' 0 (fun b => decide (b < W.heap.size)) true ids vs ds ps
 | [], vs, ds, ps, _, h => by obtain ⟨rfl, rfl, rfl⟩ := trodAll_nil h; exact trodAll_mk0
 | t :: ids, vs, ds, ps, hr, h => by
  simp only [List.all_cons, Bool.and_eq_true, decide_eq_true_eq] at hr
  obtain ⟨v, vs', d, ds', p, q, rfl, rfl, rfl, h1, h2⟩ := trodAll_cons h
  refine trodAll_cons_mk (Below.trod hl hr.1.1 hr.1.2 h1 hb ?_) (carry_all hl hb hr.2 h2)
  obtain ⟨m, hm⟩ := h1
  exact DataW.trod_lt m _ _ _ hm
def Listed (P : Program) (L : List (String × DataW Unit)) (h : Heap) : Prop := ∀ w : World, w.heap = h → laidMetH P L w
theorem laidVars_at {P : Program} {w : World} : ∀ {L : List (String × DataW Unit)} {ps : List MemPlace}, DataW.LaidVars P w L ps → ∀ {n : String} {d : DataW Unit}, (n, d) ∈ L →
  ∃ g t cs fuel p, P.globalNamed n = some g ∧ (P.globals[g]?).map (·.type) = some t ∧ w.var? P n = some cs ∧ DataW.trod (fun _ => ()) P w 0 (fun _ => true) false fuel t cs.toList = some (d, p)
 | [], _, _, n, d, hm => absurd hm (by simp)
 | (n', d') :: r, _, h, n, d, hm => by
  obtain ⟨g, t, cs, fuel, p, q, h1, h2, h3, h4, h5, _⟩ := h
  rcases List.mem_cons.1 hm with e | e
  ·cases e; exact ⟨g, t, cs, fuel, p, h1, h2, h3, h4⟩
  ·exact laidVars_at h5 e
theorem Listed.at {P : Program} {L : List (String × DataW Unit)} {h : Heap} (H : Listed P L h) (hn : (L.all fun x => x.2.handleName?.isNone) = true) {n : String} {d : DataW Unit} (hm : (n, d) ∈ L) (w : World) (hw : w.heap = h) :
  ∃ g t cs fuel p, P.globalNamed n = some g ∧ (P.globals[g]?).map (·.type) = some t ∧ w.var? P n = some cs ∧ DataW.trod (fun _ => ()) P w 0 (fun _ => true) false fuel t cs.toList = some (d, p) := by
 have := H w hw
 rw [MakeChecks.laidMetH_plain _ _ _ hn] at this
 obtain ⟨ps, hl, _⟩ := this
 exact laidVars_at hl hm
def varIs (P : Program) (n : String) (g : Nat) (k : Program → TypeId → Bool) : Bool :=
 decide (P.globalNamed n = some g) && (match (P.globals[g]?).map (·.type) with | some t => k P t | none => false)
def isInt (k : IntKind) (P : Program) (t : TypeId) : Bool := match P.underlying t with | some (.int k') => decide (k = k') && P.cellsOf t == 1 | _ => false
def isStr (P : Program) (t : TypeId) : Bool := match P.underlying t with | some .string => P.cellsOf t == 1 | _ => false
def isSlice (e : Program → TypeId → Bool) (P : Program) (t : TypeId) : Bool := match P.underlying t with | some (.slice u) => e P u | _ => false
def isArr (n : Nat) (e : Program → TypeId → Bool) (P : Program) (t : TypeId) : Bool := match P.underlying t with | some (.array n' u) => n == n' && P.cellsOf t == n * P.cellsOf u && e P u | _ => false
def isPair (a b : Program → TypeId → Bool) (P : Program) (t : TypeId) : Bool := match P.underlying t with | some (.struct ⟨[x, y]⟩) => x.offset == 0 && y.offset == 1 && a P x.type && b P y.type && P.cellsOf t == 2 | _ => false
theorem Listed.kind {P : Program} {L : List (String × DataW Unit)} {h : Heap} (H : Listed P L h) (hn : (L.all fun x => x.2.handleName?.isNone) = true) {n : String} {d : DataW Unit} (hm : (n, d) ∈ L) (w : World) (hw : w.heap = h)
  {g : Nat} {k : Program → TypeId → Bool} (hk : varIs P n g k = true) :
  ∃ t cs fuel p, P.globalNamed n = some g ∧ k P t = true ∧ w.var? P n = some cs ∧ (∀ i, cellOf h ⟨g, i, none⟩ = cs[i]?) ∧ DataW.trod (fun _ => ()) P w 0 (fun _ => true) false fuel t cs.toList = some (d, p) := by
 obtain ⟨g', t, cs, fuel, p, h1, h2, h3, h4⟩ := H.at hn hm w hw
 unfold varIs at hk
 rw [Bool.and_eq_true, decide_eq_true_eq] at hk
 obtain ⟨k1, k2⟩ := hk
 obtain rfl : g' = g := Option.some.inj (h1.symm.trans k1)
 rw [h2] at k2
 refine ⟨t, cs, fuel, p, h1, k2, h3, fun i => ?_, h4⟩
 subst hw
 exact World.var?_cell h1 h3 i
theorem trod_int' {k : IntKind} {P : Program} {w : World} {fuel : Nat} {t : TypeId} {cs : List Value} {z : Int} {p : List MemPlace} (ht : isInt k P t = true) (h : DataW.trod (fun _ => ()) P w 0 (fun _ => true) false fuel t cs = some (.lit (.int k z), p)) : cs = [.int k z] ∧ P.cellsOf t = 1 := by
 unfold isInt at ht
 split at ht
 ·rename_i k' hu
  rw [Bool.and_eq_true, decide_eq_true_eq] at ht
  obtain ⟨rfl, hc⟩ := ht
  obtain ⟨n, rfl, he, _⟩ := DataW.trod_int hu h
  cases he
  exact ⟨rfl, by simpa using hc⟩
 ·cases ht
theorem trod_str' {P : Program} {w : World} {fuel : Nat} {t : TypeId} {cs : List Value} {z : List UInt8} {p : List MemPlace} (ht : isStr P t = true) (h : DataW.trod (fun _ => ()) P w 0 (fun _ => true) false fuel t cs = some (.lit (.string z), p)) : cs = [.string ⟨⟨z⟩⟩] ∧ P.cellsOf t = 1 := by
 unfold isStr at ht
 split at ht
 ·rename_i hu
  obtain ⟨s, rfl, he, _⟩ := DataW.trod_string hu h
  cases he
  exact ⟨rfl, by simpa using ht⟩
 ·cases ht
theorem drop_take_one {cs : List Value} {i : Nat} {v : Value} (h : (cs.drop i).take 1 = [v]) : cs[i]? = some v := by
 have := congrArg (fun l => l[0]?) h
 simpa using this
theorem trod_ints {k : IntKind} {P : Program} {w : World} {fuel : Nat} {t : TypeId} {cs : List Value} {zs : List Int} {p : List MemPlace} (ht : isArr zs.length (isInt k) P t = true)
  (h : DataW.trod (fun _ => ()) P w 0 (fun _ => true) false fuel t cs = some (.agg (zs.map fun z => .lit (.int k z)), p)) : cs = zs.map fun z => .int k z := by
 unfold isArr at ht
 split at ht
 ·rename_i n u hu
  rw [Bool.and_eq_true, Bool.and_eq_true] at ht
  obtain ⟨⟨hn, hc⟩, hi⟩ := ht
  obtain ⟨xs, m, rfl, he, hl, hx, hat⟩ := DataW.trod_array hu h
  have hn : zs.length = n := by simpa using hn
  subst hn
  have c1 : P.cellsOf u = 1 := by
   unfold isInt at hi
   split at hi
   ·rw [Bool.and_eq_true] at hi; simpa using hi.2
   ·cases hi
  have hc : P.cellsOf t = zs.length := by simpa [c1] using hc
  rw [hc] at hl
  have hxe : xs.map (·.1) = zs.map fun z => DataW.lit (.int k z) := by
   have := congrArg (fun x => x.1) he
   simpa using this.symm
  apply List.ext_getElem?
  intro i
  by_cases hi' : i < zs.length
  ·have h1 := hat i hi'
   have hxi : xs[i]? = some (xs[i]'(by omega)) := List.getElem?_eq_getElem (by omega)
   rw [hxi, c1, Nat.mul_one] at h1
   have h2 : (xs[i]'(by omega)).1 = .lit (.int k zs[i]) := by
    have := congrArg (fun l => l[i]?) hxe
    simpa [hi', hx] using this
   obtain ⟨a, b, hab⟩ : ∃ a b, xs[i]'(by omega) = (a, b) := ⟨_, _, rfl⟩
   rw [hab] at h1 h2
   simp only at h2
   rw [h2] at h1
   have h3 := (trod_int' hi h1).1
   rw [drop_take_one h3]
   simp [hi']
  ·rw [List.getElem?_eq_none (by omega), List.getElem?_eq_none (by simpa using hi')]
 ·cases ht
theorem trod_strs {P : Program} {w : World} {h : Heap} (hw : w.heap = h) {fuel : Nat} {t : TypeId} {cs : List Value} {zs : List (List UInt8)} {p : List MemPlace} (hz : zs ≠ []) (ht : isSlice isStr P t = true)
  (H : DataW.trod (fun _ => ()) P w 0 (fun _ => true) false fuel t cs = some (.slice (zs.map fun z => .lit (.string z)) [], p)) :
  ∃ b o cap, cs = [.slice (some ⟨b, o, none⟩) zs.length cap] ∧ ∀ i (hi : i < zs.length), cellOf h ⟨b, o + i, none⟩ = some (.string ⟨⟨zs[i]⟩⟩) := by
 unfold isSlice at ht
 split at ht
 ·rename_i u hu
  have c1 : P.cellsOf u = 1 := by
   unfold isStr at ht
   split at ht
   ·simpa using ht
   ·cases ht
  rcases DataW.trod_slice hu H with ⟨_, he⟩ | ⟨a, len, cap, elems, rest, m, rfl, rfl, he, _, _, _, hlen, hat, _⟩
  ·cases he
  ·have hxe : elems.map (·.1) = zs.map fun z => DataW.lit (.string z) := by
    have := congrArg (fun x => x.1) he
    simp only [DataW.slice.injEq] at this
    exact this.1.symm
   have hl : elems.length = zs.length := by simpa using congrArg List.length hxe
   have hlz : len = zs.length := by omega
   subst hlz
   have ha : ∃ b o, a = ⟨b, o, none⟩ := by
    have h0 : 0 < zs.length := List.length_pos_iff.2 hz
    have := hat 0 h0
    rw [List.getElem?_eq_getElem (by omega)] at this
    cases hc : w.cells? 0 (a.add (0 * P.cellsOf u)) (P.cellsOf u) with
    | none => rw [hc] at this; cases this
    | some l =>
     obtain ⟨b, o, s⟩ := a
     cases s with
     | none => exact ⟨b, o, rfl⟩
     | some x =>
      exfalso
      obtain ⟨h3, h2⟩ := cells_spot hc
      rw [c1] at h3
      have h2 := h2 0 (by omega)
      unfold cellOf at h2
      split at h2
      ·rw [if_pos (by unfold Addr.add; split <;> simp_all)] at h2; cases h2
      ·cases h2
   obtain ⟨b, o, rfl⟩ := ha
   refine ⟨b, o, cap, rfl, fun i hi => ?_⟩
   have h1 := hat i hi
   have hxi : elems[i]? = some (elems[i]'(by omega)) := List.getElem?_eq_getElem (by omega)
   rw [hxi, c1, Nat.mul_one] at h1
   have h2 : (elems[i]'(by omega)).1 = .lit (.string zs[i]) := by
    have := congrArg (fun l => l[i]?) hxe
    simpa [hi, hl] using this
   obtain ⟨x, y, hxy⟩ : ∃ x y, elems[i]'(by omega) = (x, y) := ⟨_, _, rfl⟩
   rw [hxy] at h1 h2
   simp only at h2
   rw [h2, Option.bind_eq_some_iff] at h1
   obtain ⟨l, hl1, hl2⟩ := h1
   have h3 := (trod_str' ht hl2).1
   subst h3
   have h4 := (cells_spot hl1).2 0 (by simp)
   rw [add_none, add_none, hw] at h4
   simpa using h4
 ·cases ht
theorem trod_pairs {k : IntKind} {P : Program} {w : World} {fuel : Nat} {t : TypeId} {cs : List Value} {zs : List (List UInt8 × Int)} {p : List MemPlace} (ht : isArr zs.length (isPair isStr (isInt k)) P t = true)
  (h : DataW.trod (fun _ => ()) P w 0 (fun _ => true) false fuel t cs = some (.agg (zs.map fun z => .agg [.lit (.string z.1), .lit (.int k z.2)]), p)) :
  ∀ i (hi : i < zs.length), cs[2 * i]? = some (.string ⟨⟨zs[i].1⟩⟩) ∧ cs[2 * i + 1]? = some (.int k zs[i].2) := by
 unfold isArr at ht
 split at ht
 ·rename_i n u hu
  rw [Bool.and_eq_true, Bool.and_eq_true] at ht
  obtain ⟨⟨hn, hc⟩, hi⟩ := ht
  obtain ⟨xs, m, rfl, he, hl, hx, hat⟩ := DataW.trod_array hu h
  have hn : zs.length = n := by simpa using hn
  subst hn
  unfold isPair at hi
  split at hi
  ·rename_i f1 f2 hs
   simp only [Bool.and_eq_true, beq_iff_eq] at hi
   obtain ⟨⟨⟨⟨o1, o2⟩, t1⟩, t2⟩, c2⟩ := hi
   have hxe : xs.map (·.1) = zs.map fun z => DataW.agg [.lit (.string z.1), .lit (.int k z.2)] := by
    have := congrArg (fun x => x.1) he
    simpa using this.symm
   intro i hi'
   have h1 := hat i hi'
   have hxi : xs[i]? = some (xs[i]'(by omega)) := List.getElem?_eq_getElem (by omega)
   rw [hxi, c2] at h1
   have h2 : (xs[i]'(by omega)).1 = .agg [.lit (.string zs[i].1), .lit (.int k zs[i].2)] := by
    have := congrArg (fun l => l[i]?) hxe
    simpa [hi', hx] using this
   obtain ⟨a, b, hab⟩ : ∃ a b, xs[i]'(by omega) = (a, b) := ⟨_, _, rfl⟩
   rw [hab] at h1 h2
   simp only at h2
   rw [h2] at h1
   obtain ⟨ys, m', rfl, he', hl', hy, hat'⟩ := DataW.trod_struct hs h1
   have hy2 : ys.length = 2 := hy
   match ys, hy2, he', hat' with
   | [y1, y2], _, he', hat' =>
    have he' := congrArg (fun x => x.1) he'
    simp only [List.map_cons, List.map_nil, DataW.agg.injEq, List.cons.injEq, and_true] at he'
    have a1 := hat' 0 f1 rfl
    have a2 := hat' 1 f2 rfl
    rw [o1] at a1
    rw [o2] at a2
    obtain ⟨a, b⟩ := y1
    obtain ⟨a', b'⟩ := y2
    simp only at he'
    obtain ⟨rfl, rfl⟩ := he'
    have b1 := trod_str' t1 a1
    have b2 := trod_int' t2 a2
    rw [b1.2] at b1
    rw [b2.2] at b2
    have b1 := drop_take_one b1.1
    have b2 := drop_take_one b2.1
    rw [List.getElem?_take_of_lt (by omega), List.getElem?_drop] at b1 b2
    refine ⟨?_, ?_⟩
    ·rw [Nat.mul_comm]; simpa using b1
    ·rw [Nat.mul_comm]; simpa using b2
  ·cases hi
 ·cases ht
end Go.Crisp
namespace Go.Proofs.YtolcfipmjhjeaaaDoor
open Go Go.Crisp
theorem globB_of {L : List (String × DataW Unit)} {h : Heap} (H : Listed Tryd.prog L h) (hn : (L.all fun x => x.2.handleName?.isNone) = true)
  (m1 : ("smalto/border.names", Rows.laid_smalto_border_names) ∈ L) (m2 : ("smalto/raw.kinds", Rows.laid_smalto_raw_kinds) ∈ L) : GlobB h := by
 let w : World := ⟨h, fun _ _ => 0, 0, default, #[]⟩
 refine ⟨?_, ?_⟩
 ·obtain ⟨t, cs, fuel, p, _, hk, _, hc, ht⟩ := H.kind hn m1 w rfl (g := G_border_names) (k := isSlice isStr) (by kernel_rfl)
  obtain ⟨b, o, cap, he, hx⟩ := trod_strs (h := h) rfl (zs := [[99, 108, 97, 109, 112], [109, 105, 114, 114, 111, 114], [119, 114, 97, 112]]) (by simp) hk ht
  have h0 := hc 0
  obtain ⟨l⟩ := cs
  rw [show l = _ from he] at h0
  refine ⟨_, h0, by simp, some ⟨b, o, none⟩, cap, rfl, .inr ⟨b, o, rfl, fun j hj => ?_⟩⟩
  have := hx j hj
  rw [this]
  match j, hj with
  | 0, _ => rfl
  | 1, _ => rfl
  | 2, _ => rfl
 ·obtain ⟨t, cs, fuel, p, _, hk, _, hc, ht⟩ := H.kind hn m2 w rfl (g := G_raw_kinds) (k := isArr 3 (isPair isStr (isInt .i64))) (by kernel_rfl)
  have := trod_pairs (zs := [([98, 111, 120], 0), ([99, 117, 98, 105, 99], 2), ([108, 97, 110, 99, 122, 111, 115], 3)]) hk ht
  intro i hi
  have h1 := this i hi
  rw [hc, hc]
  rw [Array.getElem?_toList, Array.getElem?_toList] at h1
  rw [h1.1, h1.2]
  match i, hi with
  | 0, _ => exact ⟨rfl, rfl⟩
  | 1, _ => exact ⟨rfl, rfl⟩
  | 2, _ => exact ⟨rfl, rfl⟩
theorem globT_of {L : List (String × DataW Unit)} {h : Heap} (H : Listed Tryd.prog L h) (hn : (L.all fun x => x.2.handleName?.isNone) = true)
  (m3 : ("internal/strconv.uint64pow10", Rows.laid_internal_strconv_uint64pow10) ∈ L) : TabH h "internal/strconv.uint64pow10" .u64 Lib.pow10Tab := by
 let w : World := ⟨h, fun _ _ => 0, 0, default, #[]⟩
 obtain ⟨t, cs, fuel, p, hg, hk, hv, hc, ht⟩ := H.kind hn m3 w rfl (g := (Tryd.prog.globalNamed "internal/strconv.uint64pow10").getD 0) (k := isArr 20 (isInt .u64)) (by kernel_rfl)
 exact tabH_of (t := t) hg hv (trod_ints (k := .u64) (zs := Lib.pow10Tab) hk ht)
theorem globH_of {L : List (String × DataW Unit)} {h : Heap} (H : Listed Tryd.prog L h) (hn : (L.all fun x => x.2.handleName?.isNone) = true)
  (m1 : ("smalto/border.names", Rows.laid_smalto_border_names) ∈ L) (m2 : ("smalto/raw.kinds", Rows.laid_smalto_raw_kinds) ∈ L) (m3 : ("internal/strconv.uint64pow10", Rows.laid_internal_strconv_uint64pow10) ∈ L) : GlobH h :=
 ⟨globB_of H hn m1 m2, globT_of H hn m3⟩
end Go.Proofs.YtolcfipmjhjeaaaDoor
namespace Go.Proofs.YtolcfipmjhjeaaaDoor
open Go Go.Crisp
attribute [local irreducible] FCall rowK newK stK iteK vK qK drawK gK joinK loopK mkK appK cpyK nextStrK rangeStrK
theorem row_ints {h : Heap} {b : Nat} {t : TypeId} {l : List Int} {n : Nat} (hn : l.length = n) (hb : h[b]? = some (.cells (l.map (Value.int .i64)).toArray t (0, 0))) : Rp.Sl rI (fun k => k = b) h (.slice (some ⟨b, 0, none⟩) n n) l := by
 subst hn
 refine ⟨l.map (Value.int .i64), ⟨by simp [Rp.int], _, _, rfl, .inr ⟨b, 0, rfl, fun j hj => ?_⟩⟩, fun _ k hk => hk, fun i hi => ?_⟩
 ·rw [Nat.zero_add, cell_row hb]
  simp at hj
  simp [hj]
 ·show Rp.el 1 _ i = [.int .i64 l[i]]
  rw [Rp.el_one (by simpa using hi), List.getElem_map]
def livesOp : OpD := ⟨2, 2, 0, 0, [1, 2, 1], [1], 0, 0, 0⟩
theorem lives_word : wordL livesOp = [226, 138, 151, 49, 44, 50, 44, 49, 195, 151, 49, 124, 119, 114, 97, 112] := by
 have h1 : Lib.itoa 1 = [49] := by rw [show (1 : Int) = ((1 : Nat) : Int) from rfl]; unfold Lib.itoa; rw [if_neg (by omega), Int.toNat_natCast, Lib.decDigits_one (by omega)]; rfl
 have h2 : Lib.itoa 2 = [50] := by rw [show (2 : Int) = ((2 : Nat) : Int) from rfl]; unfold Lib.itoa; rw [if_neg (by omega), Int.toNat_natCast, Lib.decDigits_one (by omega)]; rfl
 have e : wordL livesOp = kSign 2 ++ (numsL [1, 2, 1] ++ [195, 151] ++ numsL [1]) ++ [124] ++ bName 2 := by
  unfold wordL
  rw [if_pos (by unfold OpD.ok livesOp; simp)]; rfl
 rw [e]
 unfold numsL
 simp only [List.map_cons, List.map_nil, h1, h2]
 rfl
theorem c_Lives {h : Heap} (G : GlobH h) : FCall Tryd.prog F_law13_Lives #[] h fun r h' => r = .bool true ∧ Ext h h' := by
 apply ok_law13_Lives
 unfold sh_law13_Lives
 refine rowK_use (c' := #[.int .i64 1, .int .i64 2, .int .i64 1]) (by rfl) fun b1 h1 r1 e1 n1 => rowK_use (c' := #[.int .i64 1]) (by rfl) fun b2 h2 r2 e2 n2 => ?_
 have e := e1.trans e2
 have hf : (fillL #[(.int .i64 0), (.int .i64 0), (.int .i64 0), (.int .i64 0), (.slice none 0 0), (.slice none 0 0), (.int .i64 0), (.int .i64 0), (.int .i64 0)] [(0, 1, (.int .i64 2)), (4, 1, .slice (some ⟨b1, 0, none⟩) 3 3), (5, 1, .slice (some ⟨b2, 0, none⟩) 1 1), (1, 1, (.int .i64 2))]) = some #[.int .i64 2, .int .i64 2, .int .i64 0, .int .i64 0, .slice (some ⟨b1, 0, none⟩) 3 3, .slice (some ⟨b2, 0, none⟩) 1 1, .int .i64 0, .int .i64 0, .int .i64 0] := rfl
 rw [hf, Option.map_some, vK_some]
 have w : livesOp.Wf := by
  constructor <;> simp [livesOp, I64]
 refine (c_Word (G.ext e) (Z := fun _ => True) (o := livesOp) ⟨_, _, rfl, (row_ints rfl (e2.row r1)).mono fun _ _ _ => trivial, (row_ints rfl r2).mono fun _ _ _ => trivial⟩ w (by simp [livesOp]) (by simp [livesOp])).mono fun v3 h3 ⟨hv3, e3⟩ => ?_
 have ok : livesOp.ok := by unfold OpD.ok livesOp; simp
 rw [lives_word, if_pos ok] at hv3
 subst hv3
 simp only [go_sem]
 exact ⟨trivial, e.trans e3⟩
theorem kSign_nil (b : Int) : kSign b = [] ↔ ¬ (0 ≤ b ∧ b ≤ 3) := by
 unfold kSign
 by_cases h0 : b = 0
 ·subst h0; simp
 by_cases h1 : b = 1
 ·subst h1; simp
 by_cases h2 : b = 2
 ·subst h2; simp
 by_cases h3 : b = 3
 ·subst h3; simp
 rw [if_neg h0, if_neg h1, if_neg h2, if_neg h3]
 simp; omega
def allOk (l : List OpD) : Prop := ∀ o ∈ l, o.ok
instance (l : List OpD) : Decidable (allOk l) := by unfold allOk; exact inferInstance
def printL (l : List OpD) : List UInt8 := Lib.join (l.map wordL) [59]
def Small (n : Nat) (l : List OpD) : Prop := ∀ o ∈ l, o.Wf ∧ o.x.length ≤ n ∧ o.y.length ≤ n
theorem printL_length {n : Nat} {l : List OpD} (h : Small n l) : (printL l).length ≤ (71 + 44 * n) * l.length := by
 have := join_length [59] (l.map wordL) (70 + 44 * n) (fun x hx => by
  obtain ⟨o, ho, rfl⟩ := List.mem_map.1 hx
  obtain ⟨w, h1, h2⟩ := h o ho
  have := wordL_length w
  omega)
 rw [List.length_map] at this
 refine Nat.le_trans this (Nat.le_of_eq ?_)
 congr 1
 simp; omega
theorem six_zero : ((6 : Int) = 0) = False := eq_false (by omega)
theorem c_Print {h : Heap} (G : GlobH h) {Z : Nat → Prop} {v : Value} {l : List OpD} (H : Rp.Sl rOp Z h v l) (hw : Small 1000 l) (hl : l.length ≤ 1000) :
  FCall Tryd.prog F_recipe_Print #[v] h fun r h' => r = .tuple #[S (if allOk l then printL l else []), .int .i64 (if allOk l then 0 else 6)] ∧ Ext h h' := by
 apply ok_recipe_Print
 unfold sh_recipe_Print
 obtain ⟨a, cap, rfl⟩ := H.isSl
 simp only [go_sem]
 refine loopK_var (fun d xs h2 => ∃ (i : Nat) (sv : Value), i ≤ l.length ∧ d = l.length - i ∧ xs = [sv, .int .i64 (i : Int)] ∧ Words h2 sv ((l.take i).map wordL) ∧ Ext h h2 ∧ (∀ b, blk sv b → h.size ≤ b) ∧ allOk (l.take i)) l.length
  ⟨0, _, by omega, by omega, rfl, Rp.Ow.nil, Ext.refl _, fun b hb => hb.elim, fun o ho => absurd ho (by simp)⟩ ?_
 rintro d _ ρj h2 again ⟨i, sv, hi, rfl, rfl, W, e, nb, ok⟩ hag
 simp only [go_sem]
 refine iteK_dec (fun h1 => ?_) (fun h1 => ?_)
 ·have hi' : i < l.length := by omega
  obtain ⟨p, cs, hp, hc, hR⟩ := (H.ext e).atw (by decide) (k := .i64) hi'
  have hp : idxV 9 (.slice a l.length cap) (.int .i64 (i : Int)) = some p := hp
  have hc : ldsV 9 h2 p = some (.agg cs.toArray) := hc
  have hcl : cs.length = 9 := rOp.len hR
  simp only [go_sem, hp, hc]
  obtain ⟨wf, hx, hy⟩ := hw l[i] (List.getElem_mem hi')
  refine var_new hcl (rOp.one hR) hcl fun b h3 r3 e3 n3 => ?_
  rw [lds_row r3 9 hcl, vK_some]
  refine (c_Word (G.ext (e.trans e3)) (rOp.ext hR e3) wf (by omega) (by omega)).mono fun r h4 ⟨hr, e4⟩ => ?_
  subst hr
  by_cases hk : l[i].ok
  ·rw [if_pos hk]
   simp only [go_sem]
   refine Rp.push_ow1 (e := Rp.bs) rfl (x := wordL l[i]) (W.ext (e3.trans e4)) rfl rfl (by simp; omega) (by simp; omega) (fun b hb => hb.elim) fun s' h5 o5 f5 n5 => ?_
   rw [w64 (by omega) (by omega)]
   have ht : l.take (i + 1) = l.take i ++ [l[i]] := List.take_succ_eq_append_getElem hi'
   refine hag _ _ (l.length - (i + 1)) (by omega) ⟨i + 1, s', by omega, rfl, by simp, ?_, (e.trans (e3.trans e4)).then_fr f5 nb, fun b hb => ?_, ?_⟩
   ·rw [ht, List.map_append]; exact o5
   ·rcases n5 b hb with h6 | h6
    ·exact nb b h6
    ·exact Nat.le_trans (e.trans (e3.trans e4)).1 h6
   ·rw [ht]
    intro o ho
    rcases List.mem_append.1 ho with h6 | h6
    ·exact ok o h6
    ·rw [List.mem_singleton.1 h6]; exact hk
  ·rw [if_neg hk]
   have hn : ¬ allOk l := fun h => hk (h _ (List.getElem_mem hi'))
   simp only [go_sem, six_zero]
   rw [if_neg hn, if_neg hn]
   exact ⟨rfl, e.trans (e3.trans e4)⟩
 ·have : i = l.length := by omega
  subst this
  rw [List.take_length] at W ok
  rw [if_pos ok, if_pos ok]
  refine FCall.mono (c_Join W (by simp; omega) ?_) fun r h3 ⟨hr, e3⟩ => ?_
  ·have := printL_length hw
   show (printL l).length ≤ _
   have h2 : (71 + 44 * 1000) * l.length ≤ (71 + 44 * 1000) * 1000 := Nat.mul_le_mul_left _ hl
   omega
  ·subst hr
   exact ⟨rfl, e.trans e3⟩
def fewL (l : List OpD) : Prop := (∀ o ∈ l, o.x.length ≤ 60 ∧ o.y.length ≤ 60) ∧ l.length ≤ 20
instance (l : List OpD) : Decidable (fewL l) := by unfold fewL; exact inferInstance
theorem c_few {h : Heap} {Z : Nat → Prop} {v : Value} {l : List OpD} (H : Rp.Sl rOp Z h v l) (hl : l.length ≤ 4398046511104) :
  FCall Tryd.prog F_law13_few #[v] h fun r h' => r = .bool (decide (fewL l)) ∧ Ext h h' := by
 apply ok_law13_few
 unfold sh_law13_few
 obtain ⟨a, cap, rfl⟩ := H.isSl
 simp only [go_sem]
 refine loop_count l.length (fun i h2 => i ≤ l.length ∧ Ext h h2 ∧ ∀ o ∈ l.take i, o.x.length ≤ 60 ∧ o.y.length ≤ 60) ⟨by omega, Ext.refl _, fun o ho => absurd ho (by simp)⟩ ?_
 rintro i h2 again ρj ⟨hi, e, ok⟩ hag
 simp only [go_sem]
 refine iteK_dec (fun h1 => ?_) (fun h1 => ?_)
 ·have hi' : i < l.length := by omega
  obtain ⟨p, cs, hp, hc, hR⟩ := (H.ext e).atw (by decide) (k := .i64) hi'
  have hp : idxV 9 (.slice a l.length cap) (.int .i64 (i : Int)) = some p := hp
  have hc : ldsV 9 h2 p = some (.agg cs.toArray) := hc
  have hcl : cs.length = 9 := rOp.len hR
  simp only [go_sem, hp, hc]
  refine var_new hcl (rOp.one hR) hcl fun b h3 r3 e3 n3 => ?_
  obtain ⟨s, t, rfl, Hx, Hy⟩ := hR
  obtain ⟨a1, c1, rfl⟩ := Hx.isSl
  obtain ⟨a2, c2, rfl⟩ := Hy.isSl
  have fin : ¬ (l[i].x.length ≤ 60 ∧ l[i].y.length ≤ 60) → Value.bool false = .bool (decide (fewL l)) := fun hn => by
   rw [decide_eq_false fun h => hn (h.1 _ (List.getElem_mem hi'))]
  by_cases hx : 60 < l[i].x.length
  ·have q : (60 < (l[i].x.length : Int)) = True := eq_true (by omega)
   simp only [go_sem, cell_row r3, q]
   exact ⟨fin (by omega), e.trans e3⟩
  ·have q : (60 < (l[i].x.length : Int)) = False := eq_false (by omega)
   by_cases hy : 60 < l[i].y.length
   ·have q2 : (60 < (l[i].y.length : Int)) = True := eq_true (by omega)
    simp only [go_sem, cell_row r3, q, q2]
    exact ⟨fin (by omega), e.trans e3⟩
   ·have q2 : (60 < (l[i].y.length : Int)) = False := eq_false (by omega)
    simp only [go_sem, cell_row r3, q, q2]
    rw [w64 (by omega) (by omega)]
    refine hag _ hi' ⟨by omega, e.trans e3, ?_⟩
    rw [List.take_succ_eq_append_getElem hi']
    intro o ho
    rcases List.mem_append.1 ho with h6 | h6
    ·exact ok o h6
    ·rw [List.mem_singleton.1 h6]; omega
 ·have : i = l.length := by omega
  subst this
  rw [List.take_length] at ok
  refine ⟨?_, e⟩
  congr 1
  by_cases h6 : l.length ≤ 20
  ·rw [decide_eq_true (by omega), decide_eq_true ⟨ok, h6⟩]
  ·rw [decide_eq_false (by omega), decide_eq_false fun h => h6 h.2]
end Go.Proofs.YtolcfipmjhjeaaaDoor
namespace Go.Proofs.YtolcfipmjhjeaaaDoor
open Go Go.Crisp
theorem dec_small {m : Nat} (h : m < 10) : Lib.decDigits m = [UInt8.ofNat (48 + m)] := by rw [Lib.decDigits, dif_pos h]
theorem dec_big {m : Nat} (h : ¬ m < 10) : Lib.decDigits m = Lib.decDigits (m / 10) ++ [UInt8.ofNat (48 + m % 10)] := by rw [Lib.decDigits, dif_neg h]
theorem dig_nat {d : Nat} (h : d < 10) : (UInt8.ofNat (48 + d)).toNat = 48 + d := by rw [UInt8.toNat_ofNat']; omega
def isDig (c : UInt8) : Prop := 48 ≤ c.toNat ∧ c.toNat ≤ 57
theorem dec_dig (m : Nat) : ∀ c ∈ Lib.decDigits m, isDig c := by
 induction m using Nat.strongRecOn with
 | _ m ih =>
  by_cases h : m < 10
  ·rw [dec_small h]
   intro c hc
   rw [List.mem_singleton] at hc
   subst hc
   unfold isDig
   rw [dig_nat h]
   omega
  ·rw [dec_big h]
   intro c hc
   rcases List.mem_append.1 hc with hc | hc
   ·exact ih (m / 10) (by omega) c hc
   ·rw [List.mem_singleton] at hc
    subst hc
    unfold isDig
    rw [dig_nat (by omega)]
    omega
theorem dec_ne (m : Nat) : Lib.decDigits m ≠ [] := by
 by_cases h : m < 10
 ·rw [dec_small h]; simp
 ·rw [dec_big h]; simp
def dv (a : Nat) (l : List UInt8) : Nat := l.foldl (fun a c => a * 10 + (c.toNat - 48)) a
theorem dv_cons (a : Nat) (c : UInt8) (l : List UInt8) : dv a (c :: l) = dv (a * 10 + (c.toNat - 48)) l := by unfold dv; rw [List.foldl_cons]
theorem dv_app (a : Nat) (l m : List UInt8) : dv a (l ++ m) = dv (dv a l) m := by simp [dv]
theorem dv_ge (l : List UInt8) : ∀ a, a ≤ dv a l := by
 induction l with
 | nil => exact fun a => Nat.le_refl _
 | cons c l ih =>
  intro a
  rw [dv_cons]
  have := ih (a * 10 + (c.toNat - 48))
  omega
theorem dv_nil (a : Nat) : dv a [] = a := rfl
theorem dv_dec (m : Nat) : dv 0 (Lib.decDigits m) = m := by
 induction m using Nat.strongRecOn with
 | _ m ih =>
  by_cases h : m < 10
  ·rw [dec_small h, dv_cons, dv_nil, dig_nat h]
   omega
  ·rw [dec_big h, dv_app, ih (m / 10) (by omega), dv_cons, dv_nil, dig_nat (by omega)]
   omega
theorem pu_ok {M : Nat} (hM : M ≤ 18446744073709551615) : ∀ (l : List UInt8) (a : Nat), (∀ c ∈ l, isDig c) → dv a l ≤ M → Lib.parseUintM M a l = .ok (dv a l)
 | [], _, _, _ => rfl
 | c :: l, a, hd, h => by
  rw [dv_cons] at h ⊢
  have hc := hd c (by simp)
  have hg := dv_ge l (a * 10 + (c.toNat - 48))
  unfold Lib.parseUintM
  unfold isDig at hc
  rw [if_pos hc, if_neg (by omega), if_neg (by omega)]
  exact pu_ok hM l _ (fun x hx => hd x (by simp [hx])) h
theorem pub_ok {m : Nat} (h : m ≤ 9223372036854775808) : Lib.parseUintB 64 (Lib.decDigits m) = .ok m := by
 unfold Lib.parseUintB
 rw [if_neg (dec_ne m), pu_ok (by decide) _ _ (dec_dig m) (by rw [dv_dec]; omega), dv_dec]
theorem pi_itoa {n : Int} (h : I64 n) : Lib.parseIntB 64 (Lib.itoa n) = .ok n := by
 obtain ⟨h1, h2⟩ := h
 by_cases hn : n < 0
 ·obtain ⟨m, rfl⟩ : ∃ m : Nat, n = -(m : Int) := ⟨n.natAbs, by omega⟩
  rw [Lib.itoa_neg m (by omega)]
  unfold Lib.parseIntB
  simp only [show (45 : UInt8).toNat = 45 from rfl, or_true, if_true]
  rw [pub_ok (by omega)]
  simp only [not_true_eq_false, false_and, if_false, true_and, if_true]
  rw [if_neg (by omega)]
 ·obtain ⟨m, rfl⟩ : ∃ m : Nat, n = (m : Int) := ⟨n.toNat, by omega⟩
  rw [Lib.itoa_nonneg m]
  have hd := dec_dig m
  cases e : Lib.decDigits m with
  | nil => exact absurd e (dec_ne m)
  | cons c r =>
   have hc := hd c (by rw [e]; simp)
   unfold isDig at hc
   unfold Lib.parseIntB
   simp only
   rw [if_neg (by omega), ← e, pub_ok (by omega)]
   simp only
   rw [if_neg (by omega), if_neg (by omega), if_neg (by omega)]
theorem itoa_ne (n : Int) : Lib.itoa n ≠ [] := by
 unfold Lib.itoa
 split
 ·simp
 ·exact dec_ne _
theorem itoa_ch (n : Int) : ∀ c ∈ Lib.itoa n, isDig c ∨ c = 45 := by
 unfold Lib.itoa
 split
 ·intro c hc
  rcases List.mem_cons.1 hc with rfl | hc
  ·exact .inr rfl
  ·exact .inl (dec_dig _ c hc)
 ·exact fun c hc => .inl (dec_dig _ c hc)
theorem occ_at {s t : List UInt8} {i : Nat} : Lib.occAt s t i = true ↔ ∃ r, s.drop i = t ++ r := by
 unfold Lib.occAt
 rw [List.isPrefixOf_iff_prefix]
 exact ⟨fun ⟨r, h⟩ => ⟨r, h.symm⟩, fun ⟨r, h⟩ => ⟨r, h.symm⟩⟩
theorem cut_hit {a b : List UInt8} {c : UInt8} {t : List UInt8} (h : c ∉ a) : Lib.cut (a ++ (c :: t) ++ b) (c :: t) = (a, b, true) := by
 have e : Lib.index (a ++ (c :: t) ++ b) (c :: t) = (a.length : Int) := by
  refine Lib.index_first (by simp) (occ_at.2 ⟨b, by simp⟩) fun j hj => ?_
  rw [Bool.eq_false_iff]
  intro h1
  obtain ⟨r, h2⟩ := occ_at.1 h1
  have h3 : (a ++ (c :: t) ++ b)[j]? = some c := by
   have := congrArg (fun l => l[0]?) h2
   simpa using this
  rw [List.append_assoc, List.getElem?_append_left hj] at h3
  exact h (List.mem_of_getElem? h3)
 unfold Lib.cut
 rw [e, if_pos (by omega)]
 simp
theorem cut_cases (s t : List UInt8) : (∃ a b, Lib.cut s t = (a, b, true) ∧ s = a ++ t ++ b) ∨ Lib.cut s t = (s, [], false) := by
 unfold Lib.cut
 rcases Lib.index_spec s t with ⟨h1, _⟩ | ⟨i, h1, h2, h3, _⟩
 ·rw [h1, if_neg (by omega)]; exact .inr rfl
 ·rw [h1, if_pos (by omega)]
  refine .inl ⟨_, _, rfl, ?_⟩
  obtain ⟨r, h4⟩ := occ_at.1 h3
  have : s.drop ((i : Int).toNat + t.length) = r := by rw [← List.drop_drop]; simp [h4]
  rw [this]
  have h5 := List.take_append_drop i s
  rw [h4] at h5
  simpa using h5.symm
theorem cut_len (s t : List UInt8) : (Lib.cut s t).1.length ≤ s.length ∧ (Lib.cut s t).2.1.length ≤ s.length := by
 rcases cut_cases s t with ⟨a, b, h1, h2⟩ | h1
 ·rw [h1, h2]; simp; omega
 ·rw [h1]; simp
theorem splitL_ne (c : UInt8) (s : List UInt8) : splitL c s ≠ [] := by
 cases s with
 | nil => simp [splitL]
 | cons b r =>
  rw [splitL_cons]
  split
  ·simp
  ·split <;> simp
theorem join_cons2 (x y : List UInt8) (l : List (List UInt8)) (sep : List UInt8) : Lib.join (x :: y :: l) sep = x ++ (sep ++ Lib.join (y :: l) sep) := by simp [Lib.join, Lib.joinTail]
theorem join_one (x sep : List UInt8) : Lib.join [x] sep = x := by simp [Lib.join, Lib.joinTail]
theorem join_head (b : UInt8) (x : List UInt8) (l : List (List UInt8)) (sep : List UInt8) : Lib.join ((b :: x) :: l) sep = b :: Lib.join (x :: l) sep := by simp [Lib.join]
theorem splitL_join (c : UInt8) : ∀ s : List UInt8, Lib.join (splitL c s) [c] = s
 | [] => rfl
 | b :: r => by
  have ih := splitL_join c r
  rw [splitL_cons]
  have hne := splitL_ne c r
  cases e : splitL c r with
  | nil => exact absurd e hne
  | cons x l =>
   rw [e] at ih
   split
   ·rename_i h
    subst h
    rw [join_cons2, ih]; rfl
   ·simp only
    rw [join_head, ih]
theorem splitL_app {c : UInt8} {a r : List UInt8} (h : c ∉ a) : splitL c (a ++ c :: r) = a :: splitL c r := by
 have := splitL_some (c := c) (s := a ++ c :: r) (i := a.length) (by simp) fun k hk e => by
  rw [List.getElem?_append_left hk] at e
  exact h (List.mem_of_getElem? e)
 rw [this]
 simp
theorem splitL_one {c : UInt8} {a : List UInt8} (h : c ∉ a) : splitL c a = [a] := splitL_none fun k e => h (List.mem_of_getElem? e)
theorem splitL_words {c : UInt8} : ∀ (ws : List (List UInt8)), ws ≠ [] → (∀ x ∈ ws, c ∉ x) → splitL c (Lib.join ws [c]) = ws
 | [], h, _ => absurd rfl h
 | [x], _, h => by
  rw [join_one]
  exact splitL_one (h x (by simp))
 | x :: y :: l, _, h => by
  have ih := splitL_words (c := c) (y :: l) (by simp) fun z hz => h z (by simp [hz])
  rw [join_cons2, List.singleton_append, splitL_app (h x (by simp)), ih]
theorem splitL_len (c : UInt8) (s : List UInt8) : (splitL c s).length ≤ s.length + 1 := by
 induction s with
 | nil => simp [splitL]
 | cons b r ih =>
  rw [splitL_cons]
  split
  ·simp; omega
  ·split <;> rename_i h <;> rw [h] at ih <;> simp at ih ⊢ <;> omega
theorem splitL_mem_len (c : UInt8) (s : List UInt8) : ∀ x ∈ splitL c s, x.length ≤ s.length := by
 induction s with
 | nil => intro x hx; simp [splitL] at hx; subst hx; simp
 | cons b r ih =>
  rw [splitL_cons]
  split
  ·intro x hx
   rcases List.mem_cons.1 hx with rfl | hx
   ·simp
   ·have := ih x hx; simp; omega
  ·cases e : splitL c r with
   | nil => exact absurd e (splitL_ne c r)
   | cons y l =>
    rw [e] at ih
    intro x hx
    rcases List.mem_cons.1 hx with rfl | hx
    ·have := ih y (by simp); simp; omega
    ·have := ih x (by simp [hx]); simp; omega
end Go.Proofs.YtolcfipmjhjeaaaDoor
namespace Go.Crisp
open Go
theorem sl1_rd {e : TS} {z : Nat} {h : Heap} {cs : List Value} {l : List e.T} (enc : e.T → Value) (Q : e.T → Prop) (hw : e.w = 1) (he : ∀ ds x, Rd e h ds x → ds = [enc x] ∧ Q x) (H : Rd (.sl e z) h cs l) :
  ∃ v, cs = [v] ∧ SlC 1 h v l.length (l.map enc) ∧ (∀ x ∈ l, Q x) ∧ l.length * z ≤ 140737488351232 := by
 obtain ⟨a, cap, rfl, h1, _, h2, hl⟩ := H
 have hz : l.length * z ≤ 140737488351232 := Nat.le_trans (Nat.mul_le_mul_right z h1) h2
 rcases hl with hl | ⟨b, o, ha, hl⟩
 ·have : l = [] := List.eq_nil_of_length_eq_zero hl
  subst this
  exact ⟨_, rfl, ⟨rfl, a, cap, rfl, .inl rfl⟩, fun x hx => absurd hx (by simp), hz⟩
 ·have ha : a = some ⟨b, o, none⟩ := ha.resolve_left (by omega)
  refine ⟨_, rfl, ⟨by simp, a, cap, rfl, .inr ⟨b, o, ha, fun j hj => ?_⟩⟩, fun x hx => ?_, hz⟩
  ·rw [List.length_map] at hj
   obtain ⟨ds, _, hc, hr⟩ := hl j hj
   obtain ⟨rfl, _⟩ := he _ _ hr
   have := hc 0 (by simp)
   rw [hw] at this
   simp only [Nat.mul_one, Nat.add_zero, List.getElem_cons_zero] at this
   rw [List.getElem_map]
   exact this
  ·obtain ⟨i, hi, rfl⟩ := List.mem_iff_getElem.1 hx
   obtain ⟨ds, _, hc, hr⟩ := hl i hi
   exact (he _ _ hr).2
theorem i64_wf {n : Int} (h : (Lit.int .i64 n).wf = true) : -9223372036854775808 ≤ n ∧ n ≤ 9223372036854775807 := by
 have h : (decide (IntKind.i64.min ≤ n) && decide (n ≤ IntKind.i64.max)) = true := h
 rw [Bool.and_eq_true, decide_eq_true_eq, decide_eq_true_eq] at h; exact h
theorem sl_rd {α : Type} {e : TS} {E : Rp α} {z : Nat} {h : Heap} {cs : List Value} {l : List e.T} (f : e.T → α) (hw : e.w = E.w) (hp : 0 < e.w) (he : ∀ ds x, Rd e h ds x → E.R (fun _ => True) h ds (f x)) (H : Rd (.sl e z) h cs l) :
  ∃ v, cs = [v] ∧ Rp.Sl E (fun _ => True) h v (l.map f) ∧ l.length * z ≤ 140737488351232 := by
 obtain ⟨a, cap, rfl, h1, _, h2, hl⟩ := H
 have hz : l.length * z ≤ 140737488351232 := Nat.le_trans (Nat.mul_le_mul_right z h1) h2
 rcases hl with hl | ⟨b, o, ha, hl⟩
 ·have : l = [] := List.eq_nil_of_length_eq_zero hl
  subst this
  exact ⟨_, rfl, ⟨[], ⟨by simp, a, cap, rfl, .inl rfl⟩, fun h => absurd rfl h, fun i hi => absurd hi (by simp)⟩, hz⟩
 ·have ha : a = some ⟨b, o, none⟩ := ha.resolve_left (by omega)
  subst ha
  -- the cells, one behind the other
  have cell : ∀ n, n < l.length * e.w → ∃ c, cellOf h ⟨b, o + n, none⟩ = some c := by
   intro n hn
   have hi : n / e.w < l.length := by rw [Nat.div_lt_iff_lt_mul hp]; exact hn
   obtain ⟨ds, hd, hc, _⟩ := hl (n / e.w) hi
   have hj : n % e.w < ds.length := by rw [hd]; exact Nat.mod_lt _ hp
   have := hc (n % e.w) hj
   rw [Nat.add_assoc, Nat.mul_comm, Nat.div_add_mod] at this
   exact ⟨_, this⟩
  let g (n : Nat) : Value := if hn : n < l.length * e.w then Classical.choose (cell n hn) else undef
  have hg : ∀ n, n < l.length * e.w → cellOf h ⟨b, o + n, none⟩ = some (g n) := fun n hn => by
   have : g n = Classical.choose (cell n hn) := dif_pos hn
   rw [this]; exact Classical.choose_spec (cell n hn)
  refine ⟨_, rfl, ⟨(List.range (l.length * e.w)).map g, ⟨by simp [hw], _, cap, by rw [List.length_map], .inr ⟨b, o, rfl, fun j hj => ?_⟩⟩, fun _ _ _ => trivial, fun i hi => ?_⟩, hz⟩
  ·rw [List.length_map, List.length_range] at hj
   rw [List.getElem_map, List.getElem_range]
   exact hg j hj
  ·rw [List.length_map] at hi
   obtain ⟨ds, hd, hc, hr⟩ := hl i hi
   have hiw : i * e.w + e.w ≤ l.length * e.w := by rw [← Nat.succ_mul]; exact Nat.mul_le_mul_right e.w hi
   have hds : Rp.el E.w ((List.range (l.length * e.w)).map g) i = ds := by
    rw [← hw]
    apply List.ext_getElem
    ·rw [hd]; simp; omega
    ·intro j hj1 hj2
     have hj : j < e.w := by omega
     have h3 := hc j hj2
     rw [Nat.add_assoc, hg (i * e.w + j) (by omega)] at h3
     simp
     exact Option.some.inj h3
   rw [hds, List.getElem_map]
   exact he ds _ hr
end Go.Crisp
namespace Go.Proofs.YtolcfipmjhjeaaaDoor
open Go Go.Crisp
abbrev tI : TS := .int .i64
abbrev tIs : TS := .sl (.int .i64) 8
abbrev tOp : TS := .pair tI (.pair tI (.pair tI (.pair tI (.pair tIs (.pair tIs (.pair tI (.pair tI (.pair tI .unit))))))))
def opOf (x : tOp.T) : OpD := ⟨x.1, x.2.1, x.2.2.1, x.2.2.2.1, x.2.2.2.2.1, x.2.2.2.2.2.1, x.2.2.2.2.2.2.1, x.2.2.2.2.2.2.2.1, x.2.2.2.2.2.2.2.2.1⟩
theorem sl_of_slc {h : Heap} {v : Value} {l : List Int} (H : SlC 1 h v l.length (l.map (Value.int .i64))) : Rp.Sl rI (fun _ => True) h v l :=
 ⟨_, H, fun _ _ _ => trivial, fun i hi => by
  show Rp.el 1 _ i = [.int .i64 l[i]]
  rw [Rp.el_one (by simpa using hi), List.getElem_map]⟩
theorem i64s_rd {h : Heap} {cs : List Value} {l : List Int} (H : Rd tIs h cs l) : ∃ v, cs = [v] ∧ Rp.Sl rI (fun _ => True) h v l ∧ ∀ n ∈ l, I64 n := by
 obtain ⟨v, rfl, h1, h2, _⟩ := sl1_rd (e := .int .i64) (Value.int .i64) I64 rfl (fun ds x hr => ⟨hr.1, i64_wf hr.2⟩) H
 exact ⟨v, rfl, sl_of_slc h1, h2⟩
theorem op_rd {h : Heap} {cs : List Value} {x : tOp.T} (H : Rd tOp h cs x) : rOp.R (fun _ => True) h cs (opOf x) ∧ (opOf x).Wf := by
 obtain ⟨_, _, rfl, ⟨rfl, a1⟩, _, _, rfl, ⟨rfl, a2⟩, _, _, rfl, ⟨rfl, a3⟩, _, _, rfl, ⟨rfl, a4⟩, _, _, rfl, a5, _, _, rfl, a6, _, _, rfl, ⟨rfl, a7⟩, _, _, rfl, ⟨rfl, a8⟩, _, _, rfl, ⟨rfl, a9⟩, rfl⟩ := H
 obtain ⟨s, rfl, s1, s2⟩ := i64s_rd a5
 obtain ⟨t, rfl, t1, t2⟩ := i64s_rd a6
 exact ⟨⟨s, t, rfl, s1, t1⟩, ⟨i64_wf a1, i64_wf a2, i64_wf a3, i64_wf a4, i64_wf a7, i64_wf a8, i64_wf a9, s2, t2⟩⟩
theorem sl_mem {e : TS} {z : Nat} {h : Heap} {cs : List Value} {l : List e.T} (H : Rd (.sl e z) h cs l) : ∀ x ∈ l, ∃ ds, Rd e h ds x := by
 obtain ⟨a, cap, rfl, h1, _, h2, hl⟩ := H
 rcases hl with hl | ⟨b, o, ha, hl⟩
 ·have : l = [] := List.eq_nil_of_length_eq_zero hl
  subst this
  exact fun x hx => absurd hx (by simp)
 ·intro x hx
  obtain ⟨i, hi, rfl⟩ := List.mem_iff_getElem.1 hx
  obtain ⟨ds, _, _, hr⟩ := hl i hi
  exact ⟨ds, hr⟩
theorem ops_rd {h : Heap} {cs : List Value} {l : List tOp.T} (H : Rd (.sl (.st tOp) 104) h cs l) :
  ∃ v m, cs = [v] ∧ Rp.Sl rOp (fun _ => True) h v m ∧ (∀ o ∈ m, o.Wf) ∧ m.length ≤ 4398046511104 := by
 obtain ⟨v, rfl, h1, h2⟩ := sl_rd (e := .st tOp) (E := rOp) opOf rfl (by decide) (fun ds x hr => (op_rd hr).1) H
 have h3 : l.length ≤ 4398046511104 := by have h2 : List.length (α := tOp.T) l * 104 ≤ 140737488351232 := h2; show List.length (α := tOp.T) l ≤ _; omega
 refine ⟨v, l.map opOf, rfl, h1, fun o ho => ?_, by rw [List.length_map]; exact h3⟩
 obtain ⟨x, hx, rfl⟩ := List.mem_map.1 ho
 obtain ⟨ds, hr⟩ := sl_mem (e := .st tOp) H x hx
 exact (op_rd hr).2
end Go.Proofs.YtolcfipmjhjeaaaDoor
namespace Go.Proofs.YtolcfipmjhjeaaaDoor
open Go Go.Crisp
attribute [local irreducible] FCall rowK newK stK iteK vK qK drawK gK joinK loopK mkK appK cpyK nextStrK rangeStrK
theorem join_append (sep : List UInt8) (a b : List (List UInt8)) (ha : a ≠ []) (hb : b ≠ []) : Lib.join (a ++ b) sep = Lib.join a sep ++ sep ++ Lib.join b sep := by
 match a, b, ha, hb with
 | x :: a, y :: b, _, _ =>
  rw [List.cons_append, Lib.join_cons, Lib.join_cons, Lib.join_cons]
  simp [Lib.joinTail]
theorem wordL_ne {o : OpD} (h : o.ok) : wordL o ≠ [] := by
 unfold wordL
 rw [if_pos h]
 intro e
 have := congrArg List.length e
 simp at this
theorem join_ne (sep : List UInt8) (a : List (List UInt8)) (ha : a ≠ []) (h : ∀ x ∈ a, x ≠ []) : Lib.join a sep ≠ [] := by
 match a, ha with
 | x :: a, _ =>
  rw [Lib.join_cons]
  intro e
  exact h x (List.mem_cons_self ..) (List.append_eq_nil_iff.1 e).1
theorem printL_nil {l : List OpD} (h : allOk l) : printL l = [] ↔ l = [] := by
 constructor
 ·intro e
  by_cases hl : l = []
  ·exact hl
  ·exact absurd e (join_ne _ _ (by simpa using hl) fun x hx => by
    obtain ⟨o, ho, rfl⟩ := List.mem_map.1 hx
    exact wordL_ne (h o ho))
 ·rintro rfl; rfl
theorem printL_append {l m : List OpD} (hl : l ≠ []) (hm : m ≠ []) : printL (l ++ m) = printL l ++ [59] ++ printL m := by
 unfold printL
 rw [List.map_append]
 exact join_append _ _ _ (by simpa using hl) (by simpa using hm)
theorem allOk_app {l m : List OpD} : allOk (l ++ m) ↔ allOk l ∧ allOk m := by
 unfold allOk
 constructor
 ·exact fun h => ⟨fun o ho => h o (List.mem_append.2 (.inl ho)), fun o ho => h o (List.mem_append.2 (.inr ho))⟩
 ·rintro ⟨h1, h2⟩ o ho
  rcases List.mem_append.1 ho with h | h
  ·exact h1 o h
  ·exact h2 o h
end Go.Proofs.YtolcfipmjhjeaaaDoor
namespace Go.Crisp
open Go
theorem bsK_one {h : Heap} {b n : Nat} {t : TypeId} {f : Nat × Nat} {K : Value → Heap → Prop} (r : h[b]? = some (.cells #[.int .u8 (n : Int)] t f)) (H : K (S [UInt8.ofNat n]) h) : bsK (.slice (some ⟨b, 0, none⟩) 1 1) h K := by
 have e : loadsOf h ⟨b, 0, none⟩ 0 1 = some [.int .u8 (n : Int)] := by
  rw [loads_cons, cell_row r]
  simp [loads_zero]
 unfold bsK
 simp only [e, bytesL, Int.toNat_natCast]
 exact H
end Go.Crisp
namespace Go.Proofs.YtolcfipmjhjeaaaDoor
open Go Go.Crisp
attribute [local irreducible] FCall rowK newK stK iteK vK qK drawK gK joinK loopK mkK appK cpyK nextStrK rangeStrK bsK
theorem dec_split (m : Nat) : ∃ pre, Lib.decDigits m = pre ++ [UInt8.ofNat (48 + m % 10)] ∧ (m ≤ 9 → pre = []) ∧ (9 < m → pre = Lib.decDigits (m / 10)) := by
 by_cases h : m < 10
 ·refine ⟨[], ?_, fun _ => rfl, fun h2 => by omega⟩
  rw [Lib.decDigits_one h, Nat.mod_eq_of_lt h]; rfl
 ·refine ⟨Lib.decDigits (m / 10), ?_, fun h2 => by omega, fun _ => rfl⟩
  rw [Lib.decDigits, dif_neg h]
theorem digit_cell (m : Nat) : IntKind.u8.wrap (IntKind.u64.wrap (48 + ((m % 10 : Nat) : Int))) = ((48 + m % 10 : Nat) : Int) := by
 rw [wu64 (by omega) (by omega), wu8 (by omega) (by omega)]; omega
theorem c_positive {h : Heap} {n : Nat} (hn : n < 18446744073709551616) : FCall Tryd.prog F_ref10_positive #[.int .u64 (n : Int)] h fun r h' => r = S (Lib.decDigits n) ∧ Ext h h' := by
 apply ok_ref10_positive
 unfold sh_ref10_positive
 have e10 : ∀ m : Nat, binV .i .rem (.int .u64 (m : Int)) (.int .u64 10) = some (.int .u64 ((m % 10 : Nat) : Int)) := fun m => by
  rw [binV_rem _ _ _ _ (by omega)]
  congr 2
 have q10 : ∀ m : Nat, m < 18446744073709551616 → binV .i .quo (.int .u64 (m : Int)) (.int .u64 10) = some (.int .u64 ((m / 10 : Nat) : Int)) := fun m hm => by
  rw [binV_quo _ _ _ _ (by omega)]
  have : (m : Int).tdiv 10 = ((m / 10 : Nat) : Int) := by
   rw [show (10 : Int) = ((10 : Nat) : Int) from rfl, Int.ofNat_tdiv]
  rw [this, wu64 (by omega) (by omega)]
 rw [e10, vK_some]
 simp only [go_sem]
 rw [digit_cell]
 refine rowK_use (c' := #[.int .u8 ((48 + n % 10 : Nat) : Int)]) rfl fun b h1 r1 e1 n1 => bsK_one r1 ?_
 obtain ⟨p0, hp0, _, _⟩ := dec_split n
 refine loopK_var (fun d xs h2 => ∃ (m : Nat) (out pre : List UInt8), m < 18446744073709551616 ∧ d = m ∧ xs = [.int .u64 (m : Int), S out] ∧ Lib.decDigits m = pre ++ [UInt8.ofNat (48 + m % 10)] ∧ Lib.decDigits n = pre ++ out ∧ Ext h h2) n
  ⟨n, _, p0, hn, rfl, rfl, hp0, hp0, e1⟩ ?_
 rintro d _ ρj h2 again ⟨m, out, pre, hm, rfl, rfl, a1, a2, e⟩ hag
 simp only [go_sem]
 refine iteK_dec (fun h9 => ?_) (fun h9 => ?_)
 ·rw [q10 d hm, vK_some, e10, vK_some]
  simp only [go_sem]
  rw [digit_cell]
  refine rowK_use (c' := #[.int .u8 ((48 + d / 10 % 10 : Nat) : Int)]) rfl fun b3 h3 r3 e3 n3 => bsK_one r3 ?_
  have hl : out.length ≤ (Lib.decDigits n).length := by rw [a2, List.length_append]; omega
  have hl2 : (Lib.decDigits n).length ≤ 21 := by
   have h5 := Lib.nDigits_unique
   rw [Lib.decDigits_length]
   by_cases h6 : n = 0
   ·subst h6; rw [Lib.nDigits_small (by omega)]; omega
   ·have := (Lib.numDigits_eq n (by omega) hn)
    have h7 := this.1
    have h8 := this.2
    split at h7 <;> omega
  rw [binS_add (by simp; omega), vK_some]
  obtain ⟨p, hp, _, _⟩ := dec_split (d / 10)
  refine hag _ _ (d / 10) (by omega) ⟨d / 10, _, p, by omega, rfl, rfl, hp, ?_, e.trans e3⟩
  obtain ⟨q, hq, _, hq2⟩ := dec_split d
  have hqp : q = pre := by
   rw [hq] at a1
   exact List.append_cancel_right a1
  rw [a2, ← hqp, hq2 (by omega), hp]
  simp
 ·refine ⟨?_, e⟩
  obtain ⟨q, hq, hq1, _⟩ := dec_split d
  have hqp : q = pre := by
   rw [hq] at a1
   exact List.append_cancel_right a1
  rw [hq1 (by omega)] at hqp
  rw [a2, ← hqp]; rfl
theorem c_Decimal {h : Heap} {n : Int} (hn : I64 n) : FCall Tryd.prog F_ref10_Decimal #[.int .i64 n] h fun r h' => r = S (Lib.itoa n) ∧ Ext h h' := by
 apply ok_ref10_Decimal
 unfold sh_ref10_Decimal
 obtain ⟨h1, h2⟩ := hn
 simp only [go_sem]
 refine iteK_dec (fun h0 => ?_) (fun h0 => ?_)
 ·rw [w64 (n := n + 1) (by omega) (by omega), w64 (n := 0 - (n + 1)) (by omega) (by omega), wu64 (n := 0 - (n + 1)) (by omega) (by omega), wu64 (by omega) (by omega)]
  rw [show 0 - (n + 1) + 1 = ((n.natAbs : Nat) : Int) by omega]
  refine (c_positive (by omega)).mono fun v3 h3 ⟨hv3, e3⟩ => ?_
  subst hv3
  have hl := Lib.itoa_length_le n h1 h2
  unfold Lib.itoa at hl ⊢
  rw [if_pos h0] at hl ⊢
  rw [binS_add (by simp at hl ⊢; omega), vK_some]
  exact ⟨rfl, e3⟩
 ·rw [wu64 (by omega) (by omega), show n = ((n.toNat : Nat) : Int) by omega]
  refine (c_positive (by omega)).mono fun v3 h3 ⟨hv3, e3⟩ => ⟨?_, e3⟩
  rw [hv3]
  unfold Lib.itoa
  rw [if_neg (by omega), Int.toNat_natCast]
theorem c_decimal {h : Heap} {n : Int} (hn : I64 n) : FCall Tryd.prog F_ref13_decimal #[.int .i64 n] h fun r h' => r = S (Lib.itoa n) ∧ Ext h h' := by
 apply ok_ref13_decimal
 unfold sh_ref13_decimal
 exact c_Decimal hn
theorem bd_nat {k : IntKind} {n d m : Nat} (h : n ≤ m) : bdV (some (.int k (n : Int))) d m = some n := by
 unfold bdV
 simp only
 rw [if_pos (by omega), Int.toNat_natCast]
theorem ext_S (l : List UInt8) (a b : Nat) : (ByteArray.mk ⟨l⟩).extract a b = ⟨⟨(l.take b).drop a⟩⟩ := by
 apply ByteArray.ext
 apply Array.ext'
 simp only [ByteArray.data_extract, Array.toList_extract, List.extract_eq_take_drop]
 rw [List.drop_take]
theorem sls_from {l : List UInt8} {a : Nat} (ha : a ≤ l.length) : slsV (S l) (some (.int .i64 (a : Int))) none = some (S (l.drop a)) := by
 have h1 : (ByteArray.mk ⟨l⟩).size = l.length := rfl
 have h2 : ∀ d m, bdV none d m = some d := fun _ _ => rfl
 simp only [slsV, S, h1, h2, bd_nat ha, ext_S, List.take_length]
theorem numsL_nil {l : List Int} : numsL l = [] ↔ l = [] := by
 unfold numsL
 constructor
 ·intro h
  by_cases hl : l = []
  ·exact hl
  ·exact absurd h (join_ne _ _ (by simpa using hl) fun x hx => by
    obtain ⟨n, _, rfl⟩ := List.mem_map.1 hx
    exact itoa_ne n)
 ·rintro rfl; rfl
theorem comma_not (n : Int) : (44 : UInt8) ∉ Lib.itoa n := fun h => by
 rcases itoa_ch n _ h with h | h
 ·unfold isDig at h; rw [show (44 : UInt8).toNat = 44 from rfl] at h; omega
 ·exact absurd h (by decide)
theorem split_nums {l : List Int} (h : l ≠ []) : splitL 44 (numsL l) = l.map Lib.itoa := splitL_words _ (by simpa using h) fun x hx => by
 obtain ⟨n, _, rfl⟩ := List.mem_map.1 hx
 exact comma_not n
theorem binSl_nil (a : Option Addr) (n c : Nat) : binV .sl .eql (.slice a n c) (.slice none 0 0) = some (.bool a.isNone) := by cases a <;> rfl
theorem c_Clone64 {h : Heap} {Z : Nat → Prop} {v : Value} {l : List Int} (H : Rp.Sl rI Z h v l) (hl : l.length ≤ 1000000000) :
  FCall Tryd.prog F_slices_Clone_sl_int64_int64 #[v] h fun r h' => Rp.Sl rI (fun b => h.size ≤ b) h' r l ∧ Ext h h' := by
 apply ok_slices_Clone_sl_int64_int64
 unfold sh_slices_Clone_sl_int64_int64
 obtain ⟨ds, ⟨hl1, a, cap, rfl, hs⟩, hz, he⟩ := H
 rw [binSl_nil, vK_some]
 cases a with
 | none =>
  have : l = [] := by
   rcases hs with hs | ⟨b, o, h0, _⟩
   ·subst hs
    have h2 : ([] : List Value).length = l.length * 1 := hl1
    exact List.eq_nil_of_length_eq_zero (by simpa using h2.symm)
   ·cases h0
  subst this
  simp only [Option.isNone_none, go_sem]
  exact ⟨Rp.Sl.nil, Ext.refl _⟩
 | some a =>
  simp only [Option.isNone_some, go_sem]
  refine rowK_use (c' := #[]) rfl fun b h1 r1 e1 n1 => ?_
  have O : Rp.Ow rI (fun _ => False) h1 (.slice (some ⟨b, 0, none⟩) 0 0) [] := ⟨[], .inr ⟨b, 0, [], _, rfl, Nat.le_refl _, rfl, rfl, r1⟩, fun b hb hb' => hb', fun i hi => absurd hi (by simp)⟩
  have S1 : SlC 1 h1 (.slice (some a) l.length cap) l.length ds := SlC.ext ⟨hl1, some a, cap, rfl, hs⟩ e1
  refine Rp.app_ow (e := rI) (l := []) (l2 := l) O S1 (fun i hi => he i hi) rfl (by simp; omega) (by simp; omega) (fun b hb => hb.elim) fun v2 h2 O2 f2 n2 => ?_
  rw [List.nil_append] at O2
  have nb : ∀ k, blk (.slice (some ⟨b, 0, none⟩) 0 0) k → h.size ≤ k := fun k hk => by have : k = b := hk; omega
  refine ⟨O2.sl.mono fun k hk hz => ?_, e1.then_fr f2 nb⟩
  rcases hz with hz | hz
  ·exact hz.elim
  ·rcases n2 k hz with h3 | h3
   ·exact nb k h3
   ·exact Nat.le_trans e1.1 h3
def cleanD (o : OpD) : OpD where
 kind := o.kind
 border := o.border
 sigma := if o.kind = 0 then o.sigma else 0
 radius := if o.kind = 1 then o.radius else 0
 x := if o.kind = 2 then o.x else []
 y := if o.kind = 2 then o.y else []
 filter := if o.kind = 3 then o.filter else 0
 w := if o.kind = 3 then o.w else 0
 hh := if o.kind = 3 then o.hh else 0
theorem ones9 {a b c d e f g i j : Value} (h1 : oneCell a = true) (h2 : oneCell b = true) (h3 : oneCell c = true) (h4 : oneCell d = true) (h5 : oneCell e = true) (h6 : oneCell f = true) (h7 : oneCell g = true) (h8 : oneCell i = true) (h9 : oneCell j = true) : ∀ v ∈ [a, b, c, d, e, f, g, i, j], oneCell v = true :=
 ones_cons h1 (ones_cons h2 (ones_cons h3 (ones_cons h4 (ones_cons h5 (ones_cons h6 (ones_cons h7 (ones_cons h8 (ones_cons h9 ones_nil))))))))
theorem c_Clean {h : Heap} {Z : Nat → Prop} {cs : List Value} {o : OpD} (H : rOp.R Z h cs o) (hx : o.x.length ≤ 1000000) (hy : o.y.length ≤ 1000000) :
  FCall Tryd.prog F_recipe_Clean #[.agg cs.toArray] h fun r h' => ∃ ds, r = .agg (List.toArray ds) ∧ rOp.R (fun b => h.size ≤ b) h' ds (cleanD o) ∧ Ext h h' := by
 apply ok_recipe_Clean
 unfold sh_recipe_Clean
 obtain ⟨s, t, rfl, Hx, Hy⟩ := H
 simp only [cells_agg]
 refine newK_use fun b1 h1 r1 e1 n1 => ?_
 have l1 := row_lt r1
 refine newK_use fun b3 h3 r3 e3 n3 => ?_
 have l3 := row_lt r3
 have r1 := e3.row r1
 have e13 := e1.trans e3
 simp only [go_sem, cell_row r1]
 have hf : ∀ a b : Value, oneCell a = true → oneCell b = true → fillL #[(.int .i64 0), (.int .i64 0), (.int .i64 0), (.int .i64 0), (.slice none 0 0), (.slice none 0 0), (.int .i64 0), (.int .i64 0), (.int .i64 0)] [(0, 1, a), (1, 1, b)] = some #[a, b, (.int .i64 0), (.int .i64 0), (.slice none 0 0), (.slice none 0 0), (.int .i64 0), (.int .i64 0), (.int .i64 0)] := fun a b ha hb => by
  simp [fillL, cells_one ha, cells_one hb]
 rw [hf _ _ rfl rfl, Option.map_some, vK_some]
 refine var_new (cs := [.int .i64 o.kind, .int .i64 o.border, (.int .i64 0), (.int .i64 0), (.slice none 0 0), (.slice none 0 0), (.int .i64 0), (.int .i64 0), (.int .i64 0)]) rfl (ones9 rfl rfl rfl rfl rfl rfl rfl rfl rfl) rfl fun b10 h4 r10 e4 n10 => ?_
 have l10 := row_lt r10
 have r1 := e4.row r1
 have r3 := e4.row r3
 have e14 := e13.trans e4
 have s13 := e13.1
 have s1 := e1.1
 have s3 := e3.1
 have d1 : b1 ≠ b10 := by omega
 have d3 : b3 ≠ b10 := by omega
 have fin : ∀ (h5 : Heap) (t1 t3 : TypeId) (old : Array Value) (ds : List Value), ds.length = 9 → h5[b10]? = some (.cells ds.toArray t1 (0, 0)) → h5[b3]? = some (.cells old t3 (0, 0)) → old.size = 9 → Ext h h5 →
   rOp.R (fun b => h4.size ≤ b) h5 ds (cleanD o) →
   vK (ldsV 9 h5 (.pointer (some ⟨b10, 0, none⟩))) fun v22 => stK 9 (.pointer (some ⟨b3, 0, none⟩)) v22 h5 fun v23 h24 => vK (ldsV 9 h24 (.pointer (some ⟨b3, 0, none⟩))) fun v25 =>
    ∃ ds, v25 = .agg (List.toArray ds) ∧ rOp.R (fun b => h.size ≤ b) h24 ds (cleanD o) ∧ Ext h h24 := fun h5 t1 t3 old ds hd w10 w3 ho e5 R5 => by
  rw [lds_row w10 9 hd, vK_some]
  refine st_var w3 (hd.trans ho.symm) (rOp.one R5) hd fun h6 w6 u6 => ?_
  rw [lds_row w6 9 hd, vK_some]
  exact ⟨ds, rfl, rOp.mono (rOp.fr (M := fun k => k = b3) R5 u6.fr fun b _ hb => by omega) fun b _ hb => by omega, e5.upd (by omega) u6⟩
 have nilR : ∀ {Z : Nat → Prop} {h : Heap}, Rp.Sl rI Z h (.slice none 0 0) [] := Rp.Sl.nil
 simp only [go_sem, cell_row r1]
 by_cases k0 : o.kind = 0
 ·simp only [go_sem, cell_row r1, eq_true k0]
  refine st_cell r10 (by simp) rfl fun h5 r5 u5 => ?_
  refine fin h5 _ _ _ [.int .i64 o.kind, .int .i64 o.border, .int .i64 o.sigma, (.int .i64 0), (.slice none 0 0), (.slice none 0 0), (.int .i64 0), (.int .i64 0), (.int .i64 0)] rfl r5 (u5.row d3 r3) rfl (e14.upd (by omega) u5) ?_
  exact ⟨.slice none 0 0, .slice none 0 0, by simp [cleanD, k0], by simp [cleanD, k0]; exact nilR, by simp [cleanD, k0]; exact nilR⟩
 by_cases k1 : o.kind = 1
 ·simp only [go_sem, cell_row r1, eq_false k0, eq_true k1]
  refine st_cell r10 (by simp) rfl fun h5 r5 u5 => ?_
  refine fin h5 _ _ _ [.int .i64 o.kind, .int .i64 o.border, (.int .i64 0), .int .i64 o.radius, (.slice none 0 0), (.slice none 0 0), (.int .i64 0), (.int .i64 0), (.int .i64 0)] rfl r5 (u5.row d3 r3) rfl (e14.upd (by omega) u5) ?_
  exact ⟨.slice none 0 0, .slice none 0 0, by simp [cleanD, k1], by simp [cleanD, k1]; exact nilR, by simp [cleanD, k1]; exact nilR⟩
 by_cases k2 : o.kind = 2
 ·simp only [go_sem, cell_row r1, eq_false k0, eq_false k1, eq_true k2]
  refine drawK_ext ?_
  try simp only [go_sem]
  refine qK_val s (fun h' e => by simp only [go_sem, cell_row (e.row r1)]) ?_
  try simp only [go_sem]
  refine qK_val t (fun h' e => by simp only [go_sem, cell_row (e.row r1)]) ?_
  refine (c_Clone64 (Hx.ext e14) (by omega)).mono fun v5 h5 ⟨x5, e5⟩ => ⟨e5, ?_⟩
  try simp only [go_sem]
  refine (c_Clone64 (Hy.ext (e14.trans e5)) (by omega)).mono fun v6 h6 ⟨y6, e6⟩ => ⟨e5.trans e6, ?_⟩
  try simp only [go_sem]
  have x6 := x5.ext e6
  have e46 := e5.trans e6
  have s46 := e46.1
  have s45 := e5.1
  refine st_cell (e46.row r10) (by simp) x5.one fun h7 r7 u7 => ?_
  refine st_cell r7 (by simp) y6.one fun h8 r8 u8 => ?_
  have u78 := u7.trans u8
  refine fin h8 _ _ _ [.int .i64 o.kind, .int .i64 o.border, (.int .i64 0), (.int .i64 0), v5, v6, (.int .i64 0), (.int .i64 0), (.int .i64 0)] rfl r8 (u78.row d3 (e46.row r3)) rfl ((e14.trans e46).upd (by omega) u78) ?_
  refine ⟨v5, v6, by simp [cleanD, k2], ?_, ?_⟩
  ·rw [show (cleanD o).x = o.x by simp [cleanD, k2]]
   exact x6.fr (M := fun k => k = b10) u78.fr fun b _ hb => by omega
  ·rw [show (cleanD o).y = o.y by simp [cleanD, k2]]
   exact (y6.mono fun b _ hb => by omega).fr (M := fun k => k = b10) u78.fr fun b _ hb => by omega
 by_cases k3 : o.kind = 3
 ·simp only [go_sem, cell_row r1, eq_false k0, eq_false k1, eq_false k2, eq_true k3]
  refine drawK_of (fun h' => h'[b1]? = h4[b1]?) rfl ?_
  try simp only [go_sem]
  refine qK_val (.int .i64 o.w) (fun h' e => by simp only [go_sem, cell_row (e.trans r1)]) ?_
  try simp only [go_sem]
  refine qK_val (.int .i64 o.hh) (fun h' e => by simp only [go_sem, cell_row (e.trans r1)]) ?_
  try simp only [go_sem]
  refine qK_val (.int .i64 o.filter) (fun h' e => by simp only [go_sem, cell_row (e.trans r1)]) ?_
  try simp only [go_sem]
  refine st_cell r10 (by simp) rfl fun h5 r5 u5 => ⟨u5.2 b1 d1, ?_⟩
  try simp only [go_sem]
  refine st_cell r5 (by simp) rfl fun h6 r6 u6 => ⟨(u5.trans u6).2 b1 d1, ?_⟩
  try simp only [go_sem]
  refine st_cell r6 (by simp) rfl fun h7 r7 u7 => ?_
  have u := (u5.trans u6).trans u7
  refine fin h7 _ _ _ [.int .i64 o.kind, .int .i64 o.border, (.int .i64 0), (.int .i64 0), (.slice none 0 0), (.slice none 0 0), .int .i64 o.filter, .int .i64 o.w, .int .i64 o.hh] rfl r7 (u.row d3 r3) rfl (e14.upd (by omega) u) ?_
  exact ⟨.slice none 0 0, .slice none 0 0, by simp [cleanD, k3], by simp [cleanD, k3]; exact nilR, by simp [cleanD, k3]; exact nilR⟩
 ·simp only [go_sem, cell_row r1, eq_false k0, eq_false k1, eq_false k2, eq_false k3]
  refine fin h4 _ _ _ _ rfl r10 r3 rfl e14 ?_
  exact ⟨.slice none 0 0, .slice none 0 0, by simp [cleanD, k0, k1, k3], by simp [cleanD, k2]; exact nilR, by simp [cleanD, k2]; exact nilR⟩
end Go.Proofs.YtolcfipmjhjeaaaDoor
namespace Go.Proofs.YtolcfipmjhjeaaaDoor
open Go Go.Crisp
theorem join_mem {c : UInt8} {sep : List UInt8} : ∀ {ws : List (List UInt8)}, c ∈ Lib.join ws sep → c ∈ sep ∨ ∃ w ∈ ws, c ∈ w
 | [], h => by simp [Lib.join] at h
 | [x], h => by rw [join_one] at h; exact .inr ⟨x, by simp, h⟩
 | x :: y :: l, h => by
  rw [join_cons2] at h
  rcases List.mem_append.1 h with h | h
  ·exact .inr ⟨x, by simp, h⟩
  rcases List.mem_append.1 h with h | h
  ·exact .inl h
  rcases join_mem h with h | ⟨w, h1, h2⟩
  ·exact .inl h
  ·exact .inr ⟨w, by simp only [List.mem_cons] at h1 ⊢; exact .inr h1, h2⟩
theorem itoa_not {c : UInt8} (h1 : ¬ isDig c) (h2 : c ≠ 45) (n : Int) : c ∉ Lib.itoa n := fun h => (itoa_ch n c h).elim h1 h2
theorem nums_not {c : UInt8} (h1 : ¬ isDig c) (h2 : c ≠ 45) (h3 : c ≠ 44) (l : List Int) : c ∉ numsL l := fun h => by
 rcases join_mem h with h | ⟨w, h4, h5⟩
 ·exact h3 (by simpa using h)
 ·obtain ⟨n, _, rfl⟩ := List.mem_map.1 h4
  exact itoa_not h1 h2 n h5
def isLet (c : UInt8) : Prop := 97 ≤ c.toNat ∧ c.toNat ≤ 122
instance (c : UInt8) : Decidable (isLet c) := by unfold isLet; exact inferInstance
instance (c : UInt8) : Decidable (isDig c) := by unfold isDig; exact inferInstance
theorem fName_let (f : Int) : ∀ c ∈ fName f, isLet c := by
 unfold fName
 split
 ·decide
 split
 ·decide
 split
 ·decide
 ·simp
theorem bName_let (f : Int) : ∀ c ∈ bName f, isLet c := by
 unfold bName
 split
 ·decide
 split
 ·decide
 split
 ·decide
 ·simp
theorem kSign_hi (k : Int) : ∀ c ∈ kSign k, 128 ≤ c.toNat := by
 unfold kSign
 split
 ·decide
 split
 ·decide
 split
 ·decide
 split
 ·decide
 ·simp
theorem body_not {c : UInt8} (h1 : ¬ isDig c) (h2 : c ≠ 45) (h3 : c ≠ 44) (h4 : c ≠ 195) (h5 : c ≠ 151) (h6 : ¬ isLet c) (o : OpD) : c ∉ bodyL o := by
 have n1 := itoa_not h1 h2
 have n2 := nums_not h1 h2 h3
 have n3 : ∀ f, c ∉ fName f := fun f h => h6 (fName_let f c h)
 unfold bodyL
 split
 ·exact n1 _
 split
 ·exact n1 _
 split
 ·simp [n2, h4, h5]
 split
 ·simp [n1, n3, h3, h4, h5]
 ·simp
theorem word_of {o : OpD} (h : o.ok) : wordL o = (kSign o.kind ++ bodyL o) ++ [124] ++ bName o.border := by unfold wordL; rw [if_pos h]
theorem pre_not {c : UInt8} (h1 : ¬ isDig c) (h2 : c ≠ 45) (h3 : c ≠ 44) (h4 : c.toNat < 128) (h6 : ¬ isLet c) (o : OpD) : c ∉ kSign o.kind ++ bodyL o := fun h => by
 rcases List.mem_append.1 h with h | h
 ·have := kSign_hi _ c h; omega
 ·refine body_not h1 h2 h3 ?_ ?_ h6 o h <;> rintro rfl <;> revert h4 <;> decide
theorem word_cut {o : OpD} (h : o.ok) : Lib.cut (wordL o) [124] = (kSign o.kind ++ bodyL o, bName o.border, true) := by
 rw [word_of h]
 exact cut_hit (t := []) (pre_not (by decide) (by decide) (by decide) (by decide) (by decide) o)
theorem word_semi (o : OpD) : (59 : UInt8) ∉ wordL o := fun h => by
 unfold wordL at h
 split at h
 ·rcases List.mem_append.1 h with h | h
  ·rcases List.mem_append.1 h with h | h
   ·exact pre_not (by decide) (by decide) (by decide) (by decide) (by decide) o h
   ·revert h; decide
  ·have := bName_let _ _ h
   revert this; decide
 ·simp at h
theorem sign_inj {a b : Int} {x y : List UInt8} (ha : 0 ≤ a ∧ a ≤ 3) (hb : 0 ≤ b ∧ b ≤ 3) (h : kSign a ++ x = kSign b ++ y) : a = b ∧ x = y := by
 have h1 : a = 0 ∨ a = 1 ∨ a = 2 ∨ a = 3 := by omega
 have h2 : b = 0 ∨ b = 1 ∨ b = 2 ∨ b = 3 := by omega
 rcases h1 with rfl | rfl | rfl | rfl <;> rcases h2 with rfl | rfl | rfl | rfl <;> simp [kSign] at h ⊢ <;> exact h
theorem bName_inj {a b : Int} (ha : 0 ≤ a ∧ a ≤ 2) (hb : 0 ≤ b ∧ b ≤ 2) (h : bName a = bName b) : a = b := by
 have h1 : a = 0 ∨ a = 1 ∨ a = 2 := by omega
 have h2 : b = 0 ∨ b = 1 ∨ b = 2 := by omega
 rcases h1 with rfl | rfl | rfl <;> rcases h2 with rfl | rfl | rfl <;> first | rfl | (exfalso; revert h; decide)
theorem fName_inj {a b : Int} (ha : 0 ≤ a ∧ a ≤ 2) (hb : 0 ≤ b ∧ b ≤ 2) (h : fName a = fName b) : a = b := by
 have h1 : a = 0 ∨ a = 1 ∨ a = 2 := by omega
 have h2 : b = 0 ∨ b = 1 ∨ b = 2 := by omega
 rcases h1 with rfl | rfl | rfl <;> rcases h2 with rfl | rfl | rfl <;> first | rfl | (exfalso; revert h; decide)
structure Good (s : List UInt8) (o : OpD) : Prop where
 ok : o.ok
 wf : o.Wf
 clean : cleanD o = o
 word : wordL o = s
theorem Good.cut {s : List UInt8} {o : OpD} (g : Good s o) : Lib.cut s [124] = (kSign o.kind ++ bodyL o, bName o.border, true) := by rw [← g.word]; exact word_cut g.ok
def op0 (b n : Int) : OpD := ⟨0, b, n, 0, [], [], 0, 0, 0⟩
def op1 (b n : Int) : OpD := ⟨1, b, 0, n, [], [], 0, 0, 0⟩
def op2 (b : Int) (x y : List Int) : OpD := ⟨2, b, 0, 0, x, y, 0, 0, 0⟩
def op3 (b f w h : Int) : OpD := ⟨3, b, 0, 0, [], [], f, w, h⟩
theorem i0 : I64 0 := by constructor <;> omega
theorem ik {k : Int} (h : 0 ≤ k ∧ k ≤ 3) : I64 k := ⟨by omega, by omega⟩
theorem k00 : 0 ≤ (0 : Int) ∧ (0 : Int) ≤ 3 := by decide
theorem k01 : 0 ≤ (1 : Int) ∧ (1 : Int) ≤ 3 := by decide
theorem k02 : 0 ≤ (2 : Int) ∧ (2 : Int) ≤ 3 := by decide
theorem k03 : 0 ≤ (3 : Int) ∧ (3 : Int) ≤ 3 := by decide
theorem Good.form {s : List UInt8} {o : OpD} (g : Good s o) : (o.kind = 0 ∧ o = op0 o.border o.sigma ∧ bodyL o = Lib.itoa o.sigma) ∨ (o.kind = 1 ∧ o = op1 o.border o.radius ∧ bodyL o = Lib.itoa o.radius)
  ∨ (o.kind = 2 ∧ o = op2 o.border o.x o.y ∧ bodyL o = numsL o.x ++ [195, 151] ++ numsL o.y) ∨ (o.kind = 3 ∧ o = op3 o.border o.filter o.w o.hh ∧ bodyL o = Lib.itoa o.w ++ [195, 151] ++ Lib.itoa o.hh ++ [44] ++ fName o.filter) := by
 have hc := g.clean
 obtain ⟨k, b, sg, rd, x, y, f, w, hh⟩ := o
 have hk := g.ok.1
 simp only at hk
 have h1 : k = 0 ∨ k = 1 ∨ k = 2 ∨ k = 3 := by omega
 rcases h1 with rfl | rfl | rfl | rfl <;> simp only [cleanD, OpD.mk.injEq] at hc <;> simp [op0, op1, op2, op3, bodyL] <;> simp_all <;> omega
theorem itoa_times (n : Int) : (195 : UInt8) ∉ Lib.itoa n := itoa_not (by decide) (by decide) n
theorem nums_times (l : List Int) : (195 : UInt8) ∉ numsL l := nums_not (by decide) (by decide) (by decide) l
end Go.Proofs.YtolcfipmjhjeaaaDoor
namespace Go.Proofs.YtolcfipmjhjeaaaDoor
open Go Go.Crisp
attribute [local irreducible] FCall rowK newK stK iteK vK qK drawK gK joinK loopK mkK appK cpyK nextStrK rangeStrK bsK
theorem c_refBorder {h : Heap} {k : Int} : FCall Tryd.prog F_ref13_border #[.int .i64 k] h fun r h' => r = S (bName k) ∧ h' = h := by
 apply ok_ref13_border
 unfold sh_ref13_border
 simp only [go_sem]
 unfold bName
 refine iteK_dec (fun h1 => ?_) (fun h1 => ?_)
 ·rw [if_pos h1]; exact ⟨rfl, trivial⟩
 rw [if_neg h1]
 refine iteK_dec (fun h1 => ?_) (fun h1 => ?_)
 ·rw [if_pos h1]; exact ⟨rfl, trivial⟩
 rw [if_neg h1]
 refine iteK_dec (fun h1 => ?_) (fun h1 => ?_)
 ·rw [if_pos h1]; exact ⟨rfl, trivial⟩
 rw [if_neg h1]
 exact ⟨rfl, trivial⟩
theorem c_refFilter {h : Heap} {k : Int} : FCall Tryd.prog F_ref13_filter #[.int .i64 k] h fun r h' => r = S (fName k) ∧ h' = h := by
 apply ok_ref13_filter
 unfold sh_ref13_filter
 simp only [go_sem]
 unfold fName
 refine iteK_dec (fun h1 => ?_) (fun h1 => ?_)
 ·rw [if_pos h1]; exact ⟨rfl, trivial⟩
 rw [if_neg h1]
 refine iteK_dec (fun h1 => ?_) (fun h1 => ?_)
 ·rw [if_pos h1]; exact ⟨rfl, trivial⟩
 rw [if_neg h1]
 refine iteK_dec (fun h1 => ?_) (fun h1 => ?_)
 ·rw [if_pos h1]; exact ⟨rfl, trivial⟩
 rw [if_neg h1]
 exact ⟨rfl, trivial⟩
theorem c_times {h : Heap} : FCall Tryd.prog F_ref13_times #[] h fun r h' => r = S [195, 151] ∧ h' = h := by
 apply ok_ref13_times
 unfold sh_ref13_times
 exact ⟨rfl, rfl⟩
def opC (k b sg rd : Int) (x y : Value) (f w hh : Int) : List Value := [.int .i64 k, .int .i64 b, .int .i64 sg, .int .i64 rd, x, y, .int .i64 f, .int .i64 w, .int .i64 hh]
theorem opC_one {k b sg rd : Int} {x y : Value} {f w hh : Int} (hx : oneCell x = true) (hy : oneCell y = true) : ∀ v ∈ opC k b sg rd x y f w hh, oneCell v = true :=
 ones9 rfl rfl rfl rfl hx hy rfl rfl rfl
def zC : List Value := opC 0 0 0 0 (.slice none 0 0) (.slice none 0 0) 0 0 0
def zO : OpD := ⟨0, 0, 0, 0, [], [], 0, 0, 0⟩
set_option maxHeartbeats 4000000 in
theorem itoa_inj {m n : Int} (hm : I64 m) (hn : I64 n) (h : Lib.itoa m = Lib.itoa n) : m = n := by
 have h1 := pi_itoa hm
 rw [h, pi_itoa hn] at h1
 exact (Lib.NumEnd.ok.inj h1).symm
theorem itoas_inj : ∀ {l m : List Int}, (∀ n ∈ l, I64 n) → (∀ n ∈ m, I64 n) → l.map Lib.itoa = m.map Lib.itoa → l = m
 | [], [], _, _, _ => rfl
 | [], _ :: _, _, _, h => by simp at h
 | _ :: _, [], _, _, h => by simp at h
 | a :: l, b :: m, hl, hm, h => by
  simp only [List.map_cons, List.cons.injEq] at h
  rw [itoa_inj (hl a (by simp)) (hm b (by simp)) h.1, itoas_inj (fun n hn => hl n (by simp [hn])) (fun n hn => hm n (by simp [hn])) h.2]
theorem nums_inj {l m : List Int} (hl : ∀ n ∈ l, I64 n) (hm : ∀ n ∈ m, I64 n) (h : numsL l = numsL m) : l = m := by
 by_cases h0 : l = []
 ·subst h0
  have : numsL m = [] := h.symm
  exact (numsL_nil.1 this).symm
 ·have h1 : m ≠ [] := fun h2 => h0 (by subst h2; exact numsL_nil.1 h)
  refine itoas_inj hl hm ?_
  rw [← split_nums h0, ← split_nums h1, h]
theorem good_inj {s : List UInt8} {o o' : OpD} (g : Good s o) (g' : Good s o') : o = o' := by
 have h1 := g.cut
 rw [g'.cut] at h1
 obtain ⟨h2, h3⟩ := Prod.mk.inj h1
 obtain ⟨h4, _⟩ := Prod.mk.inj h3
 obtain ⟨hk, hb⟩ := sign_inj g'.ok.1 g.ok.1 h2
 have hbb := bName_inj g'.ok.2.1 g.ok.2.1 h4
 rcases g.form with ⟨k1, f1, b1⟩ | ⟨k1, f1, b1⟩ | ⟨k1, f1, b1⟩ | ⟨k1, f1, b1⟩
 ·rcases g'.form with ⟨k2, f2, b2⟩ | ⟨k2, f2, b2⟩ | ⟨k2, f2, b2⟩ | ⟨k2, f2, b2⟩ <;> try omega
  rw [f1, f2, hbb, itoa_inj g'.wf.sigma g.wf.sigma (by rw [← b1, ← b2, hb])]
 ·rcases g'.form with ⟨k2, f2, b2⟩ | ⟨k2, f2, b2⟩ | ⟨k2, f2, b2⟩ | ⟨k2, f2, b2⟩ <;> try omega
  rw [f1, f2, hbb, itoa_inj g'.wf.radius g.wf.radius (by rw [← b1, ← b2, hb])]
 ·rcases g'.form with ⟨k2, f2, b2⟩ | ⟨k2, f2, b2⟩ | ⟨k2, f2, b2⟩ | ⟨k2, f2, b2⟩ <;> try omega
  have c1 := cut_hit (a := numsL o.x) (b := numsL o.y) (c := 195) (t := [151]) (nums_times _)
  have c2 := cut_hit (a := numsL o'.x) (b := numsL o'.y) (c := 195) (t := [151]) (nums_times _)
  rw [← b1, ← hb, b2, c2] at c1
  obtain ⟨h5, h6⟩ := Prod.mk.inj c1
  obtain ⟨h7, _⟩ := Prod.mk.inj h6
  rw [f1, f2, hbb, nums_inj g'.wf.x g.wf.x h5, nums_inj g'.wf.y g.wf.y h7]
 ·rcases g'.form with ⟨k2, f2, b2⟩ | ⟨k2, f2, b2⟩ | ⟨k2, f2, b2⟩ | ⟨k2, f2, b2⟩ <;> try omega
  have c1 := cut_hit (a := Lib.itoa o.w) (b := Lib.itoa o.hh ++ [44] ++ fName o.filter) (c := 195) (t := [151]) (itoa_times _)
  have c2 := cut_hit (a := Lib.itoa o'.w) (b := Lib.itoa o'.hh ++ [44] ++ fName o'.filter) (c := 195) (t := [151]) (itoa_times _)
  rw [show Lib.itoa o.w ++ [195, 151] ++ (Lib.itoa o.hh ++ [44] ++ fName o.filter) = bodyL o by rw [b1]; simp, ← hb, show bodyL o' = Lib.itoa o'.w ++ [195, 151] ++ (Lib.itoa o'.hh ++ [44] ++ fName o'.filter) by rw [b2]; simp, c2] at c1
  obtain ⟨h5, h6⟩ := Prod.mk.inj c1
  obtain ⟨h7, _⟩ := Prod.mk.inj h6
  have c3 := cut_hit (a := Lib.itoa o.hh) (b := fName o.filter) (c := 44) (t := []) (comma_not _)
  have c4 := cut_hit (a := Lib.itoa o'.hh) (b := fName o'.filter) (c := 44) (t := []) (comma_not _)
  rw [← h7, c4] at c3
  obtain ⟨h8, h9⟩ := Prod.mk.inj c3
  obtain ⟨h10, _⟩ := Prod.mk.inj h9
  rw [f1, f2, hbb, itoa_inj g'.wf.w g.wf.w h5, itoa_inj g'.wf.hh g.wf.hh h8, fName_inj (g'.ok.2.2 k2) (g.ok.2.2 k1) h10]
inductive PR : List (List UInt8) → List OpD → Bool → Prop
 | nil : PR [] [] false
 | bad {w : List UInt8} {ws : List (List UInt8)} : (∀ o, ¬ Good w o) → PR (w :: ws) [] true
 | cons {w : List UInt8} {ws : List (List UInt8)} {o : OpD} {l : List OpD} {b : Bool} : Good w o → PR ws l b → PR (w :: ws) (o :: l) b
inductive Goods : List (List UInt8) → List OpD → Prop
 | nil : Goods [] []
 | cons {w : List UInt8} {ws : List (List UInt8)} {o : OpD} {l : List OpD} : Good w o → Goods ws l → Goods (w :: ws) (o :: l)
theorem PR.uniq : ∀ {ws : List (List UInt8)} {l l' : List OpD} {b b' : Bool}, PR ws l b → PR ws l' b' → l = l' ∧ b = b'
 | _, _, _, _, _, .nil, .nil => ⟨rfl, rfl⟩
 | _, _, _, _, _, .bad _, .bad _ => ⟨rfl, rfl⟩
 | _, _, _, _, _, .bad h, .cons g _ => (h _ g).elim
 | _, _, _, _, _, .cons g _, .bad h => (h _ g).elim
 | _, _, _, _, _, .cons g p, .cons g' p' => by
  obtain ⟨h1, h2⟩ := p.uniq p'
  rw [h1, good_inj g g']
  exact ⟨rfl, h2⟩
theorem Goods.then : ∀ {ws vs : List (List UInt8)} {l m : List OpD} {b : Bool}, Goods ws l → PR vs m b → PR (ws ++ vs) (l ++ m) b
 | _, _, _, _, _, .nil, p => p
 | _, _, _, _, _, .cons g q, p => .cons g (q.then p)
theorem Goods.snoc : ∀ {ws : List (List UInt8)} {l : List OpD} {w : List UInt8} {o : OpD}, Goods ws l → Good w o → Goods (ws ++ [w]) (l ++ [o])
 | _, _, _, _, .nil, g => .cons g .nil
 | _, _, _, _, .cons g q, g' => .cons g (q.snoc g')
theorem Goods.len : ∀ {ws : List (List UInt8)} {l : List OpD}, Goods ws l → l.length = ws.length
 | _, _, .nil => rfl
 | _, _, .cons _ q => by simp [q.len]
theorem Goods.pr {ws : List (List UInt8)} {l : List OpD} (g : Goods ws l) : PR ws l false := by
 have := g.then .nil
 simpa using this
def wordsL (s : List UInt8) : List (List UInt8) := if s = [] then [] else splitL 59 s
set_option maxHeartbeats 1000000 in
structure GlobR (h : Heap) : Prop extends GlobH h where
 syn : ∃ ev, cellOf h ⟨ren_lay_ParseInt.g 15, 0, none⟩ = some ev ∧ (ev = .nilIface ∨ ∃ te pe, ev = .iface te pe)
 rng : ∃ ev, cellOf h ⟨ren_lay_ParseInt.g 16, 0, none⟩ = some ev ∧ (ev = .nilIface ∨ ∃ te pe, ev = .iface te pe)
 most : ∃ m, cellOf h ⟨ren_lay_Cut.g 1, 0, none⟩ = some (.int .i64 m)
 utf1 : ∀ c, c < 256 → cellOf h ⟨ren_lay_Decode.g 3, c, none⟩ = some (.int .u8 (Lib.firstT c))
 utf2 : ∀ i, i < 16 → cellOf h ⟨ren_lay_Decode.g 4, 2 * i, none⟩ = some (.int .u8 (Lib.accLo i)) ∧ cellOf h ⟨ren_lay_Decode.g 4, 2 * i + 1, none⟩ = some (.int .u8 (Lib.accHi i))
theorem GlobR.ext {h h' : Heap} (H : GlobR h) (e : Ext h h') : GlobR h' where
 toGlobH := H.toGlobH.ext e
 syn := by obtain ⟨v, h1, h2⟩ := H.syn; exact ⟨v, e.cell h1, h2⟩
 rng := by obtain ⟨v, h1, h2⟩ := H.rng; exact ⟨v, e.cell h1, h2⟩
 most := by obtain ⟨v, h1⟩ := H.most; exact ⟨v, e.cell h1⟩
 utf1 := fun c hc => e.cell (H.utf1 c hc)
 utf2 := fun i hi => ⟨e.cell (H.utf2 i hi).1, e.cell (H.utf2 i hi).2⟩
theorem pi_i64 {s : List UInt8} {v : Int} (h : Lib.parseIntB 64 s = .ok v) : I64 v := by
 unfold Lib.parseIntB at h
 split at h
 ·cases h
 ·simp only at h
  split at h
  ·cases h
  ·cases h
  ·split at h
   ·cases h
   ·split at h
    ·cases h
    ·rename_i h1 h2
     have h := Lib.NumEnd.ok.inj h
     subst h
     constructor <;> split <;> omega
theorem sat_i64 (s : List UInt8) : I64 (Lib.intSat 64 s) := by
 unfold Lib.intSat
 split <;> constructor <;> decide
section
attribute [local semireducible] FCall
theorem c_ParseInt {h : Heap} (G : GlobR h) {s : List UInt8} (hs : s.length ≤ 1000000) :
  FCall Tryd.prog F_strconv_ParseInt #[S s, .int .i64 10, .int .i64 64] h fun r h' => (∃ v u, r = .tuple #[.int .i64 v, u] ∧ I64 v ∧ ∀ x, I64 x → Lib.itoa x = s → v = x) ∧ Ext h h' := by
 refine FCall.ofCalls (by kernel_rfl) fun w hw => ?_
 subst hw
 have hz : (ByteArray.mk ⟨s⟩).size = s.length := rfl
 cases hp : Lib.parseIntB 64 s with
 | ok v =>
  refine (Any.strconv_ParseInt_10_at64_ok lay_ParseInt ⟨⟨s⟩⟩ (by rw [hz]; omega) v hp w).mono ?_
  rintro e w' ⟨rfl, hw⟩
  have hE : Same w w' ∧ Ext w.heap w'.heap := by
   rcases hw with rfl | ⟨t, rfl⟩
   ·exact ⟨Same.refl _, Ext.refl _⟩
   ·exact below_same (Go.Joins.below_bytesWorld _ _ _ _ (Nat.le_refl _))
  refine ⟨_, rfl, hE.1, ⟨v, _, rfl, pi_i64 hp, fun x hx e => ?_⟩, hE.2⟩
  subst e
  rw [pi_itoa hx] at hp
  exact (Lib.NumEnd.ok.inj hp).symm
 | range =>
  obtain ⟨ev, h1, h2⟩ := G.rng
  refine (Any.strconv_ParseInt_10_at64_range lay_ParseInt ⟨⟨s⟩⟩ (by rw [hz]; omega) hp ev w h1 h2).mono ?_
  rintro e w' ⟨n, rfl, _, _, hw⟩
  obtain ⟨q1, q2⟩ := below_same hw
  refine ⟨_, rfl, q1, ⟨_, _, rfl, sat_i64 s, fun x hx e => ?_⟩, q2⟩
  subst e
  rw [pi_itoa hx] at hp
  cases hp
 | _ =>
  obtain ⟨ev, h1, h2⟩ := G.syn
  refine (Any.strconv_ParseInt_10_at64_syntax lay_ParseInt ⟨⟨s⟩⟩ (by rw [hz]; omega) hp ev w h1 h2).mono ?_
  rintro e w' ⟨n, rfl, _, _, hw⟩
  obtain ⟨q1, q2⟩ := below_same hw
  refine ⟨_, rfl, q1, ⟨0, _, rfl, i0, fun x hx e => ?_⟩, q2⟩
  subst e
  rw [pi_itoa hx] at hp
  cases hp
theorem c_Cut {h : Heap} (G : GlobR h) {s t : List UInt8} (hs : s.length ≤ 1000000) :
  FCall Tryd.prog F_strings_Cut #[S s, S t] h fun r h' => r = .tuple #[S (Lib.cut s t).1, S (Lib.cut s t).2.1, .bool (Lib.cut s t).2.2] ∧ Ext h h' := by
 refine FCall.ofCalls (by kernel_rfl) fun w hw => ?_
 subst hw
 obtain ⟨m, hm⟩ := G.most
 have hz : (ByteArray.mk ⟨s⟩).size = s.length := rfl
 refine (Any.strings_Cut lay_Cut ⟨⟨s⟩⟩ ⟨⟨t⟩⟩ m w (by rw [hz]; omega) hm).mono ?_
 rintro e w' ⟨rfl, n, rfl⟩
 exact ⟨_, rfl, ⟨rfl, rfl, rfl⟩, rfl, Ext.refl _⟩
theorem c_Decode {h : Heap} (G : GlobR h) {s : List UInt8} :
  FCall Tryd.prog F_unicode_utf8_DecodeRuneInString #[S s] h fun r h' => r = .tuple #[.int .i32 ((Lib.decodeGo ⟨⟨s⟩⟩).1 : Nat), .int .i64 ((Lib.decodeGo ⟨⟨s⟩⟩).2 : Nat)] ∧ Ext h h' := by
 refine FCall.ofCalls (by kernel_rfl) fun w hw => ?_
 subst hw
 refine (Any.utf8_DecodeRuneInString lay_Decode ⟨⟨s⟩⟩ w ⟨G.utf1, G.utf2⟩).mono ?_
 rintro e w' ⟨rfl, hw⟩
 obtain ⟨q1, q2⟩ := below_same hw
 exact ⟨_, rfl, q1, rfl, q2⟩
end
theorem dec_n (n b0 b1 b2 b3 : Nat) (h : 1 ≤ n) : (Lib.decodeN n b0 b1 b2 b3).2 ≤ n := by
 unfold Lib.decodeN
 repeat' split
 all_goals simp only
 all_goals omega
theorem decGo_len (s : List UInt8) : (Lib.decodeGo ⟨⟨s⟩⟩).2 ≤ s.length := by
 unfold Lib.decodeGo
 have hz : (ByteArray.mk ⟨s⟩).size = s.length := rfl
 split
 ·exact Nat.zero_le _
 ·rw [Lib.decode_at, hz]
  exact dec_n _ _ _ _ _ (by omega)
theorem get_S (l : List UInt8) (i : Nat) : (ByteArray.mk ⟨l⟩).get! i = l.getD i 0 := by
 unfold ByteArray.get!
 simp only [Array.getElem!_eq_getD, Array.getD_eq_getD_getElem?, List.getElem?_toArray, List.getD_eq_getElem?_getD]
 rfl
theorem decGo_sign {k : Int} (hk : 0 ≤ k ∧ k ≤ 3) (r : List UInt8) : ((Lib.decodeGo ⟨⟨kSign k ++ r⟩⟩).1 : Int) = kRune k ∧ (Lib.decodeGo ⟨⟨kSign k ++ r⟩⟩).2 = (kSign k).length := by
 have hk : k = 0 ∨ k = 1 ∨ k = 2 ∨ k = 3 := by omega
 have hz : ∀ l : List UInt8, (ByteArray.mk ⟨l⟩).size = l.length := fun _ => rfl
 unfold Lib.decodeGo
 rcases hk with rfl | rfl | rfl | rfl <;> rw [if_neg (by rw [hz]; simp [kSign]), Lib.decode_at, hz] <;> simp only [get_S, kSign] <;> simp [Lib.decodeN, kRune]
theorem c_one {h : Heap} (G : GlobR h) {s : List UInt8} (hs : s.length ≤ 1000000) :
  FCall Tryd.prog F_recipe_one #[S s] h fun r h' => (∃ v, r = .int .i64 v ∧ I64 v ∧ ∀ x, I64 x → Lib.itoa x = s → v = x) ∧ Ext h h' := by
 apply ok_recipe_one
 unfold sh_recipe_one
 refine (c_ParseInt G hs).mono fun r h1 ⟨⟨v, u, hr, h2, h3⟩, e⟩ => ?_
 subst hr
 simp only [go_sem]
 exact ⟨⟨v, rfl, h2, h3⟩, e⟩
theorem c_kind {h : Heap} {x : Int} : FCall Tryd.prog F_recipe_kind #[.int .i32 x] h fun r h' => (∃ k b, r = .tuple #[.int .i64 k, .bool b] ∧ I64 k ∧ ((b = true ∧ 0 ≤ k ∧ k ≤ 3 ∧ kRune k = x) ∨ (b = false ∧ ∀ j : Int, 0 ≤ j → j ≤ 3 → kRune j ≠ x))) ∧ Ext h h' := by
 apply ok_recipe_kind
 unfold sh_recipe_kind
 refine rangeStr_use fun r h1 r1 e1 n1 => ?_
 refine loopK_var (fun d xs h2 => ∃ i : Nat, i ≤ 4 ∧ d = 4 - i ∧ xs = [.int .i64 (i : Int)] ∧ h2[r]? = some (.stringIter signsB (signAt i)) ∧ Upd r h1 h2 ∧ ∀ j : Int, 0 ≤ j → j < (i : Int) → kRune j ≠ x) 4
  ⟨0, by omega, rfl, rfl, r1, Upd.refl, fun j hj hj' => absurd hj (by omega)⟩ ?_
 rintro d _ ρj h2 again ⟨i, hi, rfl, rfl, r2, u2, hk⟩ hag
 by_cases h4 : i = 4
 ·subst h4
  refine nextStr_none r2 (by rw [sign_size]; exact Nat.lt_irrefl _) ?_
  simp only [go_sem]
  exact ⟨⟨0, false, rfl, i0, .inr ⟨rfl, fun j h5 h6 => hk j h5 (by omega)⟩⟩, e1.upd n1 u2⟩
 ·have hi4 : i < 4 := by omega
  have hd : Utf8.decode signsB (signAt i) = ((kRune i).toNat, signAt (i + 1) - signAt i) := (sign_dec ⟨i, hi4⟩).1
  have hd2 : (((kRune i).toNat : Nat) : Int) = kRune i := (sign_dec ⟨i, hi4⟩).2
  have hl := sign_lt ⟨i, hi4⟩
  refine nextStr_some r2 (by rw [sign_size]; exact hl.1) fun h3 r3 u3 => ?_
  rw [hd] at r3 ⊢
  simp only [go_sem, hd2]
  refine iteK_dec (fun h5 => ?_) (fun h5 => ?_)
  ·exact ⟨⟨i, true, rfl, ⟨by omega, by omega⟩, .inl ⟨rfl, by omega, by omega, h5⟩⟩, e1.upd n1 (u2.trans u3)⟩
  ·rw [w64 (by omega) (by omega)]
   refine hag _ _ (4 - (i + 1)) (by omega) ⟨i + 1, by omega, rfl, by simp, ?_, u2.trans u3, fun j hj hj' => ?_⟩
   ·rw [r3, hl.2]
   ·by_cases h6 : j = i
    ·subst h6; exact h5
    ·exact hk j hj (by omega)
theorem c_filter {h : Heap} (G : GlobB h) {s : List UInt8} : FCall Tryd.prog F_recipe_filter #[S s] h fun r h' => (∃ f, r = .int .i64 f ∧ I64 f ∧ ((0 ≤ f ∧ f ≤ 2 ∧ fName f = s) ∨ ∀ j : Int, 0 ≤ j → j ≤ 2 → fName j ≠ s)) ∧ h' = h := by
 apply ok_recipe_filter
 unfold sh_recipe_filter
 refine loopK_var (fun d xs h2 => ∃ i : Nat, i ≤ 3 ∧ d = 3 - i ∧ xs = [.int .i64 (i : Int)] ∧ h = h2 ∧ ∀ j : Int, 0 ≤ j → j < (i : Int) → fName j ≠ s) 3
  ⟨0, by omega, rfl, rfl, rfl, fun j hj hj' => absurd hj (by omega)⟩ ?_
 rintro d _ ρj h2 again ⟨i, hi, rfl, rfl, rfl, hk⟩ hag
 simp only [go_sem]
 refine (c_rawName G).mono fun r h3 ⟨hr, hh⟩ => ?_
 subst hr hh
 simp only [S_nil, binS_neq, vK_some]
 by_cases h3 : i = 3
 ·subst h3
  rw [decide_eq_true (by rfl)]
  simp only [go_sem]
  exact ⟨⟨-1, rfl, by constructor <;> omega, .inr fun j h5 h6 => hk j h5 (by omega)⟩, trivial⟩
 ·rw [decide_eq_false (fun h5 => by have := (fName_nil (i : Int)).1 h5; omega)]
  simp only [Bool.not_false, go_sem]
  refine (c_rawName G).mono fun r h4 ⟨hr, hh⟩ => ?_
  subst hr hh
  simp only [binS_eql, vK_some]
  refine iteK_dec (fun h5 => ?_) (fun h5 => ?_)
  ·exact ⟨⟨i, rfl, ⟨by omega, by omega⟩, .inl ⟨by omega, by omega, h5⟩⟩, trivial⟩
  ·rw [w64 (by omega) (by omega)]
   refine hag _ _ (3 - (i + 1)) (by omega) ⟨i + 1, by omega, rfl, by simp, rfl, fun j hj hj' => ?_⟩
   by_cases h6 : j = i
   ·subst h6; exact h5
   ·exact hk j hj (by omega)
theorem c_named {h : Heap} (G : GlobB h) {s : List UInt8} : FCall Tryd.prog F_border_Named #[S s] h fun r h' => (∃ b has, r = .tuple #[.int .i64 b, .bool has] ∧ I64 b ∧ ((has = true ∧ 0 ≤ b ∧ b ≤ 2 ∧ bName b = s) ∨ (has = false ∧ ∀ j : Int, 0 ≤ j → j ≤ 2 → bName j ≠ s))) ∧ h' = h := by
 apply ok_border_Named
 unfold sh_border_Named
 obtain ⟨v, hv, H⟩ := G.names
 obtain ⟨a, cap, rfl⟩ := H.isSl
 simp only [go_sem, hv]
 have cI : FCall Tryd.prog F_slices_Index_sl_string_string #[.slice a 3 cap, S s] h fun r h' => (∃ i : Int, r = .int .i64 i ∧ I64 i ∧ ((0 ≤ i ∧ i ≤ 2 ∧ bName i = s) ∨ (i = -1 ∧ ∀ j : Int, 0 ≤ j → j ≤ 2 → bName j ≠ s))) ∧ h' = h := by
  apply ok_slices_Index_sl_string_string
  unfold sh_slices_Index_sl_string_string
  simp only [go_sem]
  refine loopK_var (fun d xs h2 => ∃ i : Nat, i ≤ 3 ∧ d = 3 - i ∧ xs = [.int .i64 (i : Int)] ∧ h = h2 ∧ ∀ j : Int, 0 ≤ j → j < (i : Int) → bName j ≠ s) 3
   ⟨0, by omega, rfl, rfl, rfl, fun j hj hj' => absurd hj (by omega)⟩ ?_
  rintro d _ ρj h2 again ⟨i, hi, rfl, rfl, rfl, hk⟩ hag
  simp only [go_sem]
  refine iteK_dec (fun h1 => ?_) (fun h1 => ?_)
  ·obtain ⟨p, hp, hl⟩ := H.at1 (k := .i64) (i := i) (by omega)
   have key : ∀ (i : Nat) (hi : i < [Value.string (borderName 0), Value.string (borderName 1), Value.string (borderName 2)].length), [Value.string (borderName 0), Value.string (borderName 1), Value.string (borderName 2)][i] = S (bName (i : Int)) := fun i hi =>
    match i, hi with
    | 0, _ => rfl
    | 1, _ => rfl
    | 2, _ => rfl
   rw [key] at hl
   simp only [go_sem, hp, hl, binS_eql]
   refine iteK_dec (fun h5 => ?_) (fun h5 => ?_)
   ·exact ⟨⟨i, rfl, ⟨by omega, by omega⟩, .inl ⟨by omega, by omega, h5.symm⟩⟩, trivial⟩
   ·rw [w64 (by omega) (by omega)]
    refine hag _ _ (3 - (i + 1)) (by omega) ⟨i + 1, by omega, rfl, by simp, rfl, fun j hj hj' => ?_⟩
    by_cases h6 : j = i
    ·subst h6; exact fun h => h5 h.symm
    ·exact hk j hj (by omega)
  ·exact ⟨⟨-1, rfl, by constructor <;> omega, .inr ⟨rfl, fun j h5 h6 => hk j h5 (by omega)⟩⟩, trivial⟩
 refine cI.mono fun r h1 ⟨⟨i, hr, h2, h3⟩, hh⟩ => ?_
 subst hr hh
 simp only [go_sem]
 refine ⟨⟨_, _, rfl, ?_, ?_⟩, trivial⟩
 ·constructor
  ·have := Int.le_max_left 0 i; omega
  ·rcases h3 with h3 | h3 <;> rw [Int.max_def] <;> split <;> omega
 ·rcases h3 with ⟨q1, q2, q3⟩ | ⟨q1, q2⟩
  ·rw [Int.max_eq_right q1]
   exact .inl ⟨decide_eq_true q1, q1, q2, q3⟩
  ·exact .inr ⟨decide_eq_false (by omega), q2⟩
end Go.Proofs.YtolcfipmjhjeaaaDoor
namespace Go.Proofs.YtolcfipmjhjeaaaDoor
open Go Go.Crisp Go.RowKit Go.Shelf
def Around (b2 B : Nat) (W W' : World) : Prop := Same W W' ∧ W.heap.size ≤ W'.heap.size ∧ ∀ b, b ≠ b2 → b ≠ B → b ≠ B + 1 → b < W.heap.size → W'.heap[b]? = W.heap[b]?
theorem around_put {b2 B : Nat} (W : World) (l : Nat) (o : Obj) (hl : l = B ∨ l = B + 1) : Around b2 B W (W.putObj l o) :=
 ⟨⟨rfl, rfl, rfl⟩, by simp, fun b _ h1 h2 _ => World.putObj_heap_other (by omega)⟩
theorem around_set {b2 B : Nat} (W : World) (v : Value) : Around b2 B W (W.setCell ⟨b2, 0, none⟩ v) :=
 ⟨⟨rfl, rfl, rfl⟩, (KeepsWalks.setCell W _ v).size, fun b h _ _ _ => Below.heap_setCell _ _ _ b h⟩
theorem around_alloc {b2 : Nat} (W : World) (o1 o2 : Obj) : Around b2 W.heap.size W ((W.alloc o1).alloc o2) :=
 ⟨⟨rfl, rfl, rfl⟩, by simp; omega, fun b _ h1 h2 hb => (Below.heap_alloc _ _ _ (by simp; omega)).trans (Below.heap_alloc _ _ _ hb)⟩
def KeepB (b1 b2 b3 B : Nat) (W W' : World) : Prop := ∀ b, b = b1 ∨ b = b2 ∨ b = b3 ∨ b = B ∨ b = B + 1 → W'.heap[b]? = W.heap[b]?
set_option maxHeartbeats 1000000 in
theorem range_split {n : Nat} (hn : 2 ≤ n) {g : Operand} {p : Tmp} {assign body : Code} {Q : Exit → Act → World → Prop} {a : Act} {w : World} {b1 b2 b3 : Nat} {c : UInt8} {s : List UInt8} {t1 t2 t3 : TypeId}
  (hg : a.eval g = .func (.func 51) #[] #[.pointer (some ⟨b1, 0, none⟩), .pointer (some ⟨b2, 0, none⟩), .pointer (some ⟨b3, 0, none⟩)])
  (r1 : w.heap[b1]? = some (.cells #[.string ⟨#[c]⟩] t1 (0, 0))) (r2 : w.heap[b2]? = some (.cells #[.string ⟨⟨s⟩⟩] t2 (0, 0))) (r3 : w.heap[b3]? = some (.cells #[.int .i64 0] t3 (0, 0))) (ne : b1 ≠ b2 ∧ b3 ≠ b2) (hlen : s.length ≤ 1000000)
  (I : List (List UInt8) → World → Prop) (Ix : World → Prop) (hI : ∀ pre W W', Around b2 w.heap.size W W' → I pre W → I pre W') (hIx : ∀ W W', Around b2 w.heap.size W W' → Ix W → Ix W') (h0 : I [] w) (a₁ : List UInt8 → Act)
  (hassign : ∀ (l : Nat) (x : List UInt8) (W : World) (K : Act → World → Prop), K (a₁ x) W → assign.wpIn (Fence.wide.inRound l) (n - 1 - 1) Tryd.prog (Exit.then K (fun _ _ _ => False)) { tmps := a.tmps.setIfInBounds p (.string ⟨⟨x⟩⟩), defers := [] } W)
  (hbody : ∀ (l : Nat) (pre : List (List UInt8)) (x : List UInt8) (W : World), (∃ post, splitL c s = pre ++ x :: post) → I pre W → w.heap.size + 2 ≤ W.heap.size → body.wpIn (Fence.wide.inRound l) (n - 1 - 1) Tryd.prog (fun e _ W' => match e with
   | .normal => KeepB b1 b2 b3 w.heap.size W W' ∧ I (pre ++ [x]) W'
   | .ret => KeepB b1 b2 b3 w.heap.size W W' ∧ Ix W'
   | _ => False) (a₁ x) W)
  (hdone : ∀ W, I (splitL c s) W → W.heap[w.heap.size]? = some (.deferred (some [])) → Q .normal { a with defers := { target := .collected w.heap.size, args := #[] } :: a.defers } W)
  (hstop : ∀ W, Ix W → W.heap[w.heap.size]? = some (.deferred (some [])) → Q .ret { a with defers := { target := .collected w.heap.size, args := #[] } :: a.defers } W) :
  (Code.rangeFunc g #[p] assign body).wpIn Fence.wide n Tryd.prog Q a w := by
 refine wpIn_rangeFunc fun fn _ => ?_
 let rec_ : LoopState → Option Code → Loop := fun st pe => { state := st, pending := pe, fn, tmps := a.tmps, params := #[p], assign, body, defers := w.heap.size }
 have hK0 : (w.alloc (.deferred (some []))).heap[w.heap.size]? = some (.deferred (some [])) := World.alloc_heap_new w _
 have hL0 : ((w.alloc (.deferred (some []))).alloc (.loop (rec_ .ready none))).heap[w.heap.size + 1]? = some (.loop (rec_ .ready none)) := by
  have := World.alloc_heap_new (w.alloc (.deferred (some []))) (.loop (rec_ .ready none))
  rwa [World.size_alloc] at this
 have hD0 : ((w.alloc (.deferred (some []))).alloc (.loop (rec_ .ready none))).heap[w.heap.size]? = some (.deferred (some [])) := (Below.heap_alloc _ _ _ (by simp)).trans hK0
 have old : ∀ {b : Nat} {o : Obj}, w.heap[b]? = some o → ((w.alloc (.deferred (some []))).alloc (.loop (rec_ .ready none))).heap[b]? = some o := fun {b o} h => by
  have hb := (Array.getElem?_eq_some_iff.1 h).1
  exact ((Below.heap_alloc _ _ _ (by simp; omega)).trans (Below.heap_alloc _ _ _ hb)).trans h
 have lt : ∀ {b : Nat} {o : Obj}, w.heap[b]? = some o → b < w.heap.size := fun h => (Array.getElem?_eq_some_iff.1 h).1
 have l1 := lt r1
 have l2 := lt r2
 have l3 := lt r3
 refine ⟨w.heap.size + 1, [{ target := .collected w.heap.size, args := #[] }], (w.alloc (.deferred (some []))).alloc (.loop (rec_ .ready none)), { target := .fn (.func 51) #[.pointer (some ⟨b1, 0, none⟩), .pointer (some ⟨b2, 0, none⟩), .pointer (some ⟨b3, 0, none⟩)], args := #[.func (.yield (w.heap.size + 1)) #[] #[]] },
  (w.alloc (.deferred (some []))).alloc (.loop (rec_ .ready none)), 51, #[.func (.yield (w.heap.size + 1)) #[] #[], .pointer (some ⟨b1, 0, none⟩), .pointer (some ⟨b2, 0, none⟩), .pointer (some ⟨b3, 0, none⟩)], (w.alloc (.deferred (some []))).alloc (.loop (rec_ .ready none)), ?_, ?_, fun _ _ => trivial, ?_, (fun _ => by omega), ?_⟩
 ·exact run_enterLoop_outer _ _ _ _ _
 ·simp only [resolve, hg]
  simp [go_sem]
 ·have eg : ∀ args w, (callFunc 51 args).run Tryd.prog w = .ok (.enter 51 args) w := enters_of Tryd.func51 (by kernel_rfl) rfl
  simp [invoke, go_sem, eg]
 refine (split_calls (n - 1) (by omega) (w.heap.size + 1) b1 b2 b3 c s t1 t2 t3
  (fun pre W => I pre W ∧ W.heap[w.heap.size + 1]? = some (.loop (rec_ .ready none)) ∧ W.heap[w.heap.size]? = some (.deferred (some [])))
  (fun _ W => Ix W ∧ W.heap[w.heap.size + 1]? = some (.loop (rec_ .done (some .ret))) ∧ W.heap[w.heap.size]? = some (.deferred (some [])))
  (fun pre W v ⟨i, h1, h2⟩ => ⟨hI _ _ _ (around_set W v) i, (Below.heap_setCell _ _ _ _ (show w.heap.size + 1 ≠ b2 by omega)).trans h1, (Below.heap_setCell _ _ _ _ (show w.heap.size ≠ b2 by omega)).trans h2⟩)
  (fun pre W ⟨i, h1, h2⟩ => ⟨hI _ _ _ (show Around b2 w.heap.size W W.drew from ⟨⟨rfl, rfl, rfl⟩, Nat.le_refl _, fun _ _ _ _ _ => rfl⟩) i, h1, h2⟩)
  ?_ ne hlen _ (old r1) (old r2) (old r3) ⟨hI _ _ _ (around_alloc w _ _) h0, hL0, hD0⟩).mono ?_
 ·rintro pre x W hpost ⟨hi, hl, hd⟩
  have hlt : w.heap.size + 1 < W.heap.size := (Array.getElem?_eq_some_iff.1 hl).1
  have hy : (Instr.yield (w.heap.size + 1) #[.string ⟨⟨x⟩⟩]).run Tryd.prog W = .ok (.round (w.heap.size + 1) fn (a.tmps.setIfInBounds p (.string ⟨⟨x⟩⟩)) assign body) W := by
   simpa [rec_] using run_yield (P := Tryd.prog) (args := #[.string ⟨⟨x⟩⟩]) hl rfl
  refine ⟨fn, _, assign, body, hy, roundIn_of_wpIn trivial ?_⟩
  refine hassign _ x W _ ?_
  refine ⟨_, run_beginRound hl rfl, ?_⟩
  have a1 := around_put (b2 := b2) W (w.heap.size + 1) (.loop { rec_ .ready none with state := .busy }) (.inr rfl)
  have hl2 : (W.putObj (w.heap.size + 1) (.loop { rec_ .ready none with state := .busy })).heap[w.heap.size + 1]? = some (.loop { rec_ .ready none with state := .busy }) := World.putObj_heap_same hlt
  have hd2 : (W.putObj (w.heap.size + 1) (.loop { rec_ .ready none with state := .busy })).heap[w.heap.size]? = some (.deferred (some [])) := (World.putObj_heap_other (by omega)).trans hd
  refine wpIn_mono (hbody _ pre x _ hpost (hI _ _ _ a1 hi) (by simp; omega)) fun e a3 W3 hp => ?_
  have keep : KeepB b1 b2 b3 w.heap.size (W.putObj (w.heap.size + 1) (.loop { rec_ .ready none with state := .busy })) W3 → W3.heap[w.heap.size + 1]? = some (.loop { rec_ .ready none with state := .busy }) ∧ W3.heap[w.heap.size]? = some (.deferred (some [])) ∧ ∀ b, b = b1 ∨ b = b2 ∨ b = b3 → W3.heap[b]? = W.heap[b]? := fun k =>
   ⟨(k _ (by simp)).trans hl2, (k _ (by simp)).trans hd2, fun b hb => (k b (by rcases hb with h | h | h <;> simp [h])).trans (World.putObj_heap_other (by omega))⟩
  cases e with
  | normal =>
   obtain ⟨k, i3⟩ := hp
   obtain ⟨k1, k2, k3⟩ := keep k
   have hlt3 := (Array.getElem?_eq_some_iff.1 k1).1
   refine ⟨_, _, run_endRound (P := Tryd.prog) none k1, .inl ⟨rfl, ⟨hI _ _ _ (around_put _ _ _ (.inr rfl)) i3, World.putObj_heap_same hlt3, (World.putObj_heap_other (by omega)).trans k2⟩, fun b hb => (World.putObj_heap_other (by omega)).trans (k3 b hb)⟩⟩
  | ret =>
   obtain ⟨k, i3⟩ := hp
   obtain ⟨k1, k2, k3⟩ := keep k
   have hlt3 := (Array.getElem?_eq_some_iff.1 k1).1
   exact ⟨_, _, run_endRound (P := Tryd.prog) (some .ret) k1, .inr ⟨rfl, hIx _ _ (around_put _ _ _ (.inr rfl)) i3, World.putObj_heap_same hlt3, (World.putObj_heap_other (by omega)).trans k2⟩⟩
  | exit id => exact hp.elim
  | goto t => exact hp.elim
  | panic ch => exact hp.elim
  | outgrown => exact hp.elim
 ·rintro e W2 ⟨⟨v, rfl⟩, ⟨i, hl, hd⟩ | ⟨_, i, hl, hd⟩⟩
  ·exact ⟨none, _, run_endLoop (P := Tryd.prog) hl (by simp [rec_]), hdone _ (hI _ _ _ (around_put _ _ _ (.inr rfl)) i) ((World.putObj_heap_other (by omega)).trans hd)⟩
  ·exact ⟨some .ret, _, run_endLoop (P := Tryd.prog) hl (by simp [rec_]), wpIn_ret (hstop _ (hIx _ _ (around_put _ _ _ (.inr rfl)) i) ((World.putObj_heap_other (by omega)).trans hd))⟩
end Go.Proofs.YtolcfipmjhjeaaaDoor
namespace Go.Crisp
open Go
section
section
variable {P : Program} {ρ : Env} {w : World} {n k : Nat} {a : Act} {F : Fence} {D : List Deferred}
def noDefer : Op → Bool
 | .defer _ => false
 | _ => true
theorem noDefer_ne {o : Op} (h : noDefer o = true) : ∀ c, o ≠ .defer c := fun c e => by rw [e] at h; cases h
structure Flat (F : Fence) (P : Program) : Prop where
 fn : ∀ f, F.fn f
 depth : F.depth.isSome = true → False
 sem : ∀ (o : Oper) (ev : Operand → Value), noDefer o.op = true → o.semAt F.round ev = execOp ev o
 calls : ∀ {m : Nat} {f : FuncId} {args : Array Value} {w : World} {R : Ending → World → Prop}, CallsIn Fence.wide m P f args w R → CallsIn F m P f args w R
theorem flat_round (l : Nat) : Flat (Fence.wide.inRound l) P := ⟨fun _ => trivial, (fun h => by cases h), fun o ev nd => Oper.semAt_some l ev o (noDefer_ne nd), fun h => CallsIn.inRound l h⟩
theorem flat_wide : Flat Fence.wide P := ⟨fun _ => trivial, (fun h => by cases h), fun _ _ _ => rfl, fun h => h⟩
def RelD (D : List Deferred) (n : Nat) (a : Act) (ρ : Env) : Prop := Rel n { a with defers := [] } ρ ∧ a.defers = D
theorem RelD.eval (h : RelD D n a ρ) : a.eval = ev ρ := h.1.eval
theorem RelD.put (h : RelD D n a ρ) {o : Option Tmp} (hd : (match o with | some d => Nat.blt d n | none => true) = true) (v : Value) : RelD D n (a.put o v) (up ρ o v) := by
 cases o with
 | none => exact ⟨h.1.put (d := none) rfl v, h.2⟩
 | some t => exact ⟨h.1.put (d := some t) hd v, h.2⟩
def PostD (D : List Deferred) (n : Nat) (ρ : Env) (ws : List Tmp) (w0 : World) (Q : Ex → Env → Heap → Prop) : Exit → Act → World → Prop := fun e a w =>
 ∃ ρ2, RelD D n a ρ2 ∧ (∀ t, memN t ws = false → ρ2 t = ρ t) ∧ Same w0 w ∧ match e with
  | .normal => Q .nx ρ2 w.heap
  | .exit id => Q (.br id) ρ2 w.heap
  | .ret => Q .rt ρ2 w.heap
  | _ => False
theorem wpIn_of_done {o : Oper} {K : Value → Heap → Prop} {next : Act → World → Prop} {Q : Exit → Act → World → Prop} (fl : Flat F P) (nd : noDefer o.op = true) (h : Done P K w ((execOp a.eval o).run P w))
  (hn : ∀ v w', Same w w' → K v w'.heap → next (a.put o.dst v) w') : o.wpIn F k P a w next Q := by
 refine ⟨fun f _ => fl.fn f, ?_⟩
 have e : o.semAt F.round a.eval = execOp a.eval o := fl.sem o _ nd
 rw [e]
 generalize (execOp a.eval o).run P w = r at h
 unfold Done at h
 split at h
 ·exact hn _ _ h.1 h.2
 ·exact hn _ _ h.1 h.2
 ·obtain ⟨rfl, hc⟩ := h
  refine ⟨(fun h => (fl.depth h).elim), fl.calls (callsIn_wide.2 ((hc.2 _ rfl).mono ?_))⟩
  rintro e w' ⟨v, rfl, hs, hk⟩
  exact hn v w' hs hk
 ·exact h.elim
theorem cOp_done [FlatOk P] {all : Array Oper} {o : Oper} {K : Value → Heap → Prop} (hr : Rel n { a with defers := [] } ρ) (h : cOp P all ρ o w.heap K) :
  if Region.wanted o (yielded all a.tmps) then Done P K w ((execOp a.eval o).run P w) else K undef w.heap := by
 have h := cOp_cOp0 h
 unfold cOp0 at h
 cases hro : roV P ρ o.op w.heap with
 | some r =>
  simp only [roG, hro] at h
  have fin : ∀ v, r = some v → K v w.heap → Done P K w ((execOp a.eval o).run P w) := fun v hv hk => by
   subst hv
   rw [show a.eval = ev ρ from hr.eval, roV_sound o rfl hro rfl]
   exact ⟨Same.refl w, hk⟩
  cases hg : o.guard with
  | none =>
   simp only [hg] at h
   rw [if_pos (show Region.wanted o (yielded all a.tmps) = true by simp [Region.wanted, hg])]
   unfold vK at h
   split at h
   ·exact fin _ rfl h
   ·exact h.elim
  | some p =>
   obtain ⟨j, want⟩ := p
   simp only [hg] at h
   rw [wanted_g hr hg]
   unfold gV at h
   split at h
   ·rename_i b hb
    by_cases hbw : (b == want) = true
    ·rw [hbw] at h
     simp only [cond_true] at h
     rw [if_pos hbw]
     unfold vK at h
     split at h
     ·exact fin _ rfl h
     ·exact h.elim
    ·have hbw' : (b == want) = false := by simpa using hbw
     rw [hbw'] at h
     simp only [cond_false, vK] at h
     rw [if_neg hbw]
     exact h
   ·simp only [vK] at h
    rw [if_neg (by simp)]
    exact h
 | none =>
  simp only [roG, hro, effG] at h
  have fin : effK P ρ o.op w.heap K → Done P K w ((execOp a.eval o).run P w) := fun h => by
   rw [show a.eval = ev ρ from hr.eval]
   exact effK_sound o rfl h
  cases hg : o.guard with
  | none =>
   simp only [hg] at h
   rw [if_pos (show Region.wanted o (yielded all a.tmps) = true by simp [Region.wanted, hg])]
   exact fin h
  | some p =>
   obtain ⟨j, want⟩ := p
   simp only [hg] at h
   rw [wanted_g hr hg]
   unfold gK at h
   split at h
   ·rename_i b hb
    by_cases hbw : (b == want) = true
    ·rw [hbw] at h
     simp only [cond_true] at h
     rw [if_pos hbw]
     exact fin h
    ·have hbw' : (b == want) = false := by simpa using hbw
     rw [hbw'] at h
     simp only [cond_false] at h
     rw [if_neg hbw]
     exact h
   ·rw [if_neg (by simp)]
    exact h
theorem cOps_soundIn [FlatOk P] (fl : Flat F P) {all : Array Oper} {Q : Ex → Env → Heap → Prop} {Q' : Exit → Act → World → Prop} : ∀ (l' : List Oper) (i : Nat) (ρ : Env) (a : Act) (w : World), all.toList.drop i = l' → opsOk n l' = true → l'.all (fun o => noDefer o.op) = true → RelD D n a ρ →
  cOps P all l' ρ w.heap (Q .nx) → (∀ e a' w', PostD D n ρ (l'.filterMap (·.dst)) w Q e a' w' → Q' e a' w') → wpOpsIn F k P all Q' (List.range' i l'.length) a w
 | [], i, ρ, a, w, _, _, _, hr, h, hQ => by
  simp only [List.length_nil, List.range'_zero, wpOpsIn]
  exact hQ _ _ _ ⟨ρ, hr, fun _ _ => rfl, Same.refl w, h⟩
 | o :: l', i, ρ, a, w, hd, hok, hnd, hr, h, hQ => by
  have hk : all[i]? = some o := by
   rw [← Array.getElem?_toList]
   have : (all.toList.drop i)[0]? = some o := by rw [hd]; rfl
   simpa using this
  have hd' : all.toList.drop (i + 1) = l' := by
   have : (all.toList.drop i).drop 1 = l' := by rw [hd]; rfl
   simpa [List.drop_drop] using this
  obtain ⟨h1, h2⟩ := opsOk_cons hok
  simp only [List.all_cons, Bool.and_eq_true] at hnd
  simp only [List.length_cons, List.range'_succ, wpOpsIn, hk]
  rw [cOps_cons] at h
  have next : ∀ v w', Same w w' → cOps P all l' (up ρ o.dst v) w'.heap (Q .nx) → wpOpsIn F k P all Q' (List.range' (i + 1) l'.length) (a.put o.dst v) w' := fun v w' hs hK =>
   cOps_soundIn fl l' (i + 1) (up ρ o.dst v) _ w' hd' h2 hnd.2 (hr.put h1 v) hK fun e a' w'' ⟨ρ2, g1, g2, g3, g4⟩ => hQ e a' w'' ⟨ρ2, g1, fun t ht => by
    have := up_keeps (ρ := ρ) (d := o.dst) (v := v) (t := t) (rest := l'.filterMap (·.dst)) (by cases hdst : o.dst <;> simp [hdst] at ht ⊢ <;> exact ht)
    rw [g2 t this.2, this.1], hs.trans g3, g4⟩
  have hh := cOp_done (n := n) hr.1 h
  by_cases hw : Region.wanted o (yielded all a.tmps) = true
  ·rw [if_pos hw] at hh ⊢
   exact wpIn_of_done fl hnd.1 hh next
  ·rw [if_neg hw] at hh ⊢
   exact ⟨(fun f _ => fl.fn f), next _ _ (Same.refl w) hh⟩
def simpC : Code → Ann → Bool
 | .skip, _ => true
 | .ret, _ => true
 | .region _ ops false, .z => ops.toList.all fun o => noDefer o.op
 | .seq x y, .s p q => simpC x p && simpC y q
 | .cond _ x y, .s p q => simpC x p && simpC y q
 | .block _ x, .s p q => simpC x (.s p q)
 | .block _ x, .z => simpC x .z
 | _, _ => false
theorem cCode_soundIn [FlatOk P] (fl : Flat F P) : ∀ (c : Code) (an : Ann) (ρ : Env) (a : Act) (w : World) (Q : Ex → Env → Heap → Prop), simpC c an = true → okCode P n c an = true → RelD D n a ρ → cCode P c an ρ w.heap Q →
  c.wpIn F k P (PostD D n ρ (writes c) w Q) a w := by
 intro c
 induction c with
 | skip => intro an ρ a w Q _ _ hr h; exact wpIn_skip ⟨ρ, hr, fun _ _ => rfl, Same.refl w, h⟩
 | ret => intro an ρ a w Q _ _ hr h; exact wpIn_ret ⟨ρ, hr, fun _ _ => rfl, Same.refl w, h⟩
 | region id ops draw =>
  intro an ρ a w Q hs hok hr h
  cases draw with
  | true => cases an <;> simp [simpC] at hs
  | false =>
   cases an with
   | z =>
    have hops : opsOk n ops.toList = true := by simp only [okCode, Bool.and_eq_true] at hok; exact hok.1
    have hs : ops.toList.all (fun o => noDefer o.op) = true := hs
    have h : cOps P ops ops.toList ρ w.heap (Q .nx) := h
    refine wpIn_region ?_
    have := cOps_soundIn fl (k := k) (Q := Q) (Q' := PostD D n ρ (ops.toList.filterMap (·.dst)) w Q) ops.toList 0 ρ a w (by simp) hops hs hr h (fun _ _ _ h => h)
    rw [List.range_eq_range']
    have e : wpOpsIn F k P ops (PostD D n ρ (ops.toList.filterMap (·.dst)) w Q) (List.range' 0 ops.size) a w := by simpa using this
    exact e
   | _ => simp [simpC] at hs
 | seq x y ihx ihy =>
  intro an ρ a w Q hs hok hr h
  cases an with
  | s p q =>
   simp only [okCode, simpC, Bool.and_eq_true] at hok hs
   refine wpIn_seq (wpIn_mono (ihx p ρ a w _ hs.1 hok.1 hr h) ?_)
   intro e a1 w1 ⟨ρ1, g1, g2, g3, g4⟩
   have lx : ∀ t, memN t (writes (.seq x y)) = false → memN t (writes x) = false ∧ memN t (writes y) = false := fun t ht => by
    simpa only [writes, memN_append, Bool.or_eq_false_iff] using ht
   cases e with
   | normal => exact wpIn_mono (ihy q ρ1 a1 w1 Q hs.2 hok.2 g1 g4) fun e a2 w2 ⟨ρ2, f1, f2, f3, f4⟩ => ⟨ρ2, f1, fun t ht => by rw [f2 t (lx t ht).2, g2 t (lx t ht).1], g3.trans f3, f4⟩
   | exit id => exact ⟨ρ1, g1, fun t ht => g2 t (lx t ht).1, g3, g4⟩
   | ret => exact ⟨ρ1, g1, fun t ht => g2 t (lx t ht).1, g3, g4⟩
   | _ => exact g4.elim
  | _ => simp [simpC] at hs
 | cond c x y ihx ihy =>
  intro an ρ a w Q hs hok hr h
  cases an with
  | s p q =>
   simp only [okCode, simpC, Bool.and_eq_true] at hok hs
   have h : iteK (ev ρ c) (cCode P x p ρ w.heap Q) (cCode P y q ρ w.heap Q) := h
   unfold iteK at h
   split at h
   ·rename_i b hb
    refine wpIn_cond (t := b) (by rw [hr.eval]; exact hb) ?_
    cases b with
    | true =>
     refine wpIn_mono (ihx p ρ a w Q hs.1 hok.1 hr h) fun e a2 w2 ⟨ρ2, g1, g2, g3, g4⟩ => ⟨ρ2, g1, fun t ht => ?_, g3, g4⟩
     simp only [writes, memN_append, Bool.or_eq_false_iff] at ht
     exact g2 t ht.1
    | false =>
     refine wpIn_mono (ihy q ρ a w Q hs.2 hok.2 hr h) fun e a2 w2 ⟨ρ2, g1, g2, g3, g4⟩ => ⟨ρ2, g1, fun t ht => ?_, g3, g4⟩
     simp only [writes, memN_append, Bool.or_eq_false_iff] at ht
     exact g2 t ht.2
   ·exact h.elim
  | _ => simp [simpC] at hs
 | block id x ih =>
  intro an ρ a w Q hs hok hr h
  have plain : ∀ an', simpC x an' = true → okCode P n x an' = true → cCode P x an' ρ w.heap (fun e ρ h => match e with
   | .nx => Q .nx ρ h
   | .br n => bif Nat.beq n id then Q .nx ρ h else Q (.br n) ρ h
   | .rt => Q .rt ρ h) → (Code.block id x).wpIn F k P (PostD D n ρ (writes (.block id x)) w Q) a w := by
   intro an' hs hok h
   refine wpIn_block (wpIn_mono (ih an' ρ a w _ hs hok hr h) ?_)
   intro e a1 w1 ⟨ρ1, g1, g2, g3, g4⟩
   cases e with
   | normal => exact ⟨ρ1, g1, g2, g3, g4⟩
   | exit id' =>
    simp only [Exit.inBlock]
    simp only at g4
    by_cases hid : id' = id
    ·subst hid
     rw [if_pos rfl]
     simp only [Nat.beq_refl] at g4
     exact ⟨ρ1, g1, g2, g3, g4⟩
    ·rw [if_neg hid]
     have hb : Nat.beq id' id = false := by rw [Bool.eq_false_iff]; intro hb; exact hid (Nat.eq_of_beq_eq_true hb)
     simp only [hb] at g4
     exact ⟨ρ1, g1, g2, g3, g4⟩
   | ret => exact ⟨ρ1, g1, g2, g3, g4⟩
   | _ => exact g4.elim
  cases an with
  | s p q => exact plain _ hs hok h
  | z => exact plain _ hs hok h
  | _ => simp [simpC] at hs
 | _ => intro an ρ a w Q hs; cases an <;> simp [simpC] at hs
end
end
end Go.Crisp
namespace Go.Proofs.YtolcfipmjhjeaaaDoor
open Go Go.Crisp Go.RowKit Go.Shelf
section
abbrev RQ := Ex → Env → List Deferred → Heap → Prop
def PostR (n : Nat) (w0 : World) (Q : RQ) : Exit → Act → World → Prop := fun e a w =>
 ∃ ρ2 D, RelD D n a ρ2 ∧ Same w0 w ∧ match e with
  | .normal => Q .nx ρ2 D w.heap
  | .exit id => Q (.br id) ρ2 D w.heap
  | .ret => Q .rt ρ2 D w.heap
  | _ => False
def WR (n k : Nat) (c : Code) (ρ : Env) (D : List Deferred) (h : Heap) (Q : RQ) : Prop :=
 ∀ (a : Act) (w : World), w.heap = h → RelD D n a ρ → c.wpIn Fence.wide k Tryd.prog (PostR n w Q) a w
def cA : Code → Code
 | .seq x _ => x
 | .cond _ x _ => x
 | .block _ x => x
 | .rangeFunc _ _ x _ => x
 | _ => .skip
def cB : Code → Code
 | .seq _ y => y
 | .cond _ _ y => y
 | .rangeFunc _ _ _ y => y
 | _ => .skip
def AroundH (b2 B : Nat) (h h' : Heap) : Prop := h.size ≤ h'.size ∧ ∀ b, b ≠ b2 → b ≠ B → b ≠ B + 1 → b < h.size → h'[b]? = h[b]?
def KeepH (b1 b2 b3 B : Nat) (h h' : Heap) : Prop := ∀ b, b = b1 ∨ b = b2 ∨ b = b3 ∨ b = B ∨ b = B + 1 → h'[b]? = h[b]?
section
variable {n k : Nat} {ρ : Env} {D : List Deferred} {h : Heap} {Q : RQ}
theorem WR.mono {c : Code} {Q' : RQ} (H : WR n k c ρ D h Q') (hq : ∀ e ρ D h, Q' e ρ D h → Q e ρ D h) : WR n k c ρ D h Q := fun a w hw hr =>
 wpIn_mono (H a w hw hr) fun e a w ⟨ρ2, D2, r, s, q⟩ => ⟨ρ2, D2, r, s, by cases e <;> first | exact hq _ _ _ _ q | exact q.elim⟩
theorem WR.seq {c : Code} (H : WR n k (cA c) ρ D h fun e ρ D h => match e with | .nx => WR n k (cB c) ρ D h Q | e => Q e ρ D h) (e : c = .seq (cA c) (cB c) := by kernel_rfl) : WR n k c ρ D h Q := fun a w hw hr => by
 rw [e]
 refine wpIn_seq (wpIn_mono (H a w hw hr) fun e a1 w1 ⟨ρ2, D2, r, s, q⟩ => ?_)
 cases e with
 | normal => exact wpIn_mono (q a1 w1 rfl r) fun e a3 w3 ⟨ρ3, D3, r3, s3, q3⟩ => ⟨ρ3, D3, r3, s.trans s3, q3⟩
 | exit id => exact ⟨ρ2, D2, r, s, q⟩
 | ret => exact ⟨ρ2, D2, r, s, q⟩
 | _ => exact q.elim
theorem WR.plain {c : Code} (an : Ann) (H : cCode Tryd.prog c an ρ h fun e ρ h => Q e ρ D h) (hs : simpC c an = true := by kernel_rfl) (hok : okCode Tryd.prog n c an = true := by kernel_rfl) : WR n k c ρ D h Q := fun a w hw hr => by
 subst hw
 refine wpIn_mono (cCode_soundIn flat_wide c an ρ a w (fun e ρ h => Q e ρ D h) hs hok hr H) fun e a1 w1 ⟨ρ2, r, _, s, q⟩ => ⟨ρ2, D, r, s, ?_⟩
 cases e <;> first | exact q | exact q.elim
theorem wpIn_assign {F : Fence} {o : Oper} {t p id k : Nat} {a : Act} {W : World} {K : Exit → Act → World → Prop} (fl : Flat F Tryd.prog) (h1 : o.dst = some t) (h2 : o.op = .assign (.tmp p)) (h3 : o.guard = none) (hr : RelD D n a ρ)
  (H : K .normal (a.put (some t) (ρ p)) W) : (Code.region id #[o] false).wpIn F k Tryd.prog K a W := by
 refine wpIn_region ?_
 rw [show List.range (#[o] : Array Oper).size = [0] from rfl]
 show (if Region.wanted o (yielded #[o] a.tmps) then o.wpIn F k Tryd.prog a W (wpOpsIn F k Tryd.prog #[o] K []) K else (∀ f, o.about Tryd.prog W a.eval = some f → F.fn f) ∧ wpOpsIn F k Tryd.prog #[o] K [] (a.put o.dst undef) W)
 rw [if_pos (by simp [Region.wanted, h3])]
 refine ⟨fun f _ => fl.fn f, ?_⟩
 rw [fl.sem o _ (by rw [h2]; rfl), hr.eval, roV_sound (P := Tryd.prog) (op := .assign (.tmp p)) (v := ρ p) o h2 rfl rfl]
 show K .normal (a.put o.dst (ρ p)) W
 rw [h1]
 exact H
theorem WR.split {id0 ida p t : Nat} {o : Oper} {c body : Code} {g : Operand} {an : Ann} {b1 b2 b3 : Nat} {ch : UInt8} {s : List UInt8} {t1 t2 t3 : TypeId}
  (hg : ev ρ g = .func (.func 51) #[] #[.pointer (some ⟨b1, 0, none⟩), .pointer (some ⟨b2, 0, none⟩), .pointer (some ⟨b3, 0, none⟩)])
  (r1 : h[b1]? = some (.cells #[.string ⟨#[ch]⟩] t1 (0, 0))) (r2 : h[b2]? = some (.cells #[.string ⟨⟨s⟩⟩] t2 (0, 0))) (r3 : h[b3]? = some (.cells #[.int .i64 0] t3 (0, 0))) (ne : b1 ≠ b2 ∧ b3 ≠ b2) (hlen : s.length ≤ 1000000)
  (I : List (List UInt8) → Heap → Prop) (Ix : Heap → Prop) (hI : ∀ pre h1 h2, AroundH b2 h.size h1 h2 → I pre h1 → I pre h2) (hIx : ∀ h1 h2, AroundH b2 h.size h1 h2 → Ix h1 → Ix h2) (h0 : I [] h)
  (hbody : ∀ pre x h1, (∃ post, splitL ch s = pre ++ x :: post) → I pre h1 → h.size + 2 ≤ h1.size → cCode Tryd.prog body an (up (up ρ (some p) (.string ⟨⟨x⟩⟩)) (some t) (.string ⟨⟨x⟩⟩)) h1 fun e ρ' h2 => match e with
   | .nx => KeepH b1 b2 b3 h.size h1 h2 ∧ I (pre ++ [x]) h2
   | .rt => KeepH b1 b2 b3 h.size h1 h2 ∧ Ix h2
   | _ => False)
  (hdone : ∀ h1, I (splitL ch s) h1 → h1[h.size]? = some (.deferred (some [])) → Q .nx ρ [{ target := .collected h.size, args := #[] }] h1)
  (hstop : ∀ h1, Ix h1 → h1[h.size]? = some (.deferred (some [])) → Q .rt ρ [{ target := .collected h.size, args := #[] }] h1)
  (ec : c = .block id0 (.rangeFunc g #[p] (.region ida #[o] false) body)) (ho : o.dst = some t ∧ o.op = .assign (.tmp p) ∧ o.guard = none) (hp : Nat.blt p n = true) (ht : Nat.blt t n = true)
  (hs : simpC body an = true) (hok : okCode Tryd.prog n body an = true) (hk : 2 ≤ k) : WR n k c ρ [] h Q := fun a w hw hr => by
 subst hw
 rw [ec]
 have ha : a = { tmps := a.tmps, defers := [] } := by cases a; simp only [Act.mk.injEq, true_and]; exact hr.2
 have hr1 : ∀ x, RelD [] n (({ tmps := a.tmps, defers := [] } : Act).put (some p) (.string ⟨⟨x⟩⟩)) (up ρ (some p) (.string ⟨⟨x⟩⟩)) := fun x => RelD.put (o := some p) (by rw [← ha]; exact hr) hp _
 refine wpIn_block (range_split hk (g := g) (b1 := b1) (b2 := b2) (b3 := b3) (c := ch) (s := s) (by rw [hr.eval]; exact hg) r1 r2 r3 ne hlen (fun pre W => Same w W ∧ I pre W.heap) (fun W => Same w W ∧ Ix W.heap)
  (fun pre W W' ⟨s1, z1, f1⟩ ⟨s0, i⟩ => ⟨s0.trans s1, hI pre _ _ ⟨z1, f1⟩ i⟩) (fun W W' ⟨s1, z1, f1⟩ ⟨s0, i⟩ => ⟨s0.trans s1, hIx _ _ ⟨z1, f1⟩ i⟩) ⟨Same.refl w, h0⟩
  (fun x => (({ tmps := a.tmps, defers := [] } : Act).put (some p) (.string ⟨⟨x⟩⟩)).put (some t) (.string ⟨⟨x⟩⟩)) ?_ ?_ ?_ ?_)
 ·intro l x W K hK
  have e : (up ρ (some p) (.string ⟨⟨x⟩⟩)) p = .string ⟨⟨x⟩⟩ := by simp [up]
  refine wpIn_assign (flat_round l) ho.1 ho.2.1 ho.2.2 (hr1 x) ?_
  rw [e]
  exact hK
 ·rintro l pre x W hpost ⟨s0, i⟩ hz
  refine wpIn_mono (cCode_soundIn (flat_round l) body an _ _ W _ hs hok (RelD.put (o := some t) (hr1 x) ht _) (hbody pre x W.heap hpost i hz)) fun e a1 w1 ⟨ρ2, r, _, s, q⟩ => ?_
  cases e with
  | normal => exact ⟨q.1, s0.trans s, q.2⟩
  | ret => exact ⟨q.1, s0.trans s, q.2⟩
  | _ => exact q.elim
 ·rintro W ⟨s0, i⟩ hd
  exact ⟨ρ, _, ⟨hr.1, by rw [ha]⟩, s0, hdone _ i hd⟩
 ·rintro W ⟨s0, i⟩ hd
  exact ⟨ρ, _, ⟨hr.1, by rw [ha]⟩, s0, hstop _ i hd⟩
end
theorem WR.fn {f : FuncId} {fn : Func} {c : Code} (k : Nat) {args : Array Value} {h : Heap} {R : Value → Heap → Prop} (hf : Tryd.prog.funcs[f]? = some fn) (hb : fn.body = some c) (hc : okCallee Tryd.prog f = true) (ha : Nat.ble args.size fn.ntmps = true)
  (H : WR fn.ntmps k c (envOf args.toList) [] h fun e ρ D h => (e = .nx ∨ e = .rt) ∧ ((D = [] ∧ retK Tryd.prog fn.results.toList [] ρ h R) ∨ ∃ B, D = [{ target := .collected B, args := #[] }] ∧ h[B]? = some (.deferred (some [])) ∧ retK Tryd.prog fn.results.toList [] ρ (h.setIfInBounds B (.deferred none)) R)) : FCall Tryd.prog f args h R := by
 refine FCall.ofCalls hc fun w hw => callsIn_wide.1 (callsIn_of_wp_marks (n := k) hf hb trivial ?_ rfl)
 subst hw
 have ha' : args.size ≤ fn.ntmps := by simpa using ha
 have hr : Rel fn.ntmps { tmps := args ++ Array.replicate (fn.ntmps - args.size) undef, defers := [] } (envOf args.toList) := by
  refine ⟨by simp; omega, rfl, fun t => ?_⟩
  simp only [envOf, Array.getD_eq_getD_getElem?, List.getD_eq_getElem?_getD, Array.getElem?_append, Array.getElem?_toList]
  split
  ·rfl
  ·rw [Array.getElem?_replicate, Array.getElem?_eq_none (by omega)]
   split <;> rfl
 refine wpIn_mono (H _ w rfl ⟨hr, rfl⟩) fun e a1 w1 ⟨ρ2, D, r, s, q⟩ => ?_
 have fin : ((D = [] ∧ retK Tryd.prog fn.results.toList [] ρ2 w1.heap R) ∨ ∃ B, D = [{ target := .collected B, args := #[] }] ∧ w1.heap[B]? = some (.deferred (some [])) ∧ retK Tryd.prog fn.results.toList [] ρ2 (w1.heap.setIfInBounds B (.deferred none)) R) →
   LeavesInM Fence.wide k Tryd.prog fn a1.tmps (fun e w' => ∃ v, e = .returned v ∧ Same w w' ∧ R v w'.heap) a1.defers .returning w1 := by
  rw [r.2]
  rintro (⟨rfl, hret⟩ | ⟨B, rfl, hB, hret⟩)
  ·obtain ⟨v, h1, h2⟩ := results_of r.1.2.2 hret
   exact ⟨v, h1, v, rfl, s, h2⟩
  ·refine ⟨by simp, .inl ⟨_, _, rfl, run_takeDeferred hB, ?_⟩⟩
   obtain ⟨v, h1, h2⟩ := results_of (w := w1.putObj B (.deferred none)) r.1.2.2 hret
   exact ⟨v, h1, v, rfl, ⟨s.1, s.2.1, s.2.2⟩, h2⟩
 cases e with
 | normal => exact fin q.2
 | ret => exact fin q.2
 | exit id => rcases q.1 with h | h <;> cases h
 | _ => exact q.elim
end
end Go.Proofs.YtolcfipmjhjeaaaDoor
namespace Go.Proofs.YtolcfipmjhjeaaaDoor
open Go Go.Crisp
attribute [local irreducible] FCall rowK newK stK iteK vK qK drawK gK joinK loopK mkK appK cpyK nextStrK rangeStrK bsK
theorem c_SplitSeq {h : Heap} {s : List UInt8} {c : UInt8} :
  FCall Tryd.prog F_strings_SplitSeq #[S s, S [c]] h fun r h' => (∃ b1 b2 b3 t1 t2 t3, r = .func (.func 51) #[] #[.pointer (some ⟨b1, 0, none⟩), .pointer (some ⟨b2, 0, none⟩), .pointer (some ⟨b3, 0, none⟩)] ∧
   h'[b1]? = some (.cells #[.string ⟨#[c]⟩] t1 (0, 0)) ∧ h'[b2]? = some (.cells #[.string ⟨⟨s⟩⟩] t2 (0, 0)) ∧ h'[b3]? = some (.cells #[.int .i64 0] t3 (0, 0)) ∧ (b1 ≠ b2 ∧ b3 ≠ b2) ∧ h.size ≤ b1 ∧ h.size ≤ b2 ∧ h.size ≤ b3) ∧ Ext h h' := by
 apply ok_strings_SplitSeq
 unfold sh_strings_SplitSeq
 apply ok_strings_splitSeq
 unfold sh_strings_splitSeq
 refine newK_use fun b2 h2 r2 e2 n2 => ?_
 have l2 := row_lt r2
 refine newK_use fun b1 h1 r1 e1 n1 => ?_
 have l1 := row_lt r1
 refine newK_use fun b3 h3 r3 e3 n3 => ?_
 have s2 := e2.1
 have s1 := e1.1
 exact ⟨⟨b1, b2, b3, _, _, _, rfl, e3.row r1, e3.row (e1.row r2), r3, ⟨by omega, by omega⟩, by omega, by omega, by omega⟩, (e2.trans e1).trans e3⟩
noncomputable abbrev Lc : Code := (Tryd.f41).body.getD .skip
noncomputable abbrev Lrf : Code := cA (cB (cA (cB (cB (cB Lc)))))
theorem p_list0 (ρ : Env) (h : Heap) (Q : Ex → Env → Heap → Prop) : cCode Tryd.prog (cA Lc) .z ρ h Q = Q .nx (up ρ (some 2) (.slice none 0 0)) h := by kernel_rfl
theorem p_list1 (ρ : Env) (h : Heap) (Q : Ex → Env → Heap → Prop) : cCode Tryd.prog (cA (cB Lc)) (.s .z (.s (.s .z .z) .z)) ρ h Q = vK (binV .s .eql (ρ 0) (.string ⟨#[]⟩)) fun v8 =>
  iteK v8 (Q .rt (up (up (up ρ (some 7) (ρ 0)) (some 8) v8) (some 2) (.slice none 0 0)) h) (Q .nx (up (up ρ (some 7) (ρ 0)) (some 8) v8) h) := by kernel_rfl
theorem p_list2 (ρ : Env) (h : Heap) (Q : Ex → Env → Heap → Prop) : cCode Tryd.prog (cA (cB (cB Lc))) .z ρ h Q = newK #[.slice none 0 0] 33 h fun v h2 => Q .nx (up ρ (some 3) v) h2 := by kernel_rfl
theorem p_list3 (ρ : Env) (h : Heap) (Q : Ex → Env → Heap → Prop) : cCode Tryd.prog (cA (cA (cB (cB (cB Lc))))) .z ρ h Q = FCall Tryd.prog F_strings_SplitSeq #[ρ 0, .string ⟨#[44]⟩] h fun v h2 => Q .nx (up (up ρ (some 9) (ρ 0)) (some 10) v) h2 := by kernel_rfl
theorem p_list4 (ρ : Env) (h : Heap) (R : Ex → Heap → Prop) : cCode Tryd.prog (cB Lrf) (.s .z .z) ρ h (fun e _ h => R e h) = FCall Tryd.prog F_strconv_ParseInt #[ρ 4, .int .i64 10, .int .i64 64] h fun v h2 =>
  vK (extV v 0) fun v15 => vK (extV v 1) fun v16 => vK (ldV h2 (ρ 3)) fun v17 => rowK #[.int .i64 0] 2 1 [(0, 1, v15)] h2 fun v19 h3 => appK (.int .i64 0) 2 1 8 v17 v19 h3 fun v20 h4 => stK 1 (ρ 3) v20 h4 fun _ h5 => R .nx h5 := by kernel_rfl
theorem p_list5 (ρ : Env) (h : Heap) (Q : Ex → Env → Heap → Prop) : cCode Tryd.prog (cB (cB (cB (cB Lc)))) (.s .z .z) ρ h Q = vK (ldV h (ρ 3)) fun v => Q .rt (up (up ρ (some 21) v) (some 2) v) h := by kernel_rfl
inductive PL : List (List UInt8) → List Int → Prop
 | nil : PL [] []
 | cons {w : List UInt8} {x : Int} {ws : List (List UInt8)} {l : List Int} : I64 x → (∀ y, I64 y → Lib.itoa y = w → x = y) → PL ws l → PL (w :: ws) (x :: l)
theorem PL.snoc : ∀ {ws : List (List UInt8)} {l : List Int} {w : List UInt8} {x : Int}, PL ws l → I64 x → (∀ y, I64 y → Lib.itoa y = w → x = y) → PL (ws ++ [w]) (l ++ [x])
 | _, _, _, _, .nil, h, k => .cons h k .nil
 | _, _, _, _, .cons h1 h2 p, h, k => .cons h1 h2 (p.snoc h k)
theorem PL.len : ∀ {ws : List (List UInt8)} {l : List Int}, PL ws l → l.length = ws.length
 | _, _, .nil => rfl
 | _, _, .cons _ _ p => by simp [p.len]
theorem PL.i64 : ∀ {ws : List (List UInt8)} {l : List Int}, PL ws l → ∀ n ∈ l, I64 n
 | _, _, .nil, n, h => by simp at h
 | _, _, .cons h _ p, n, hn => by
  rcases List.mem_cons.1 hn with rfl | hn
  ·exact h
  ·exact p.i64 n hn
theorem PL.eq : ∀ {l l' : List Int}, PL (l'.map Lib.itoa) l → (∀ n ∈ l', I64 n) → l = l'
 | [], [], _, _ => rfl
 | [], _ :: _, p, _ => by cases p
 | _ :: _, [], p, _ => by cases p
 | x :: l, y :: l', p, h => by
  cases p with
  | cons h1 h2 p => rw [h2 y (h y (by simp)) rfl, p.eq fun n hn => h n (by simp [hn])]
def listP (h : Heap) (s : List UInt8) : Value → Heap → Prop := fun r h' => (∃ l, Rp.Sl rI (fun k => h.size ≤ k) h' r l ∧ (∀ n ∈ l, I64 n) ∧ l.length ≤ s.length + 1 ∧ ∀ l', (∀ n ∈ l', I64 n) → numsL l' = s → l = l') ∧ Ext h h'
theorem set_fr {h : Heap} {B : Nat} {o : Obj} : Fr (fun k => k = B) h (h.setIfInBounds B o) := ⟨by simp, fun b _ hm => by rw [Array.getElem?_setIfInBounds_ne (Ne.symm hm)]⟩
set_option maxHeartbeats 1000000 in
theorem c_list {h : Heap} (G : GlobR h) {s : List UInt8} (hs : s.length ≤ 100000) : FCall Tryd.prog F_recipe_list #[S s] h (listP h s) := by
 refine WR.fn 5 (fn := Tryd.f41) (c := Lc) Tryd.func41 (by kernel_rfl) (by kernel_rfl) (by kernel_rfl) ?_
 refine WR.seq ?_
 refine WR.plain .z ?_
 rw [p_list0]
 refine WR.seq ?_
 refine WR.plain (.s .z (.s (.s .z .z) .z)) ?_
 rw [p_list1]
 have a0 : (up (envOf (#[S s] : Array Value).toList) (some 2) (.slice none 0 0)) 0 = S s := rfl
 rw [a0, S_nil, binS_eql, vK_some]
 refine iteK_dec (fun h0 => ?_) (fun h0 => ?_)
 ·subst h0
  refine ⟨.inr rfl, .inl ⟨rfl, ?_⟩⟩
  show listP h [] (.slice none 0 0) h
  refine ⟨⟨[], Rp.Sl.nil, by simp, by simp, fun l' _ h1 => (numsL_nil.1 h1).symm⟩, Ext.refl _⟩
 show WR _ 5 (cB (cB Lc)) _ [] h _
 refine WR.seq ?_
 refine WR.plain .z ?_
 rw [p_list2]
 refine newK_use fun bv h1 rv e1 n1 => ?_
 have lv := row_lt rv
 show WR _ 5 (cB (cB (cB Lc))) _ [] h1 _
 refine WR.seq ?_
 show WR _ 5 (cA (cB (cB (cB Lc)))) _ [] h1 _
 refine WR.seq ?_
 refine WR.plain .z ?_
 rw [p_list3]
 refine FCall.mono (c_SplitSeq (s := s) (c := 44)) fun g h2 ⟨⟨b1, b2, b3, t1, t2, t3, hg, r1, r2, r3, ne, n21, n22, n23⟩, e2⟩ => ?_
 subst hg
 show WR _ 5 (cB (cA (cB (cB (cB Lc))))) _ [] h2 _
 have l1 := row_lt r1
 have l2 := row_lt r2
 have l3 := row_lt r3
 have e12 := e1.trans e2
 have s1 := e1.1
 have s2 := e2.1
 refine WR.split (an := .s .z .z) (b1 := b1) (b2 := b2) (b3 := b3) (ch := 44) (s := s) (g := .tmp 10) (p := 11) (t := 4) (id0 := 0) (ida := 5) (o := { dst := some 4, op := .assign (.tmp 11), type := 9, pos := "recipe.go:107", after := #[], guard := none }) (body := cB Lrf)
  rfl r1 r2 r3 ne (by omega)
  (fun pre h3 => ∃ (v : Value) (l : List Int) (t : TypeId), h3[bv]? = some (.cells #[v] t (0, 0)) ∧ Rp.Ow rI (fun _ => False) h3 v l ∧ PL pre l ∧ (∀ k, blk v k → h.size ≤ k ∧ k ≠ bv ∧ k ≠ b1 ∧ k ≠ b2 ∧ k ≠ b3 ∧ k ≠ h2.size ∧ k ≠ h2.size + 1) ∧ Ext h h3)
  (fun _ => False) ?_ (fun _ _ _ h => h) ?_ ?_ ?_ (fun _ h => h.elim) (by kernel_rfl) ⟨rfl, rfl, rfl⟩ (by kernel_rfl) (by kernel_rfl) (by kernel_rfl) (by kernel_rfl) (by omega)
 ·rintro pre h3 h4 ⟨z, f⟩ ⟨v, l, t, q1, q2, q3, q4, q5⟩
  have F : Fr (fun k => k = b2 ∨ k = h2.size ∨ k = h2.size + 1) h3 h4 := ⟨z, fun b hb hm => f b (fun h => hm (.inl h)) (fun h => hm (.inr (.inl h))) (fun h => hm (.inr (.inr h))) hb⟩
  refine ⟨v, l, t, F.row q1 (by omega), q2.fr F (fun _ _ h => h.elim) (fun k hk hm => ?_), q3, q4, q5.then_fr F fun k hk => by omega⟩
  have := q4 k hk
  omega
 ·exact ⟨.slice none 0 0, [], _, e2.row rv, Rp.Ow.nil, .nil, fun k hk => hk.elim, e12⟩
 ·rintro pre x h3 ⟨post, hpost⟩ ⟨v, l, t, q1, q2, q3, q4, q5⟩ hz
  rw [p_list4]
  have x4 : ∀ ρ : Env, (up (up ρ (some 11) (.string ⟨⟨x⟩⟩)) (some 4) (.string ⟨⟨x⟩⟩)) 4 = S x := fun ρ => rfl
  have hmem : x ∈ splitL 44 s := by rw [hpost]; simp
  have hxl := splitL_mem_len 44 s x hmem
  have hll : l.length + 1 ≤ s.length + 1 := by
   have h1 := splitL_len 44 s
   rw [hpost] at h1
   rw [q3.len]
   simp at h1; omega
  rw [x4]
  refine (c_ParseInt (G.ext q5) (s := x) (by omega)).mono fun r h4 ⟨⟨y, u, hr, hy1, hy2⟩, e4⟩ => ?_
  subst hr
  have q1' := e4.row q1
  have p3 : ∀ (ρ : Env) (u1 u2 u3 u4 : Value), (up (up (up (up (up ρ (some 3) (.pointer (some ⟨bv, 0, none⟩))) (some 9) u1) (some 10) u2) (some 11) u3) (some 4) u4) 3 = .pointer (some ⟨bv, 0, none⟩) := fun _ _ _ _ _ => rfl
  rw [p3]
  have q6 : cellOf h4 ⟨bv, 0, none⟩ = some v := by rw [cell_row q1']; rfl
  simp only [go_sem, q6]
  refine Rp.push_ow1 (e := rI) rfl (x := y) (q2.ext e4) rfl rfl (by omega) (by omega) (fun b hb => hb.elim) fun s' h5 o5 f5 n5 => ?_
  have lb : bv < h4.size := row_lt q1'
  have q1'' : h5[bv]? = some (.cells #[v] t (0, 0)) := f5.row q1' fun hb => (q4 bv hb).2.1 rfl
  refine st_cell q1'' (by simp) o5.one fun h6 r6 u6 => ?_
  have s4 := e4.1
  have s5 := f5.1
  have n5' : ∀ k, blk s' k → h.size ≤ k ∧ k ≠ bv ∧ k ≠ b1 ∧ k ≠ b2 ∧ k ≠ b3 ∧ k ≠ h2.size ∧ k ≠ h2.size + 1 := fun k hk => by
   rcases n5 k hk with h7 | h7
   ·exact q4 k h7
   ·have := q5.1
    have := row_lt q1
    refine ⟨by omega, by omega, by omega, by omega, by omega, by omega, by omega⟩
  refine ⟨fun k hk => ?_, s', l ++ [y], t, r6, o5.fr u6.fr (fun _ _ h => h.elim) (fun k hk hm => (n5' k hk).2.1 hm), q3.snoc hy1 hy2, n5', (((q5.trans e4).then_fr f5 fun k hk => (q4 k hk).1)).upd n1 u6⟩
  have hk3 : k < h3.size := by omega
  have hkv : ¬ blk v k := fun hb => by have := q4 k hb; omega
  rw [u6.2 k (by omega), f5.2 k (by omega) hkv, e4.2 k hk3]
 ·rintro h3 ⟨v, l, t, q1, q2, q3, q4, q5⟩ hd
  show WR _ 5 (cB (cB (cB (cB Lc)))) _ _ h3 _
  refine WR.plain (.s .z .z) ?_
  rw [p_list5]
  have q6 : cellOf h3 ⟨bv, 0, none⟩ = some v := by rw [cell_row q1]; rfl
  have p3 : ∀ (ρ : Env) (u1 u2 : Value), (up (up (up ρ (some 3) (.pointer (some ⟨bv, 0, none⟩))) (some 9) u1) (some 10) u2) 3 = .pointer (some ⟨bv, 0, none⟩) := fun _ _ _ => rfl
  rw [p3, ldV_ptr, q6, vK_some]
  refine ⟨.inr rfl, .inr ⟨_, rfl, hd, ?_⟩⟩
  show listP h s v (h3.setIfInBounds h2.size (.deferred none))
  refine ⟨⟨l, ((q2.fr set_fr (fun _ _ h => h.elim) fun k hk hm => (q4 k hk).2.2.2.2.2.1 hm).sl).mono fun k _ hk => ?_, q3.i64, ?_, fun l' hl he => ?_⟩, q5.then_fr set_fr fun k hk => by omega⟩
  ·rcases hk with hk | hk
   ·exact hk.elim
   ·exact (q4 k hk).1
  ·rw [q3.len]; exact splitL_len 44 s
  ·by_cases hl' : l' = []
   ·subst hl'; exact absurd he.symm h0
   ·rw [← he, split_nums hl'] at q3
    exact q3.eq hl
theorem kRune_inj {a b : Int} (ha : 0 ≤ a ∧ a ≤ 3) (hb : 0 ≤ b ∧ b ≤ 3) (h : kRune a = kRune b) : a = b := by
 have h1 : a = 0 ∨ a = 1 ∨ a = 2 ∨ a = 3 := by omega
 have h2 : b = 0 ∨ b = 1 ∨ b = 2 ∨ b = 3 := by omega
 rcases h1 with rfl | rfl | rfl | rfl <;> rcases h2 with rfl | rfl | rfl | rfl <;> first | rfl | (exfalso; revert h; decide)
def readP (h : Heap) (s : List UInt8) : Value → Heap → Prop := fun r h' => (∃ ds o b, r = .tuple #[.agg (List.toArray ds), .bool b] ∧ rOp.R (fun k => h.size ≤ k) h' ds o ∧ (b = true → Good s o) ∧ ∀ o', Good s o' → b = true) ∧ Ext h h'
set_option maxHeartbeats 4000000 in
theorem c_read {h : Heap} (G : GlobR h) {s : List UInt8} (hs : s.length ≤ 60000) : FCall Tryd.prog F_recipe_read #[S s] h (readP h s) := by
 apply ok_recipe_read
 unfold sh_recipe_read
 refine newK_use fun b1 h1 r1 e1 n1 => ?_
 have l1 := row_lt r1
 have s1 := e1.1
 have hdl := decGo_len s
 refine (c_Decode (G.ext e1) (s := s)).mono fun r h2 ⟨hr, e2⟩ => ?_
 subst hr
 simp only [go_sem]
 refine c_kind.mono fun r h3 ⟨⟨k, is, hr, hk64, hk⟩, e3⟩ => ?_
 subst hr
 simp only [go_sem]
 rw [sls_from hdl, vK_some]
 have e13 := (e1.trans e2).trans e3
 have hrl : (s.drop (Lib.decodeGo ⟨⟨s⟩⟩).2).length ≤ s.length := by simp
 have hcl := cut_len (s.drop (Lib.decodeGo ⟨⟨s⟩⟩).2) [124]
 refine (c_Cut (G.ext e13) (s := s.drop (Lib.decodeGo ⟨⟨s⟩⟩).2) (t := [124]) (by omega)).mono fun r h4 ⟨hr, e4⟩ => ?_
 subst hr
 obtain ⟨body, nm, bar, hc⟩ : ∃ a b f, Lib.cut (s.drop (Lib.decodeGo ⟨⟨s⟩⟩).2) [124] = (a, b, f) := ⟨_, _, _, rfl⟩
 rw [hc] at hcl ⊢
 simp only at hcl
 simp only [go_sem]
 have e14 := e13.trans e4
 refine (c_named (G.ext e14).toGlobB (s := nm)).mono fun r h5 ⟨⟨b, has, hr, hb64, hb⟩, hh⟩ => ?_
 subst hr hh
 simp only [go_sem]
 have gk : ∀ o', Good s o' → is = true ∧ bar = true ∧ has = true ∧ o'.kind = k ∧ o'.border = b ∧ bodyL o' = body := by
  intro o' g
  have hw := g.word
  rw [word_of g.ok, List.append_assoc, List.append_assoc] at hw
  have hkk := g.ok.1
  have hbb := g.ok.2.1
  obtain ⟨d1, d2⟩ := decGo_sign hkk (bodyL o' ++ ([124] ++ bName o'.border))
  rw [hw] at d1 d2
  have hdrop : s.drop (Lib.decodeGo ⟨⟨s⟩⟩).2 = bodyL o' ++ [124] ++ bName o'.border := by
   rw [d2, ← hw]; simp
  have hcut := cut_hit (a := bodyL o') (b := bName o'.border) (c := 124) (t := []) (body_not (by decide) (by decide) (by decide) (by decide) (by decide) (by decide) o')
  rw [← hdrop, hc] at hcut
  obtain ⟨c1, c2⟩ := Prod.mk.inj hcut
  obtain ⟨c3, c4⟩ := Prod.mk.inj c2
  rcases hk with ⟨k1, k2, k3, k4⟩ | ⟨k1, k2⟩
  ·rcases hb with ⟨b1, b2, b3, b4⟩ | ⟨b1, b2⟩
   ·exact ⟨k1, c4, b1, kRune_inj hkk ⟨k2, k3⟩ (by rw [k4, d1]), bName_inj hbb ⟨b2, b3⟩ (by rw [b4, c3]), c1.symm⟩
   ·exact absurd c3.symm (b2 _ hbb.1 hbb.2)
  ·exact absurd d1.symm (k2 _ hkk.1 hkk.2)
 have nilR : ∀ {Z : Nat → Prop} {h : Heap}, Rp.Sl rI Z h (.slice none 0 0) [] := Rp.Sl.nil
 have r1' := (e2.trans (e3.trans e4)).row r1
 have hf0 : fillL #[(.int .i64 0), (.int .i64 0), (.int .i64 0), (.int .i64 0), (.slice none 0 0), (.slice none 0 0), (.int .i64 0), (.int .i64 0), (.int .i64 0)] [] = some (List.toArray zC) := rfl
 have none_ : ((is && bar && has) = false) → vK ((fillL #[(.int .i64 0), (.int .i64 0), (.int .i64 0), (.int .i64 0), (.slice none 0 0), (.slice none 0 0), (.int .i64 0), (.int .i64 0), (.int .i64 0)] []).map .agg) fun v28 =>
   stK 9 (.pointer (some ⟨b1, 0, none⟩)) v28 h5 fun v29 h30 => vK (ldsV 9 h30 (.pointer (some ⟨b1, 0, none⟩))) fun v31 => readP h s (.tuple #[v31, .bool false]) h30 := by
  intro hbad
  rw [hf0, Option.map_some, vK_some]
  refine st_var r1' rfl (opC_one rfl rfl) rfl fun h6 w6 u6 => ?_
  rw [lds_row (l := zC) w6 9 rfl, vK_some]
  refine ⟨⟨zC, zO, false, rfl, ⟨_, _, rfl, nilR, nilR⟩, (fun h => by cases h), fun o' g => ?_⟩, e14.upd n1 u6⟩
  obtain ⟨g1, g2, g3, _⟩ := gk o' g
  rw [g1, g2, g3] at hbad
  cases hbad
 by_cases hall : (is && bar && has) = false
 ·have : (!is || !bar || !has) = true := by revert hall; cases is <;> cases bar <;> cases has <;> decide
  rw [this, iteK_true]
  exact none_ hall
 have hall : (is && bar && has) = true := by revert hall; cases is <;> cases bar <;> cases has <;> decide
 have : (!is || !bar || !has) = false := by revert hall; cases is <;> cases bar <;> cases has <;> decide
 rw [this, iteK_false]
 simp only [Bool.and_eq_true] at hall
 obtain ⟨⟨q1, q2⟩, q3⟩ := hall
 subst q1 q2 q3
 obtain ⟨hk1, hk2⟩ : 0 ≤ k ∧ k ≤ 3 := by
  rcases hk with ⟨_, k1, k2, _⟩ | ⟨k1, _⟩
  ·exact ⟨k1, k2⟩
  ·cases k1
 obtain ⟨hb1, hb2⟩ : 0 ≤ b ∧ b ≤ 2 := by
  rcases hb with ⟨_, k1, k2, _⟩ | ⟨k1, _⟩
  ·exact ⟨k1, k2⟩
  ·cases k1
 have hf1 : fillL #[(.int .i64 0), (.int .i64 0), (.int .i64 0), (.int .i64 0), (.slice none 0 0), (.slice none 0 0), (.int .i64 0), (.int .i64 0), (.int .i64 0)] [(0, 1, (.int .i64 k)), (1, 1, (.int .i64 b))] = some (List.toArray (opC k b 0 0 (.slice none 0 0) (.slice none 0 0) 0 0 0)) := rfl
 rw [hf1, Option.map_some, vK_some]
 refine var_new (cs := opC k b 0 0 (.slice none 0 0) (.slice none 0 0) 0 0 0) rfl (opC_one rfl rfl) rfl fun bo h6 ro e6 n6 => ?_
 have lo := row_lt ro
 have s14 := e14.1
 have d1 : b1 ≠ bo := by have := row_lt r1'; omega
 have r1'' := e6.row r1'
 have e16 := e14.trans e6
 have hcbl := cut_len body [195, 151]
 refine (c_Cut (G.ext e16) (s := body) (t := [195, 151]) (by omega)).mono fun r h7 ⟨hr, e7⟩ => ?_
 subst hr
 obtain ⟨lf, rg, both, hcB⟩ : ∃ a b f, Lib.cut body [195, 151] = (a, b, f) := ⟨_, _, _, rfl⟩
 rw [hcB] at hcbl ⊢
 simp only at hcbl
 simp only [go_sem]
 have e17 := e16.trans e7
 have ro7 := e7.row ro
 have r17 := e7.row r1''
 have lo7 := row_lt ro7
 have l17 := row_lt r17
 have G7 := G.ext e17
 refine joinK_intro (fun xs h' => ∃ (t : TypeId) (ds : List Value) (o : OpD), h'[bo]? = some (.cells ds.toArray t (0, 0)) ∧ rOp.R (fun k => h.size ≤ k ∧ k ≠ b1 ∧ k ≠ bo) h' ds o ∧ Ext h h' ∧ (∃ t1 old, h'[b1]? = some (.cells old t1 (0, 0)) ∧ old.size = 9) ∧ o.Wf ∧ cleanD o = o ∧ o.x.length ≤ 100000 ∧ o.y.length ≤ 100000 ∧ ∀ o', Good s o' → o = o') ?_ ?_
 ·have hb64 : I64 b := hb64
  have hkk : k = 0 ∨ k = 1 ∨ k = 2 ∨ k = 3 := by omega
  have z10 : ((1 : Int) = 0) = False := eq_false (by decide)
  have z20 : ((2 : Int) = 0) = False := eq_false (by decide)
  have z21 : ((2 : Int) = 1) = False := eq_false (by decide)
  have z30 : ((3 : Int) = 0) = False := eq_false (by decide)
  have z31 : ((3 : Int) = 1) = False := eq_false (by decide)
  have z32 : ((3 : Int) = 2) = False := eq_false (by decide)
  rcases hkk with rfl | rfl | rfl | rfl
  ·simp only [go_sem]
   refine (c_one G7 (s := body) (by omega)).mono fun r h8 ⟨⟨v, hr, hv, hv2⟩, e8⟩ => ?_
   subst hr
   try simp only [go_sem]
   refine st_cell (e8.row ro7) (by simp [opC]) rfl fun h9 r9 u9 => ?_
   refine ⟨_, opC 0 b v 0 (.slice none 0 0) (.slice none 0 0) 0 0 0, op0 b v, r9, ⟨_, _, rfl, nilR, nilR⟩, (e17.trans e8).upd (by omega) u9, ⟨_, _, u9.row d1 (e8.row r17), rfl⟩, ⟨ik k00, hb64, hv, i0, i0, i0, i0, by simp [op0], by simp [op0]⟩, rfl, Nat.zero_le _, Nat.zero_le _, fun o' g => ?_⟩
   obtain ⟨_, _, _, g1, g2, g3⟩ := gk o' g
   rcases g.form with ⟨_, f1, f2⟩ | ⟨f1, _⟩ | ⟨f1, _⟩ | ⟨f1, _⟩
   ·rw [f1, g2, hv2 _ g.wf.sigma (by rw [← f2, g3])]
   ·omega
   ·omega
   ·omega
  ·simp only [go_sem, z10]
   refine (c_one G7 (s := body) (by omega)).mono fun r h8 ⟨⟨v, hr, hv, hv2⟩, e8⟩ => ?_
   subst hr
   try simp only [go_sem]
   refine st_cell (e8.row ro7) (by simp [opC]) rfl fun h9 r9 u9 => ?_
   refine ⟨_, opC 1 b 0 v (.slice none 0 0) (.slice none 0 0) 0 0 0, op1 b v, r9, ⟨_, _, rfl, nilR, nilR⟩, (e17.trans e8).upd (by omega) u9, ⟨_, _, u9.row d1 (e8.row r17), rfl⟩, ⟨ik k01, hb64, i0, hv, i0, i0, i0, by simp [op1], by simp [op1]⟩, rfl, Nat.zero_le _, Nat.zero_le _, fun o' g => ?_⟩
   obtain ⟨_, _, _, g1, g2, g3⟩ := gk o' g
   rcases g.form with ⟨f1, _⟩ | ⟨_, f1, f2⟩ | ⟨f1, _⟩ | ⟨f1, _⟩
   ·omega
   ·rw [f1, g2, hv2 _ g.wf.radius (by rw [← f2, g3])]
   ·omega
   ·omega
  ·simp only [go_sem, z20, z21]
   refine (c_list G7 (s := lf) (by omega)).mono fun vx h8 ⟨⟨x, Sx, hx, hxl, hx2⟩, e8⟩ => ?_
   refine (c_list (G7.ext e8) (s := rg) (by omega)).mono fun vy h9 ⟨⟨y, Sy, hy, hyl, hy2⟩, e9⟩ => ?_
   try simp only [go_sem]
   have s8 := e8.1
   have s9 := e9.1
   have s17 := e17.1
   refine st_cell ((e8.trans e9).row ro7) (by simp [opC]) Sx.one fun h10 r10 u10 => ?_
   try simp only [go_sem]
   refine st_cell r10 (by simp [opC]) Sy.one fun h11 r11 u11 => ?_
   have U := u10.trans u11
   refine ⟨_, opC 2 b 0 0 vx vy 0 0 0, op2 b x y, r11, ⟨_, _, rfl, ?_, ?_⟩, ((e17.trans e8).trans e9).upd (by omega) U, ⟨_, _, U.row d1 ((e8.trans e9).row r17), rfl⟩, ⟨ik k02, hb64, i0, i0, i0, i0, i0, hx, hy⟩, rfl, ?_, ?_, fun o' g => ?_⟩
   ·exact ((Sx.ext e9).fr (M := fun k => k = bo) U.fr fun k _ hk => by omega).mono fun k _ hk => ⟨by omega, by omega, by omega⟩
   ·exact (Sy.fr (M := fun k => k = bo) U.fr fun k _ hk => by omega).mono fun k _ hk => ⟨by omega, by omega, by omega⟩
   ·simp only [op2]; omega
   ·simp only [op2]; omega
   obtain ⟨_, _, _, g1, g2, g3⟩ := gk o' g
   rcases g.form with ⟨f1, _⟩ | ⟨f1, _⟩ | ⟨_, f1, f2⟩ | ⟨f1, _⟩
   ·omega
   ·omega
   ·have h14 := cut_hit (a := numsL o'.x) (b := numsL o'.y) (c := 195) (t := [151]) (nums_times _)
    rw [← f2, g3, hcB] at h14
    obtain ⟨h16, h17⟩ := Prod.mk.inj h14
    obtain ⟨h18, _⟩ := Prod.mk.inj h17
    rw [f1, g2, hx2 _ g.wf.x h16.symm, hy2 _ g.wf.y h18.symm]
   ·omega
  ·simp only [go_sem, z30, z31, z32]
   have hcrl := cut_len rg [44]
   refine (c_Cut G7 (s := rg) (t := [44]) (by omega)).mono fun r h8 ⟨hr, e8⟩ => ?_
   subst hr
   obtain ⟨ht, fl, comma, hcR⟩ : ∃ a b f, Lib.cut rg [44] = (a, b, f) := ⟨_, _, _, rfl⟩
   rw [hcR] at hcrl ⊢
   simp only at hcrl
   simp only [go_sem]
   have G8 := G7.ext e8
   refine (c_one G8 (s := lf) (by omega)).mono fun r h9 ⟨⟨v, hr, hv, hv2⟩, e9⟩ => ?_
   subst hr
   refine (c_one (G8.ext e9) (s := ht) (by omega)).mono fun r h10 ⟨⟨u, hr, hu, hu2⟩, e10⟩ => ?_
   subst hr
   refine (c_filter ((G8.ext e9).ext e10).toGlobB (s := fl)).mono fun r h11 ⟨⟨f, hr, hf, hf2⟩, hh⟩ => ?_
   subst hr hh
   try simp only [go_sem]
   have e810 := (e8.trans e9).trans e10
   refine st_cell (e810.row ro7) (by simp [opC]) rfl fun h12 r12 u12 => ?_
   try simp only [go_sem]
   refine st_cell r12 (by simp [opC]) rfl fun h13 r13 u13 => ?_
   try simp only [go_sem]
   refine st_cell r13 (by simp [opC]) rfl fun h14 r14 u14 => ?_
   have U := (u12.trans u13).trans u14
   refine ⟨_, opC 3 b 0 0 (.slice none 0 0) (.slice none 0 0) f v u, op3 b f v u, r14, ⟨_, _, rfl, nilR, nilR⟩, (e17.trans e810).upd (by omega) U, ⟨_, _, U.row d1 (e810.row r17), rfl⟩, ⟨ik k03, hb64, i0, i0, hf, hv, hu, by simp [op3], by simp [op3]⟩, rfl, Nat.zero_le _, Nat.zero_le _, fun o' g => ?_⟩
   obtain ⟨_, _, _, g1, g2, g3⟩ := gk o' g
   rcases g.form with ⟨f1, _⟩ | ⟨f1, _⟩ | ⟨f1, _⟩ | ⟨k3, f1, f2⟩
   ·omega
   ·omega
   ·omega
   ·have h14 := cut_hit (a := Lib.itoa o'.w) (b := Lib.itoa o'.hh ++ [44] ++ fName o'.filter) (c := 195) (t := [151]) (itoa_times _)
    rw [show Lib.itoa o'.w ++ [195, 151] ++ (Lib.itoa o'.hh ++ [44] ++ fName o'.filter) = bodyL o' by rw [f2]; simp, g3, hcB] at h14
    obtain ⟨h16, h17⟩ := Prod.mk.inj h14
    obtain ⟨h18, h19⟩ := Prod.mk.inj h17
    have h24 := cut_hit (a := Lib.itoa o'.hh) (b := fName o'.filter) (c := 44) (t := []) (comma_not _)
    rw [← h18, hcR] at h24
    obtain ⟨h26, h27⟩ := Prod.mk.inj h24
    obtain ⟨h28, h29⟩ := Prod.mk.inj h27
    have hfo := g.ok.2.2 k3
    have hff : f = o'.filter := by
     rcases hf2 with ⟨p1, p2, p3⟩ | p1
     ·exact fName_inj ⟨p1, p2⟩ hfo (by rw [p3, h28])
     ·exact absurd h28.symm (p1 _ hfo.1 hfo.2)
    rw [f1, g2, hff, hv2 _ g.wf.w h16.symm, hu2 _ g.wf.hh h26.symm]
 rintro xs ρj h8 ⟨t, ds, o, r8, R8, e8, ⟨t1, old, w8, ho⟩, wf, cl, lx, ly, hgo⟩
 have hds : ds.length = 9 := rOp.len R8
 rw [lds_row r8 9 hds, vK_some]
 refine (c_Word (G.ext e8).toGlobH R8 wf (by omega) (by omega)).mono fun r h9 ⟨hr, e9⟩ => ?_
 subst hr
 simp only [go_sem]
 rw [lds_row (e9.row r8) 9 hds, vK_some]
 have fin : ∀ bb : Bool, (bb = true ↔ (o.ok ∧ wordL o = s)) → stK 9 (.pointer (some ⟨b1, 0, none⟩)) (.agg ds.toArray) h9 fun v29 h30 => vK (ldsV 9 h30 (.pointer (some ⟨b1, 0, none⟩))) fun v31 => readP h s (.tuple #[v31, .bool bb]) h30 := by
  intro bb hbb
  refine st_var (e9.row w8) (hds.trans ho.symm) (rOp.one R8) hds fun h10 w10 u10 => ?_
  rw [lds_row w10 9 hds, vK_some]
  refine ⟨⟨ds, o, bb, rfl, rOp.mono (rOp.fr (M := fun k => k = b1) (rOp.ext R8 e9) u10.fr fun k _ hk => hk.2.1) fun k _ hk => hk.1, fun h => ?_, fun o' g => ?_⟩, (e8.trans e9).upd n1 u10⟩
  ·obtain ⟨g1, g2⟩ := hbb.1 h
   exact ⟨g1, wf, cl, g2⟩
  ·exact hbb.2 ⟨by rw [hgo o' g]; exact g.ok, by rw [hgo o' g]; exact g.word⟩
 refine fin _ ?_
 rw [decide_eq_true_iff]
 refine and_congr ⟨fun h => ?_, fun h => by rw [if_pos h]⟩ Iff.rfl
 by_cases hok : o.ok
 ·exact hok
 ·rw [if_neg hok] at h; omega
noncomputable abbrev Pc : Code := (Tryd.f6).body.getD .skip
noncomputable abbrev Prf : Code := cA (cB (cA (cB (cB Pc))))
abbrev zOp : Array Value := #[(.int .i64 0), (.int .i64 0), (.int .i64 0), (.int .i64 0), (.slice none 0 0), (.slice none 0 0), (.int .i64 0), (.int .i64 0), (.int .i64 0)]
theorem p_par0 (ρ : Env) (h : Heap) (Q : Ex → Env → Heap → Prop) : cCode Tryd.prog (cA Pc) .z ρ h Q = newK #[.slice none 0 0] 23 h fun v2 h2 => newK #[.int .i64 0] 3 h2 fun v3 h3 => newK #[.int .i64 0] 24 h3 fun v4 h4 => Q .nx (up (up (up ρ (some 2) v2) (some 3) v3) (some 4) v4) h4 := by kernel_rfl
theorem p_par1 (ρ : Env) (h : Heap) (Q : Ex → Env → Heap → Prop) : cCode Tryd.prog (cA (cB Pc)) (.s .z (.s (.s .z .z) .z)) ρ h Q = vK (binV .s .eql (ρ 0) (.string ⟨#[]⟩)) fun v9 =>
  iteK v9 (stK 1 (ρ 2) (.slice none 0 0) h fun _ h2 => stK 1 (ρ 3) (.int .i64 0) h2 fun _ h3 => stK 1 (ρ 4) (.int .i64 0) h3 fun _ h4 => Q .rt (up (up ρ (some 8) (ρ 0)) (some 9) v9) h4) (Q .nx (up (up ρ (some 8) (ρ 0)) (some 9) v9) h) := by kernel_rfl
theorem p_par2 (ρ : Env) (h : Heap) (Q : Ex → Env → Heap → Prop) : cCode Tryd.prog (cA (cA (cB (cB Pc)))) .z ρ h Q = FCall Tryd.prog F_strings_SplitSeq #[ρ 0, .string ⟨#[59]⟩] h fun v h2 => Q .nx (up (up ρ (some 10) (ρ 0)) (some 11) v) h2 := by kernel_rfl
theorem p_par3 (ρ : Env) (h : Heap) (R : Ex → Heap → Prop) : cCode Tryd.prog (cB Prf) (.s .z (.s (.s .z (.s (.s .z .z) .z)) .z)) ρ h (fun e _ h => R e h) = FCall Tryd.prog F_recipe_read #[ρ 5] h fun v13 h2 =>
  vK (extV v13 0) fun v16 => vK (extV v13 1) fun v17 => newK zOp 36 h2 fun v6 h3 => stK 9 v6 v16 h3 fun _ h4 => vK (unV .not v17) fun v19 =>
  iteK v19 (vK (ldV h4 (ρ 2)) fun v20 => vK (ldV h4 (ρ 2)) fun v21 => vK (lenslV v21) fun v22 => stK 1 (ρ 2) v20 h4 fun _ h5 => stK 1 (ρ 3) v22 h5 fun _ h6 => stK 1 (ρ 4) (.int .i64 6) h6 fun _ h7 => R .rt h7)
   (vK (ldV h4 (ρ 2)) fun v23 => vK (ldsV 9 h4 v6) fun v24 => rowK zOp 36 1 [(0, 9, v24)] h4 fun v25 h5 => appK (.agg zOp) 36 9 104 v23 v25 h5 fun v26 h6 => stK 1 (ρ 2) v26 h6 fun _ h7 => R .nx h7) := by kernel_rfl
theorem p_par4 (ρ : Env) (h : Heap) (Q : Ex → Env → Heap → Prop) : cCode Tryd.prog (cB (cB (cB Pc))) (.s .z .z) ρ h Q = vK (ldV h (ρ 2)) fun v => stK 1 (ρ 2) v h fun _ h2 => stK 1 (ρ 3) (.int .i64 0) h2 fun _ h3 => stK 1 (ρ 4) (.int .i64 0) h3 fun _ h4 => Q .rt (up ρ (some 27) v) h4 := by kernel_rfl
theorem p_ret (ρ : Env) (h : Heap) (R : Value → Heap → Prop) : retK Tryd.prog (Tryd.f6).results.toList [] ρ h R = vK (ldV h (ρ 2)) fun a => vK (ldV h (ρ 3)) fun b => vK (ldV h (ρ 4)) fun c => R (.tuple #[a, b, c]) h := by kernel_rfl
def progP (h : Heap) (s : List UInt8) : Value → Heap → Prop := fun r h' => (∃ v l b, r = .tuple #[v, .int .i64 (if b = true then ((l.length : Nat) : Int) else 0), .int .i64 (if b = true then 6 else 0)] ∧ Rp.Sl rOp (fun k => h.size ≤ k) h' v l ∧ PR (wordsL s) l b) ∧ Ext h h'
theorem Goods.pre : ∀ {ws : List (List UInt8)} {l : List OpD} {w : List UInt8} {post : List (List UInt8)}, Goods ws l → (∀ o, ¬ Good w o) → PR (ws ++ w :: post) l true
 | _, _, w, post, g, h => by
  have := g.then (PR.bad (w := w) (ws := post) h)
  simpa using this
set_option maxHeartbeats 2000000 in
theorem c_Parse {h : Heap} (G : GlobR h) {s : List UInt8} (hs : s.length ≤ 60000) : FCall Tryd.prog F_recipe_Parse #[S s] h (progP h s) := by
 refine WR.fn 5 (fn := Tryd.f6) (c := Pc) Tryd.func6 (by kernel_rfl) (by kernel_rfl) (by kernel_rfl) ?_
 refine WR.seq ?_
 refine WR.plain .z ?_
 rw [p_par0]
 refine newK_use fun c2 h2 r2 e2 n2 => ?_
 have l2 := row_lt r2
 refine newK_use fun c3 h3 r3 e3 n3 => ?_
 have l3 := row_lt r3
 refine newK_use fun c4 h4 r4 e4 n4 => ?_
 have l4 := row_lt r4
 have s2 := e2.1
 have s3 := e3.1
 have s4 := e4.1
 have r2 := e4.row (e3.row r2)
 have r3 := e4.row r3
 have e04 := (e2.trans e3).trans e4
 refine WR.seq ?_
 refine WR.plain (.s .z (.s (.s .z .z) .z)) ?_
 rw [p_par1]
 generalize hρ : (up (up (up (envOf (#[S s] : Array Value).toList) (some 2) (.pointer (some ⟨c2, 0, none⟩))) (some 3) (.pointer (some ⟨c3, 0, none⟩))) (some 4) (.pointer (some ⟨c4, 0, none⟩))) = ρ0
 have a0 : ρ0 0 = S s := by rw [← hρ]; rfl
 have a2 : ρ0 2 = .pointer (some ⟨c2, 0, none⟩) := by rw [← hρ]; rfl
 have a3 : ρ0 3 = .pointer (some ⟨c3, 0, none⟩) := by rw [← hρ]; rfl
 have a4 : ρ0 4 = .pointer (some ⟨c4, 0, none⟩) := by rw [← hρ]; rfl
 rw [a0, a2, a3, a4, S_nil, binS_eql, vK_some]
 refine iteK_dec (fun h0 => ?_) (fun h0 => ?_)
 ·subst h0
  refine st_cell r2 (by simp) rfl fun h5 r5 u5 => ?_
  refine st_cell (u5.row (by omega) r3) (by simp) rfl fun h6 r6 u6 => ?_
  refine st_cell (u6.row (by omega) (u5.row (by omega) r4)) (by simp) rfl fun h7 r7 u7 => ?_
  have r5' := u7.row (by omega) (u6.row (by omega) r5)
  have r6' := u7.row (by omega) r6
  refine ⟨.inr rfl, .inl ⟨rfl, ?_⟩⟩
  rw [p_ret]
  have b2 : ∀ (u v : Value), (up (up ρ0 (some 8) u) (some 9) v) 2 = .pointer (some ⟨c2, 0, none⟩) := fun _ _ => a2
  have b3 : ∀ (u v : Value), (up (up ρ0 (some 8) u) (some 9) v) 3 = .pointer (some ⟨c3, 0, none⟩) := fun _ _ => a3
  have b4 : ∀ (u v : Value), (up (up ρ0 (some 8) u) (some 9) v) 4 = .pointer (some ⟨c4, 0, none⟩) := fun _ _ => a4
  rw [b2, b3, b4]
  have v2 : cellOf h7 ⟨c2, 0, none⟩ = some (.slice none 0 0) := by rw [cell_row r5']; rfl
  have v3 : cellOf h7 ⟨c3, 0, none⟩ = some (.int .i64 0) := by rw [cell_row r6']; rfl
  have v4 : cellOf h7 ⟨c4, 0, none⟩ = some (.int .i64 0) := by rw [cell_row r7]; rfl
  simp only [ldV_ptr, v2, v3, v4, vK_some]
  refine ⟨⟨.slice none 0 0, [], false, rfl, Rp.Sl.nil, .nil⟩, ((e04.upd n2 u5).upd (by omega) u6).upd (by omega) u7⟩
 have hw : wordsL s = splitL 59 s := if_neg h0
 show WR _ 5 (cB (cB Pc)) _ [] h4 _
 refine WR.seq ?_
 show WR _ 5 (cA (cB (cB Pc))) _ [] h4 _
 refine WR.seq ?_
 refine WR.plain .z ?_
 rw [p_par2]
 have a0' : ∀ (u v : Value), (up (up ρ0 (some 8) u) (some 9) v) 0 = S s := fun _ _ => a0
 rw [a0']
 refine FCall.mono (c_SplitSeq (s := s) (c := 59)) fun g h5 ⟨⟨b1, b2, b3, t1, t2, t3, hg, q1, q2, q3, ne, n51, n52, n53⟩, e5⟩ => ?_
 subst hg
 show WR _ 5 (cB (cA (cB (cB Pc)))) _ [] h5 _
 have lb1 := row_lt q1
 have lb2 := row_lt q2
 have lb3 := row_lt q3
 have e05 := e04.trans e5
 have s5 := e5.1
 have r2 := e5.row r2
 have r3 := e5.row r3
 have r4 := e5.row r4
 generalize hρ1 : (up (up (up (up ρ0 (some 8) (S s)) (some 9) (.bool (decide (s = [])))) (some 10) (S s)) (some 11) (.func (.func 51) #[] #[.pointer (some ⟨b1, 0, none⟩), .pointer (some ⟨b2, 0, none⟩), .pointer (some ⟨b3, 0, none⟩)])) = ρ1
 have g11 : ρ1 11 = .func (.func 51) #[] #[.pointer (some ⟨b1, 0, none⟩), .pointer (some ⟨b2, 0, none⟩), .pointer (some ⟨b3, 0, none⟩)] := by rw [← hρ1]; rfl
 have g2 : ρ1 2 = .pointer (some ⟨c2, 0, none⟩) := by rw [← hρ1]; exact a2
 have g3 : ρ1 3 = .pointer (some ⟨c3, 0, none⟩) := by rw [← hρ1]; exact a3
 have g4 : ρ1 4 = .pointer (some ⟨c4, 0, none⟩) := by rw [← hρ1]; exact a4
 refine WR.split (an := .s .z (.s (.s .z (.s (.s .z .z) .z)) .z)) (b1 := b1) (b2 := b2) (b3 := b3) (ch := 59) (s := s) (g := .tmp 11) (p := 12) (t := 5) (id0 := 0) (ida := 4) (o := { dst := some 5, op := .assign (.tmp 12), type := 9, pos := "recipe.go:161", after := #[], guard := none }) (body := cB Prf)
  g11 q1 q2 q3 ne (by omega)
  (fun pre h6 => ∃ (v : Value) (l : List OpD) (Z : Nat → Prop) (u2 u3 u4 : TypeId), (h6[c2]? = some (.cells #[v] u2 (0, 0)) ∧ h6[c3]? = some (.cells #[.int .i64 0] u3 (0, 0)) ∧ h6[c4]? = some (.cells #[.int .i64 0] u4 (0, 0))) ∧ Rp.Ow rOp Z h6 v l ∧ (∀ k, Z k → k < h6.size) ∧
   (∀ k, Z k ∨ blk v k → h.size ≤ k ∧ (k ≠ c2 ∧ k ≠ c3 ∧ k ≠ c4) ∧ (k ≠ b1 ∧ k ≠ b2 ∧ k ≠ b3) ∧ k ≠ h5.size ∧ k ≠ h5.size + 1) ∧ Goods pre l ∧ Ext h h6)
  (fun h6 => ∃ (v : Value) (l : List OpD) (Z : Nat → Prop) (u2 u3 u4 : TypeId), (h6[c2]? = some (.cells #[v] u2 (0, 0)) ∧ h6[c3]? = some (.cells #[.int .i64 (l.length : Nat)] u3 (0, 0)) ∧ h6[c4]? = some (.cells #[.int .i64 6] u4 (0, 0))) ∧ Rp.Ow rOp Z h6 v l ∧
   (∀ k, Z k ∨ blk v k → h.size ≤ k ∧ (k ≠ c2 ∧ k ≠ c3 ∧ k ≠ c4) ∧ (k ≠ b1 ∧ k ≠ b2 ∧ k ≠ b3) ∧ k ≠ h5.size ∧ k ≠ h5.size + 1) ∧ PR (wordsL s) l true ∧ Ext h h6) ?_ ?_ ?_ ?_ ?_ ?_ (by kernel_rfl) ⟨rfl, rfl, rfl⟩ (by kernel_rfl) (by kernel_rfl) (by kernel_rfl) (by kernel_rfl) (by omega)
 ·rintro pre h6 h7 ⟨z, f⟩ ⟨v, l, Z, u2, u3, u4, ⟨w2, w3, w4⟩, O, hZ, hK, hg, e6⟩
  have F : Fr (fun k => k = b2 ∨ k = h5.size ∨ k = h5.size + 1) h6 h7 := ⟨z, fun b hb hm => f b (fun h => hm (.inl h)) (fun h => hm (.inr (.inl h))) (fun h => hm (.inr (.inr h))) hb⟩
  refine ⟨v, l, Z, u2, u3, u4, ⟨F.row w2 (by omega), F.row w3 (by omega), F.row w4 (by omega)⟩, O.fr F (fun k _ hk hm => ?_) (fun k hk hm => ?_), fun k hk => Nat.lt_of_lt_of_le (hZ k hk) z, hK, hg, e6.then_fr F fun k hk => by omega⟩
  ·have := hK k (.inl hk); omega
  ·have := hK k (.inr hk); omega
 ·rintro h6 h7 ⟨z, f⟩ ⟨v, l, Z, u2, u3, u4, ⟨w2, w3, w4⟩, O, hK, hg, e6⟩
  have F : Fr (fun k => k = b2 ∨ k = h5.size ∨ k = h5.size + 1) h6 h7 := ⟨z, fun b hb hm => f b (fun h => hm (.inl h)) (fun h => hm (.inr (.inl h))) (fun h => hm (.inr (.inr h))) hb⟩
  refine ⟨v, l, Z, u2, u3, u4, ⟨F.row w2 (by omega), F.row w3 (by omega), F.row w4 (by omega)⟩, O.fr F (fun k _ hk hm => ?_) (fun k hk hm => ?_), hK, hg, e6.then_fr F fun k hk => by omega⟩
  ·have := hK k (.inl hk); omega
  ·have := hK k (.inr hk); omega
 ·exact ⟨.slice none 0 0, [], fun _ => False, _, _, _, ⟨r2, r3, r4⟩, Rp.Ow.nil, fun k hk => hk.elim, fun k hk => hk.elim (fun h => h.elim) fun h => h.elim, .nil, e05⟩
 ·rintro pre x h6 ⟨post, hpost⟩ ⟨v, l, Z, u2, u3, u4, ⟨w2, w3, w4⟩, O, hZ, hK, hg, e6⟩ hz
  rw [p_par3]
  have x5 : ∀ ρ : Env, (up (up ρ (some 12) (.string ⟨⟨x⟩⟩)) (some 5) (.string ⟨⟨x⟩⟩)) 5 = S x := fun ρ => rfl
  have x2 : (up (up ρ1 (some 12) (.string ⟨⟨x⟩⟩)) (some 5) (.string ⟨⟨x⟩⟩)) 2 = .pointer (some ⟨c2, 0, none⟩) := g2
  have x3 : (up (up ρ1 (some 12) (.string ⟨⟨x⟩⟩)) (some 5) (.string ⟨⟨x⟩⟩)) 3 = .pointer (some ⟨c3, 0, none⟩) := g3
  have x4 : (up (up ρ1 (some 12) (.string ⟨⟨x⟩⟩)) (some 5) (.string ⟨⟨x⟩⟩)) 4 = .pointer (some ⟨c4, 0, none⟩) := g4
  have hmem : x ∈ splitL 59 s := by rw [hpost]; simp
  have hxl := splitL_mem_len 59 s x hmem
  have hll : l.length + 1 ≤ s.length + 1 := by
   have h1 := splitL_len 59 s
   rw [hpost] at h1
   rw [hg.len]
   simp at h1; omega
  rw [x5, x2, x3, x4]
  refine (c_read (G.ext e6) (s := x) (by omega)).mono fun r h7 ⟨⟨ds, o, ok, hr, R7, ho1, ho2⟩, e7⟩ => ?_
  subst hr
  simp only [go_sem]
  have hdl : ds.length = 9 := rOp.len R7
  refine var_new hdl (rOp.one R7) hdl fun b8 h8 r8 e8 n8 => ?_
  have e78 := e7.trans e8
  have w2 := e78.row w2
  have w3 := e78.row w3
  have w4 := e78.row w4
  have lw2 := row_lt w2
  have lw3 := row_lt w3
  have lw4 := row_lt w4
  have s7 := e7.1
  have s8 := e8.1
  have s6 := e6.1
  have k2 : cellOf h8 ⟨c2, 0, none⟩ = some v := by rw [cell_row w2]; rfl
  have keep : ∀ h9 : Heap, Fr (fun k => k = c2 ∨ k = c3 ∨ k = c4 ∨ blk v k) h8 h9 → KeepH b1 b2 b3 h5.size h6 h9 := fun h9 f9 k hk => by
   have hk6 : k < h6.size := by omega
   have hkv : ¬ blk v k := fun hb => by have := hK k (.inr hb); omega
   rw [f9.2 k (by omega) (by rintro (h | h | h | h) <;> first | omega | exact hkv h), e78.2 k hk6]
  cases ok with
  | false =>
   simp only [Bool.not_false, go_sem, k2]
   obtain ⟨sa, scap, rfl⟩ := O.isSl
   simp only [go_sem]
   refine st_cell w2 (by simp) rfl fun h9 r9 u9 => ?_
   refine st_cell (u9.row (by omega) w3) (by simp) rfl fun h10 r10 u10 => ?_
   refine st_cell (u10.row (by omega) (u9.row (by omega) w4)) (by simp) rfl fun h11 r11 u11 => ?_
   have F : Fr (fun k => k = c2 ∨ k = c3 ∨ k = c4) h8 h11 := ((u9.fr.mono fun k _ hk => .inl hk).trans (u10.fr.mono fun k _ hk => .inr (.inl hk))).trans (u11.fr.mono fun k _ hk => .inr (.inr hk))
   refine ⟨keep h11 (F.mono fun k _ hk => by rcases hk with h | h | h <;> simp [h]), _, l, Z, _, _, _, ⟨u11.row (by omega) (u10.row (by omega) r9), u11.row (by omega) r10, r11⟩, (O.ext e78).fr F (fun k _ hk hm => ?_) (fun k hk hm => ?_), hK, ?_, (e6.trans e78).then_fr F fun k hk => by omega⟩
   ·have := hK k (.inl hk); omega
   ·have := hK k (.inr hk); omega
   ·rw [hw, hpost]
    exact hg.pre fun o' g => by have := ho2 o' g; cases this
  | true =>
   have gO := ho1 rfl
   simp only [Bool.not_true, go_sem, k2]
   rw [lds_row r8 9 hdl, vK_some]
   have hR' : rOp.R (fun k => Z k ∨ (h6.size ≤ k ∧ k < h7.size)) h8 ds o := rOp.ext (rOp.mono R7 fun k hk hz => .inr ⟨hz, hk⟩) e8
   have O' : Rp.Ow rOp (fun k => Z k ∨ (h6.size ≤ k ∧ k < h7.size)) h8 v l := (O.ext e78).mono (fun k hk hz => .inl hz) fun k hk hz => by
    rcases hz with hz | hz
    ·obtain ⟨_, _, hno, _⟩ := O
     exact hno k hk hz
    ·have := O.lt hk; omega
   refine Rp.push_ow (e := rOp) (x := o) O' hR' rfl rfl (by omega) (by omega) (fun k hk => ?_) fun s' h9 o9 f9 n9 => ?_
   ·rcases hk with hk | hk
    ·have := hZ k hk; omega
    ·omega
   have s9 := f9.1
   have w2' := f9.row w2 fun hb => (hK c2 (.inr hb)).2.1.1 rfl
   have w3' := f9.row w3 fun hb => (hK c3 (.inr hb)).2.1.2.1 rfl
   have w4' := f9.row w4 fun hb => (hK c4 (.inr hb)).2.1.2.2 rfl
   refine st_cell w2' (by simp) o9.one fun h10 r10 u10 => ?_
   have z10 := u10.1
   have lz2 := row_lt w2'
   have hK' : ∀ k, (Z k ∨ (h6.size ≤ k ∧ k < h7.size)) ∨ blk s' k → h.size ≤ k ∧ (k ≠ c2 ∧ k ≠ c3 ∧ k ≠ c4) ∧ (k ≠ b1 ∧ k ≠ b2 ∧ k ≠ b3) ∧ k ≠ h5.size ∧ k ≠ h5.size + 1 := fun k hk => by
    have far : h6.size ≤ k → h.size ≤ k ∧ (k ≠ c2 ∧ k ≠ c3 ∧ k ≠ c4) ∧ (k ≠ b1 ∧ k ≠ b2 ∧ k ≠ b3) ∧ k ≠ h5.size ∧ k ≠ h5.size + 1 := fun hk => ⟨by omega, ⟨by omega, by omega, by omega⟩, ⟨by omega, by omega, by omega⟩, by omega, by omega⟩
    rcases hk with (hk | hk) | hk
    ·exact hK k (.inl hk)
    ·exact far hk.1
    ·rcases n9 k hk with h11 | h11
     ·exact hK k (.inr h11)
     ·exact far (by omega)
   refine ⟨keep h10 ((f9.mono fun k _ hk => .inr (.inr (.inr hk))).trans (u10.fr.mono fun k _ hk => .inl hk)), s', l ++ [o], _, _, _, _, ⟨r10, u10.row (by omega) w3', u10.row (by omega) w4'⟩, o9.fr u10.fr (fun k _ hk hm => ?_) (fun k hk hm => ?_), fun k hk => ?_, hK', hg.snoc gO, (((e6.trans e78).then_fr f9 fun k hk => (hK k (.inr hk)).1)).upd n2 u10⟩
   ·have := hK' k (.inl hk); omega
   ·have := hK' k (.inr hk); omega
   ·rcases hk with hk | hk
    ·have := hZ k hk; omega
    ·omega
 ·rintro h6 ⟨v, l, Z, u2, u3, u4, ⟨w2, w3, w4⟩, O, hZ, hK, hg, e6⟩ hd
  show WR _ 5 (cB (cB (cB Pc))) _ _ h6 _
  refine WR.plain (.s .z .z) ?_
  rw [p_par4, g2, g3, g4]
  have k2 : cellOf h6 ⟨c2, 0, none⟩ = some v := by rw [cell_row w2]; rfl
  rw [ldV_ptr, k2, vK_some]
  refine st_cell w2 (by simp) O.one fun h9 r9 u9 => ?_
  refine st_cell (u9.row (by omega) w3) (by simp) rfl fun h10 r10 u10 => ?_
  refine st_cell (u10.row (by omega) (u9.row (by omega) w4)) (by simp) rfl fun h11 r11 u11 => ?_
  have F : Fr (fun k => k = c2 ∨ k = c3 ∨ k = c4) h6 h11 := ((u9.fr.mono fun k _ hk => .inl hk).trans (u10.fr.mono fun k _ hk => .inr (.inl hk))).trans (u11.fr.mono fun k _ hk => .inr (.inr hk))
  refine ⟨.inr rfl, .inr ⟨_, rfl, F.row hd (by omega), ?_⟩⟩
  have F2 : Fr (fun k => k = c2 ∨ k = c3 ∨ k = c4 ∨ k = h5.size) h6 (h11.setIfInBounds h5.size (.deferred none)) := (F.mono fun k _ hk => by rcases hk with h | h | h <;> simp [h]).trans (set_fr.mono fun k _ hk => .inr (.inr (.inr hk)))
  have w2' : (h11.setIfInBounds h5.size (.deferred none))[c2]? = some (.cells #[v] u2 (0, 0)) := set_fr.row (u11.row (by omega) (u10.row (by omega) r9)) (by omega)
  have w3' : (h11.setIfInBounds h5.size (.deferred none))[c3]? = some (.cells #[.int .i64 0] u3 (0, 0)) := set_fr.row (u11.row (by omega) r10) (by omega)
  have w4' : (h11.setIfInBounds h5.size (.deferred none))[c4]? = some (.cells #[.int .i64 0] u4 (0, 0)) := set_fr.row r11 (by omega)
  rw [p_ret]
  have b2' : ∀ (u : Value), (up ρ1 (some 27) u) 2 = .pointer (some ⟨c2, 0, none⟩) := fun _ => g2
  have b3' : ∀ (u : Value), (up ρ1 (some 27) u) 3 = .pointer (some ⟨c3, 0, none⟩) := fun _ => g3
  have b4' : ∀ (u : Value), (up ρ1 (some 27) u) 4 = .pointer (some ⟨c4, 0, none⟩) := fun _ => g4
  have v2 : cellOf (h11.setIfInBounds h5.size (.deferred none)) ⟨c2, 0, none⟩ = some v := by rw [cell_row w2']; rfl
  have v3 : cellOf (h11.setIfInBounds h5.size (.deferred none)) ⟨c3, 0, none⟩ = some (.int .i64 0) := by rw [cell_row w3']; rfl
  have v4 : cellOf (h11.setIfInBounds h5.size (.deferred none)) ⟨c4, 0, none⟩ = some (.int .i64 0) := by rw [cell_row w4']; rfl
  rw [b2', b3', b4']
  simp only [ldV_ptr, v2, v3, v4, vK_some]
  refine ⟨⟨v, l, false, rfl, (O.fr F2 (fun k _ hk hm => ?_) (fun k hk hm => ?_)).sl.mono fun k _ hk => (hK k hk).1, by rw [hw]; exact hg.pr⟩, e6.then_fr F2 fun k hk => by omega⟩
  ·have := hK k (.inl hk); omega
  ·have := hK k (.inr hk); omega
 ·rintro h6 ⟨v, l, Z, u2, u3, u4, ⟨w2, w3, w4⟩, O, hK, hg, e6⟩ hd
  refine ⟨.inr rfl, .inr ⟨_, rfl, hd, ?_⟩⟩
  have w2' := (set_fr (h := h6) (B := h5.size) (o := .deferred none)).row w2 (by omega)
  have w3' := (set_fr (h := h6) (B := h5.size) (o := .deferred none)).row w3 (by omega)
  have w4' := (set_fr (h := h6) (B := h5.size) (o := .deferred none)).row w4 (by omega)
  have v2 : cellOf (h6.setIfInBounds h5.size (.deferred none)) ⟨c2, 0, none⟩ = some v := by rw [cell_row w2']; rfl
  have v3 : cellOf (h6.setIfInBounds h5.size (.deferred none)) ⟨c3, 0, none⟩ = some (.int .i64 (l.length : Nat)) := by rw [cell_row w3']; rfl
  have v4 : cellOf (h6.setIfInBounds h5.size (.deferred none)) ⟨c4, 0, none⟩ = some (.int .i64 6) := by rw [cell_row w4']; rfl
  rw [p_ret, g2, g3, g4]
  simp only [ldV_ptr, v2, v3, v4, vK_some]
  refine ⟨⟨v, l, true, rfl, (O.fr set_fr (fun k _ hk hm => ?_) (fun k hk hm => ?_)).sl.mono fun k _ hk => (hK k hk).1, hg⟩, e6.then_fr set_fr fun k hk => by omega⟩
  ·have := hK k (.inl hk); omega
  ·have := hK k (.inr hk); omega
theorem rI_cell {Z : Nat → Prop} {h : Heap} {v : Value} {l : List Int} (H : Rp.Sl rI Z h v l) {i : Nat} (hi : i < l.length) :
  ∃ p, idxV 1 v (.int .i64 (i : Int)) = some p ∧ ldV h p = some (.int .i64 l[i]) := by
 obtain ⟨p, c, hp, hc, hR⟩ := H.at1 rfl (k := .i64) hi
 have hR : [c] = [.int .i64 l[i]] := hR
 obtain rfl : c = .int .i64 l[i] := by simpa using hR
 exact ⟨p, hp, hc⟩
theorem c_Same06 {h : Heap} {Z Z' : Nat → Prop} {v u : Value} {l : List Int} (H : Rp.Sl rI Z h v l) (K : Rp.Sl rI Z' h u l) (hl : l.length ≤ 4398046511104) :
  FCall Tryd.prog F_ref06_Same #[v, u] h fun r h' => r = .bool true ∧ h' = h := by
 apply ok_ref06_Same
 unfold sh_ref06_Same
 have H0 := H
 have K0 := K
 obtain ⟨a, c, rfl⟩ := H.isSl
 obtain ⟨a', c', rfl⟩ := K.isSl
 simp only [go_sem]
 refine loop_count l.length (fun i h2 => i ≤ l.length ∧ h2 = h) ⟨by omega, rfl⟩ ?_
 rintro i _ again ρj ⟨hi, rfl⟩ hag
 simp only [go_sem]
 refine iteK_dec (fun h1 => ?_) (fun h1 => ?_)
 ·have hi' : i < l.length := by omega
  obtain ⟨p, hp, hc⟩ := rI_cell H0 hi'
  obtain ⟨q, hq, hd⟩ := rI_cell K0 hi'
  simp only [go_sem, hp, hc, hq, hd]
  rw [w64 (by omega) (by omega)]
  exact hag _ hi' ⟨by omega, rfl⟩
 ·exact ⟨trivial, trivial⟩
theorem c_Ref {h : Heap} {Z : Nat → Prop} {cs : List Value} {o : OpD} (H : rOp.R Z h cs o) :
  FCall Tryd.prog F_law12_Ref #[.agg cs.toArray] h fun r h' => r = .agg cs.toArray ∧ rOp.R Z h' cs o ∧ Ext h h' := by
 apply ok_law12_Ref
 unfold sh_law12_Ref
 have H0 := H
 obtain ⟨s, t, rfl, Hx, Hy⟩ := H
 have os := Hx.one
 have ot := Hy.one
 simp only [cells_agg]
 refine newK_use fun b1 h1 r1 e1 n1 => newK_use fun b2 h2 r2 e2 n2 => ?_
 have r1 := e2.row r1
 have e := e1.trans e2
 have s1 := e1.1
 simp only [go_sem, cell_row r1]
 have hf : fillL #[(.int .i64 0), (.int .i64 0), (.int .i64 0), (.int .i64 0), (.slice none 0 0), (.slice none 0 0), (.int .i64 0), (.int .i64 0), (.int .i64 0)]
   [(0, 1, (.int .i64 o.kind)), (1, 1, (.int .i64 o.border)), (2, 1, (.int .i64 o.sigma)), (3, 1, (.int .i64 o.radius)), (4, 1, s), (5, 1, t), (6, 1, (.int .i64 o.filter)), (7, 1, (.int .i64 o.w)), (8, 1, (.int .i64 o.hh))] =
   some #[.int .i64 o.kind, .int .i64 o.border, .int .i64 o.sigma, .int .i64 o.radius, s, t, .int .i64 o.filter, .int .i64 o.w, .int .i64 o.hh] := by
  simp [fillL, cells_one os, cells_one ot, cells_one (show oneCell (.int _ _) = true from rfl)]
 rw [hf, Option.map_some, vK_some]
 refine st_var (l := [.int .i64 o.kind, .int .i64 o.border, .int .i64 o.sigma, .int .i64 o.radius, s, t, .int .i64 o.filter, .int .i64 o.w, .int .i64 o.hh]) r2 rfl (rOp.one H0) rfl fun h3 r3 u3 => ?_
 rw [lds_row r3 9 rfl, vK_some]
 exact ⟨rfl, rOp.ext H0 (e.upd (by omega) u3), e.upd (by omega) u3⟩
theorem c_Same {h : Heap} {Z Z' : Nat → Prop} {cs ds : List Value} {o : OpD} (H : rOp.R Z h cs o) (K : rOp.R Z' h ds o) (hx : o.x.length ≤ 1000000) (hy : o.y.length ≤ 1000000) :
  FCall Tryd.prog F_law13_Same #[.agg cs.toArray, .agg ds.toArray] h fun r h' => r = .bool true ∧ Ext h h' := by
 apply ok_law13_Same
 unfold sh_law13_Same
 obtain ⟨s, t, rfl, Hx, Hy⟩ := H
 obtain ⟨s', t', rfl, Kx, Ky⟩ := K
 simp only [cells_agg]
 refine newK_use fun b1 h1 r1 e1 n1 => newK_use fun b2 h2 r2 e2 n2 => ?_
 have r1 := e2.row r1
 have e := e1.trans e2
 simp only [go_sem, cell_row r1, cell_row r2]
 refine (c_Same06 (Hx.ext e) (Kx.ext e) (by omega)).mono fun v3 h3 ⟨hv3, hh3⟩ => ?_
 have hh3 := hh3.symm
 subst hv3 hh3
 simp only [go_sem, cell_row r1, cell_row r2]
 refine (c_Same06 (Hy.ext e) (Ky.ext e) (by omega)).mono fun v4 h4 ⟨hv4, hh4⟩ => ?_
 have hh4 := hh4.symm
 subst hv4 hh4
 simp only [go_sem]
 exact ⟨trivial, e⟩
theorem PR.words : ∀ {ws : List (List UInt8)} {l : List OpD}, PR ws l false → l.map wordL = ws
 | _, _, .nil => rfl
 | _, _, .cons g p => by rw [List.map_cons, g.word, p.words]
theorem words_join (s : List UInt8) : Lib.join (wordsL s) [59] = s := by
 unfold wordsL
 split
 ·rename_i h; subst h; rfl
 ·exact splitL_join 59 s
theorem PR.print {s : List UInt8} {l : List OpD} (p : PR (wordsL s) l false) : printL l = s := by
 unfold printL
 rw [p.words, words_join]
theorem nums_snoc {l : List Int} (h : l ≠ []) (n : Int) : numsL (l ++ [n]) = numsL l ++ [44] ++ Lib.itoa n := by
 unfold numsL
 rw [List.map_append, join_append _ _ _ (by simpa using h) (by simp)]
 simp [join_one]
theorem c_refList {h : Heap} {Z : Nat → Prop} {v : Value} {l : List Int} (H : Rp.Sl rI Z h v l) (hw : ∀ n ∈ l, I64 n) (hl : l.length ≤ 1000000) :
  FCall Tryd.prog F_ref13_list #[v] h fun r h' => r = S (numsL l) ∧ Ext h h' := by
 apply ok_ref13_list
 unfold sh_ref13_list
 obtain ⟨a, cap, rfl⟩ := H.isSl
 simp only [go_sem]
 refine loopK_var (fun d xs h2 => ∃ i : Nat, i ≤ l.length ∧ d = l.length - i ∧ xs = [S (numsL (l.take i)), .int .i64 (i : Int)] ∧ Ext h h2) l.length
  ⟨0, by omega, by omega, rfl, Ext.refl _⟩ ?_
 rintro d _ ρj h2 again ⟨i, hi, rfl, rfl, e⟩ hag
 simp only [go_sem]
 refine iteK_dec (fun h1 => ?_) (fun h1 => ?_)
 ·have hi' : i < l.length := by omega
  obtain ⟨p, c, hp, hc, hR⟩ := (H.ext e).at1 rfl (k := .i64) hi'
  have hR : [c] = [.int .i64 l[i]] := hR
  obtain rfl : c = .int .i64 l[i] := by simpa using hR
  simp only [go_sem, hp, hc]
  have hx := hw l[i] (List.getElem_mem hi')
  have hxl := itoa_le hx
  have ht : l.take (i + 1) = l.take i ++ [l[i]] := List.take_succ_eq_append_getElem hi'
  have hnl : (numsL (l.take i)).length ≤ 22 * l.length := by
   have := numsL_length (l := l.take i) fun n hn => hw n (List.mem_of_mem_take hn)
   rw [List.length_take] at this
   omega
  refine iteK_dec (fun h3 => ?_) (fun h3 => ?_)
  ·have hne : l.take i ≠ [] := fun h => by
    rcases List.take_eq_nil_iff.1 h with h | h
    ·omega
    ·subst h; simp at hi'
   rw [binS_add (by simp; omega), vK_some]
   refine (c_decimal hx).mono fun r h3 ⟨hr, e3⟩ => ?_
   subst hr
   rw [binS_add (by simp; omega), vK_some]
   try simp only [go_sem]
   rw [w64 (by omega) (by omega)]
   refine hag _ _ (l.length - (i + 1)) (by omega) ⟨i + 1, by omega, rfl, ?_, e.trans e3⟩
   rw [ht, nums_snoc hne]
   rfl
  ·refine (c_decimal hx).mono fun r h3 ⟨hr, e3⟩ => ?_
   subst hr
   rw [binS_add (by omega), vK_some]
   try simp only [go_sem]
   rw [w64 (by omega) (by omega)]
   refine hag _ _ (l.length - (i + 1)) (by omega) ⟨i + 1, by omega, rfl, ?_, e.trans e3⟩
   have : i = 0 := by omega
   subst this
   rw [ht]
   simp [numsL, join_one, Lib.join_nil]
 ·have : i = l.length := by omega
  subst this
  rw [List.take_length]
  exact ⟨rfl, e⟩
set_option maxHeartbeats 2000000 in
theorem c_refWord {h : Heap} {Z : Nat → Prop} {cs : List Value} {o : OpD} (H : rOp.R Z h cs o) (hw : o.Wf) (hx : o.x.length ≤ 100000) (hy : o.y.length ≤ 100000) :
  FCall Tryd.prog F_ref13_Word #[.agg cs.toArray] h fun r h' => r = .tuple #[S (wordL o), .bool (decide o.ok)] ∧ Ext h h' := by
 apply ok_ref13_Word
 unfold sh_ref13_Word
 obtain ⟨s, t, rfl, Hx, Hy⟩ := H
 simp only [cells_agg]
 refine newK_use fun b1 h1 r1 e1 n1 => ?_
 have c0 : ∀ {h' : Heap}, Ext h1 h' → cellOf h' ⟨b1, 0, none⟩ = some (.int .i64 o.kind) := fun e => by rw [cell_row (e.row r1)]; rfl
 have c1 : ∀ {h' : Heap}, Ext h1 h' → cellOf h' ⟨b1, 0 + 1, none⟩ = some (.int .i64 o.border) := fun e => by rw [cell_row (e.row r1)]; rfl
 have c2 : ∀ {h' : Heap}, Ext h1 h' → cellOf h' ⟨b1, 0 + 2, none⟩ = some (.int .i64 o.sigma) := fun e => by rw [cell_row (e.row r1)]; rfl
 have c3 : ∀ {h' : Heap}, Ext h1 h' → cellOf h' ⟨b1, 0 + 3, none⟩ = some (.int .i64 o.radius) := fun e => by rw [cell_row (e.row r1)]; rfl
 have c4 : ∀ {h' : Heap}, Ext h1 h' → cellOf h' ⟨b1, 0 + 4, none⟩ = some s := fun e => by rw [cell_row (e.row r1)]; rfl
 have c5 : ∀ {h' : Heap}, Ext h1 h' → cellOf h' ⟨b1, 0 + 5, none⟩ = some t := fun e => by rw [cell_row (e.row r1)]; rfl
 have c6 : ∀ {h' : Heap}, Ext h1 h' → cellOf h' ⟨b1, 0 + 6, none⟩ = some (.int .i64 o.filter) := fun e => by rw [cell_row (e.row r1)]; rfl
 have c7 : ∀ {h' : Heap}, Ext h1 h' → cellOf h' ⟨b1, 0 + 7, none⟩ = some (.int .i64 o.w) := fun e => by rw [cell_row (e.row r1)]; rfl
 have c8 : ∀ {h' : Heap}, Ext h1 h' → cellOf h' ⟨b1, 0 + 8, none⟩ = some (.int .i64 o.hh) := fun e => by rw [cell_row (e.row r1)]; rfl
 have bad : ∀ h', Ext h h' → ¬ o.ok → (.tuple #[S [], .bool false] : Value) = .tuple #[S (wordL o), .bool (decide o.ok)] ∧ Ext h h' := fun h' e hk => by
  refine ⟨?_, e⟩
  unfold wordL
  rw [if_neg hk, decide_eq_false hk]
 rw [fldV_0, vK_some, ldV_ptr, c0 (Ext.refl _), vK_some]
 refine c_refSign.mono fun r h2 ⟨hr, hh⟩ => ?_
 subst hr hh
 simp only [S_nil, binS_eql, vK_some]
 by_cases hk : kSign o.kind = []
 ·rw [decide_eq_true hk]
  simp only [go_sem]
  exact bad _ e1 fun hok => (kSign_nil _).1 hk hok.1
 rw [decide_eq_false hk]
 have hk3 : 0 ≤ o.kind ∧ o.kind ≤ 3 := by
  by_cases h4 : 0 ≤ o.kind ∧ o.kind ≤ 3
  ·exact h4
  ·exact absurd ((kSign_nil _).2 h4) hk
 simp only [go_sem, c1 (Ext.refl _), show cellOf h2 ⟨b1, 1, none⟩ = some (.int .i64 o.border) from c1 (Ext.refl _)]
 refine c_refBorder.mono fun r h3 ⟨hr, hh⟩ => ?_
 subst hr hh
 simp only [go_sem, binS_eql]
 refine iteK_dec (fun hb => ?_) (fun hb => ?_)
 ·exact bad _ e1 fun hok => (bName_nil _).1 hb hok.2.1
 have hb2 : 0 ≤ o.border ∧ o.border ≤ 2 := by
  by_cases h4 : 0 ≤ o.border ∧ o.border ≤ 2
  ·exact h4
  ·exact absurd ((bName_nil _).2 h4) hb
 have k0 : cellOf h3 ⟨b1, 0, none⟩ = some (.int .i64 o.kind) := c0 (Ext.refl _)
 have ksl : (kSign o.kind).length ≤ 3 := kSign_le _
 have bl := bName_le o.border
 rw [k0, vK_some]
 refine joinK_intro (fun xs h' => xs = [S (bodyL o)] ∧ Ext h3 h' ∧ o.ok) ?_ ?_
 ·have ok3 : (o.kind = 3 → 0 ≤ o.filter ∧ o.filter ≤ 2) → o.ok := fun hf => ⟨hk3, hb2, hf⟩
  have hkk : o.kind = 0 ∨ o.kind = 1 ∨ o.kind = 2 ∨ o.kind = 3 := by omega
  have d2 : ∀ {h' : Heap}, Ext h3 h' → cellOf h' ⟨b1, 2, none⟩ = some (.int .i64 o.sigma) := fun e => by rw [cell_row (e.row r1)]; rfl
  have d3 : ∀ {h' : Heap}, Ext h3 h' → cellOf h' ⟨b1, 3, none⟩ = some (.int .i64 o.radius) := fun e => by rw [cell_row (e.row r1)]; rfl
  have d4 : ∀ {h' : Heap}, Ext h3 h' → cellOf h' ⟨b1, 4, none⟩ = some s := fun e => by rw [cell_row (e.row r1)]; rfl
  have d5 : ∀ {h' : Heap}, Ext h3 h' → cellOf h' ⟨b1, 5, none⟩ = some t := fun e => by rw [cell_row (e.row r1)]; rfl
  have d6 : ∀ {h' : Heap}, Ext h3 h' → cellOf h' ⟨b1, 6, none⟩ = some (.int .i64 o.filter) := fun e => by rw [cell_row (e.row r1)]; rfl
  have d7 : ∀ {h' : Heap}, Ext h3 h' → cellOf h' ⟨b1, 7, none⟩ = some (.int .i64 o.w) := fun e => by rw [cell_row (e.row r1)]; rfl
  have d8 : ∀ {h' : Heap}, Ext h3 h' → cellOf h' ⟨b1, 8, none⟩ = some (.int .i64 o.hh) := fun e => by rw [cell_row (e.row r1)]; rfl
  rcases hkk with hk | hk | hk | hk <;> rw [hk]
  ·simp only [go_sem, d2 (Ext.refl _)]
   refine (c_decimal hw.sigma).mono fun r h4 ⟨hr, e4⟩ => ?_
   subst hr
   refine ⟨?_, e4, ok3 fun h => by omega⟩
   unfold bodyL; rw [if_pos hk]
  ·simp only [go_sem, d3 (Ext.refl _), show ((1 : Int) = 0) = False from eq_false (by decide)]
   refine (c_decimal hw.radius).mono fun r h4 ⟨hr, e4⟩ => ?_
   subst hr
   refine ⟨?_, e4, ok3 fun h => by omega⟩
   unfold bodyL; rw [if_neg (by omega), if_pos hk]
  ·simp only [go_sem, show ((2 : Int) = 0) = False from eq_false (by decide), show ((2 : Int) = 1) = False from eq_false (by decide)]
   refine drawK_ext ?_
   try simp only [go_sem]
   refine qK_val s (fun h' e => d4 e) ?_
   try simp only [go_sem]
   refine qK_val t (fun h' e => d5 e) ?_
   refine (c_refList (Hx.ext e1) hw.x (by omega)).mono fun r h4 ⟨hr, e4⟩ => ⟨e4, ?_⟩
   subst hr
   refine c_times.mono fun r h5 ⟨hr, hh⟩ => ?_
   subst hr hh
   have nx := numsL_length hw.x
   have ny := numsL_length hw.y
   refine ⟨e4, ?_⟩
   rw [binS_add (by simp; omega), vK_some]
   refine (c_refList ((Hy.ext e1).ext e4) hw.y (by omega)).mono fun r h6 ⟨hr, e6⟩ => ⟨e4.trans e6, ?_⟩
   subst hr
   rw [binS_add (by simp; omega), vK_some]
   refine ⟨?_, e4.trans e6, ok3 fun h => by omega⟩
   unfold bodyL; rw [if_neg (by omega), if_neg (by omega), if_pos hk]
  ·simp only [go_sem, d6 (Ext.refl _), show ((3 : Int) = 0) = False from eq_false (by decide), show ((3 : Int) = 1) = False from eq_false (by decide), show ((3 : Int) = 2) = False from eq_false (by decide)]
   refine c_refFilter.mono fun r h4 ⟨hr, hh⟩ => ?_
   subst hr hh
   simp only [binS_eql, vK_some]
   refine iteK_dec (fun hf => ?_) (fun hf => ?_)
   ·exact bad _ e1 fun hok => (fName_nil _).1 hf (hok.2.2 hk)
   have hf2 : 0 ≤ o.filter ∧ o.filter ≤ 2 := by
    by_cases h4 : 0 ≤ o.filter ∧ o.filter ≤ 2
    ·exact h4
    ·exact absurd ((fName_nil _).2 h4) hf
   have fl : (fName o.filter).length ≤ 7 := by unfold fName; split <;> (try split) <;> (try split) <;> simp
   have wl := itoa_le hw.w
   have hl := itoa_le hw.hh
   refine drawK_ext ?_
   try simp only [go_sem]
   refine qK_val (.int .i64 o.w) (fun h' e => d7 e) ?_
   try simp only [go_sem]
   refine qK_val (.int .i64 o.hh) (fun h' e => d8 e) ?_
   try simp only [go_sem]
   refine qK_val (.int .i64 o.filter) (fun h' e => d6 e) ?_
   refine (c_decimal hw.w).mono fun r h5 ⟨hr, e5⟩ => ⟨e5, ?_⟩
   subst hr
   refine c_times.mono fun r h6 ⟨hr, hh⟩ => ?_
   subst hr hh
   refine ⟨e5, ?_⟩
   rw [binS_add (by simp; omega), vK_some]
   refine (c_decimal hw.hh).mono fun r h7 ⟨hr, e7⟩ => ⟨e5.trans e7, ?_⟩
   subst hr
   rw [binS_add (by simp; omega), vK_some, binS_add (by simp; omega), vK_some]
   refine c_refFilter.mono fun r h8 ⟨hr, hh⟩ => ?_
   subst hr hh
   refine ⟨e5.trans e7, ?_⟩
   rw [binS_add (by simp; omega), vK_some]
   refine ⟨?_, e5.trans e7, ok3 fun _ => hf2⟩
   unfold bodyL; rw [if_neg (by omega), if_neg (by omega), if_neg (by omega), if_pos hk]
 rintro _ ρj h4 ⟨rfl, e4, hok⟩
 have bdl := bodyL_length hw
 refine drawK_ext ?_
 try simp only [go_sem]
 refine qK_val (.int .i64 o.kind) (fun h' e => c0 (e4.trans e)) ?_
 try simp only [go_sem]
 refine qK_val (.int .i64 o.border) (fun h' e => c1 (e4.trans e)) ?_
 refine c_refSign.mono fun r h5 ⟨hr, hh⟩ => ?_
 subst hr hh
 refine ⟨Ext.refl _, ?_⟩
 try simp only [go_sem]
 rw [binS_add (by omega), vK_some, binS_add (by simp; omega), vK_some]
 refine c_refBorder.mono fun r h6 ⟨hr, hh⟩ => ?_
 subst hr hh
 refine ⟨Ext.refl _, ?_⟩
 rw [binS_add (by simp; omega), vK_some, decide_eq_true hok, word_of hok]
 exact ⟨rfl, e1.trans e4⟩
set_option maxHeartbeats 2000000 in
theorem c_refClean {h : Heap} {Z : Nat → Prop} {cs : List Value} {o : OpD} (H : rOp.R Z h cs o) :
  FCall Tryd.prog F_ref13_Clean #[.agg cs.toArray] h fun r h' => ∃ ds, r = .agg (List.toArray ds) ∧ rOp.R (fun k => Z k ∧ k < h.size) h' ds (cleanD o) ∧ Ext h h' := by
 apply ok_ref13_Clean
 unfold sh_ref13_Clean
 have H0 := rOp.mono (Z' := fun k => Z k ∧ k < h.size) H fun b hb hz => ⟨hz, hb⟩
 obtain ⟨s, t, rfl, Hx, Hy⟩ := H0
 have os := Hx.one
 have ot := Hy.one
 simp only [cells_agg]
 refine newK_use fun b1 h1 r1 e1 n1 => ?_
 have l1 := row_lt r1
 refine newK_use fun b3 h3 r3 e3 n3 => ?_
 have l3 := row_lt r3
 have r1 := e3.row r1
 have s1 := e1.1
 have s3 := e3.1
 simp only [go_sem, cell_row r1]
 have hf : fillL #[(.int .i64 0), (.int .i64 0), (.int .i64 0), (.int .i64 0), (.slice none 0 0), (.slice none 0 0), (.int .i64 0), (.int .i64 0), (.int .i64 0)] [(0, 1, (.int .i64 o.kind)), (1, 1, (.int .i64 o.border))] = some (List.toArray (opC o.kind o.border 0 0 (.slice none 0 0) (.slice none 0 0) 0 0 0)) := rfl
 rw [hf, Option.map_some, vK_some]
 refine var_new (cs := opC o.kind o.border 0 0 (.slice none 0 0) (.slice none 0 0) 0 0 0) rfl (opC_one rfl rfl) rfl fun bo h4 ro e4 n4 => ?_
 have lo := row_lt ro
 have r1 := e4.row r1
 have r3 := e4.row r3
 have e14 := (e1.trans e3).trans e4
 have d1 : b1 ≠ bo := by omega
 have d3 : b3 ≠ bo := by omega
 have nbo : ∀ i : Nat, i = bo → h.size ≤ i := fun i hi => by omega
 have C : ∀ {h' : Heap} {n : Nat}, Fr (fun k => k = bo) h4 h' → cellOf h' ⟨b1, n, none⟩ = #[.int .i64 o.kind, .int .i64 o.border, .int .i64 o.sigma, .int .i64 o.radius, s, t, .int .i64 o.filter, .int .i64 o.w, .int .i64 o.hh][n]? := fun f => cell_row (f.row r1 d1)
 refine joinK_intro (fun xs h' => h'[bo]? = some (.cells (opC o.kind o.border (cleanD o).sigma 0 (.slice none 0 0) (.slice none 0 0) 0 0 0).toArray 38 (0, 0)) ∧ Fr (fun k => k = bo) h4 h') ?_ ?_
 ·rw [C (Fr.refl _ _)]
  simp only [go_sem]
  by_cases hk : o.kind = 0
  ·rw [decide_eq_true hk, iteK_true, C (Fr.refl _ _)]
   simp only [go_sem]
   refine st_cell ro (by simp [opC]) rfl fun h5 r5 u5 => ⟨?_, u5.fr⟩
   rw [show (cleanD o).sigma = o.sigma by simp [cleanD, hk]]
   exact r5
  ·rw [decide_eq_false hk, iteK_false]
   rw [show (cleanD o).sigma = 0 by simp [cleanD, hk]]
   exact ⟨ro, Fr.refl _ _⟩
 rintro _ ρ1 h5 ⟨r5, f5⟩
 refine joinK_intro (fun xs h' => h'[bo]? = some (.cells (opC o.kind o.border (cleanD o).sigma (cleanD o).radius (.slice none 0 0) (.slice none 0 0) 0 0 0).toArray 38 (0, 0)) ∧ Fr (fun k => k = bo) h4 h') ?_ ?_
 ·try rw [fldV_0, vK_some, ldV_ptr]
  rw [C f5]
  simp only [go_sem]
  by_cases hk : o.kind = 1
  ·rw [decide_eq_true hk, iteK_true, C f5]
   simp only [go_sem]
   refine st_cell r5 (by simp [opC]) rfl fun h6 r6 u6 => ⟨?_, f5.trans u6.fr⟩
   rw [show (cleanD o).radius = o.radius by simp [cleanD, hk]]
   exact r6
  ·rw [decide_eq_false hk, iteK_false]
   rw [show (cleanD o).radius = 0 by simp [cleanD, hk]]
   exact ⟨r5, f5⟩
 rintro _ ρ2 h6 ⟨r6, f6⟩
 refine joinK_intro (fun xs h' => ∃ s' t' : Value, h'[bo]? = some (.cells (opC o.kind o.border (cleanD o).sigma (cleanD o).radius s' t' 0 0 0).toArray 38 (0, 0)) ∧ Fr (fun k => k = bo) h4 h' ∧ oneCell s' = true ∧ oneCell t' = true ∧ Rp.Sl rI (fun k => Z k ∧ k < h.size) h s' (cleanD o).x ∧ Rp.Sl rI (fun k => Z k ∧ k < h.size) h t' (cleanD o).y) ?_ ?_
 ·try rw [fldV_0, vK_some, ldV_ptr]
  rw [C f6]
  simp only [go_sem]
  by_cases hk : o.kind = 2
  ·rw [decide_eq_true hk, iteK_true, C f6]
   simp only [go_sem]
   refine st_cell r6 (by simp [opC]) os fun h7 r7 u7 => ?_
   have f7 := f6.trans u7.fr
   rw [C f7]
   simp only [go_sem]
   refine st_cell r7 (by simp [opC]) ot fun h8 r8 u8 => ⟨s, t, r8, f7.trans u8.fr, os, ot, ?_, ?_⟩
   ·rw [show (cleanD o).x = o.x by simp [cleanD, hk]]; exact Hx
   ·rw [show (cleanD o).y = o.y by simp [cleanD, hk]]; exact Hy
  ·rw [decide_eq_false hk, iteK_false]
   refine ⟨_, _, r6, f6, rfl, rfl, ?_, ?_⟩
   ·rw [show (cleanD o).x = [] by simp [cleanD, hk]]; exact Rp.Sl.nil
   ·rw [show (cleanD o).y = [] by simp [cleanD, hk]]; exact Rp.Sl.nil
 rintro _ ρ3 h7 ⟨s', t', r7, f7, o1, o2, Hx', Hy'⟩
 have fin : ∀ (h8 : Heap) (f w hh : Int), h8[bo]? = some (.cells (opC o.kind o.border (cleanD o).sigma (cleanD o).radius s' t' f w hh).toArray 38 (0, 0)) → Fr (fun k => k = bo) h4 h8 → f = (cleanD o).filter → w = (cleanD o).w → hh = (cleanD o).hh →
   vK (ldsV 9 h8 (.pointer (some ⟨bo, 0, none⟩))) fun v22 => stK 9 (.pointer (some ⟨b3, 0, none⟩)) v22 h8 fun v23 h24 => vK (ldsV 9 h24 (.pointer (some ⟨b3, 0, none⟩))) fun v25 =>
    ∃ ds, v25 = .agg (List.toArray ds) ∧ rOp.R (fun k => Z k ∧ k < h.size) h24 ds (cleanD o) ∧ Ext h h24 := by
  rintro h8 f w hh r8 f8 rfl rfl rfl
  rw [lds_row (l := opC o.kind o.border (cleanD o).sigma (cleanD o).radius s' t' (cleanD o).filter (cleanD o).w (cleanD o).hh) r8 9 rfl, vK_some]
  refine st_var (f8.row r3 d3) rfl (opC_one o1 o2) rfl fun h9 w9 u9 => ?_
  rw [lds_row (l := opC o.kind o.border (cleanD o).sigma (cleanD o).radius s' t' (cleanD o).filter (cleanD o).w (cleanD o).hh) w9 9 rfl, vK_some]
  have E : Ext h h9 := (e14.then_fr f8 nbo).upd (by omega) u9
  exact ⟨_, rfl, ⟨s', t', rfl, Hx'.ext E, Hy'.ext E⟩, E⟩
 try rw [fldV_0, vK_some, ldV_ptr]
 rw [C f7]
 simp only [go_sem]
 by_cases hk : o.kind = 3
 ·rw [decide_eq_true hk, iteK_true, C f7]
  simp only [go_sem]
  refine st_cell r7 (by simp [opC]) rfl fun h8 r8 u8 => ?_
  have f8 := f7.trans u8.fr
  rw [C f8]
  simp only [go_sem]
  refine st_cell r8 (by simp [opC]) rfl fun h9 r9 u9 => ?_
  have f9 := f8.trans u9.fr
  rw [C f9]
  simp only [go_sem]
  refine st_cell r9 (by simp [opC]) rfl fun h10 r10 u10 => ?_
  exact fin h10 o.filter o.w o.hh r10 (f9.trans u10.fr) (by simp [cleanD, hk]) (by simp [cleanD, hk]) (by simp [cleanD, hk])
 ·rw [decide_eq_false hk, iteK_false]
  exact fin h7 0 0 0 r7 f7 (by simp [cleanD, hk]) (by simp [cleanD, hk]) (by simp [cleanD, hk])
theorem clean_clean (o : OpD) : cleanD (cleanD o) = cleanD o := by
 unfold cleanD
 by_cases h0 : o.kind = 0 <;> by_cases h1 : o.kind = 1 <;> by_cases h2 : o.kind = 2 <;> by_cases h3 : o.kind = 3 <;> simp [h0, h1, h2, h3]
theorem clean_ok {o : OpD} (h : o.ok) : (cleanD o).ok := by
 obtain ⟨h1, h2, h3⟩ := h
 refine ⟨h1, h2, fun hk => ?_⟩
 have hk : o.kind = 3 := hk
 have : (cleanD o).filter = o.filter := by simp [cleanD, hk]
 rw [this]
 exact h3 hk
theorem clean_wf {o : OpD} (h : o.Wf) : (cleanD o).Wf where
 kind := h.kind
 border := h.border
 sigma := by simp only [cleanD]; split <;> first | exact h.sigma | exact i0
 radius := by simp only [cleanD]; split <;> first | exact h.radius | exact i0
 filter := by simp only [cleanD]; split <;> first | exact h.filter | exact i0
 w := by simp only [cleanD]; split <;> first | exact h.w | exact i0
 hh := by simp only [cleanD]; split <;> first | exact h.hh | exact i0
 x := by simp only [cleanD]; split <;> first | exact h.x | simp
 y := by simp only [cleanD]; split <;> first | exact h.y | simp
theorem clean_body (o : OpD) : bodyL (cleanD o) = bodyL o := by
 unfold bodyL cleanD
 by_cases h0 : o.kind = 0
 ·simp [h0]
 by_cases h1 : o.kind = 1
 ·simp [h1]
 by_cases h2 : o.kind = 2
 ·simp [h2]
 by_cases h3 : o.kind = 3
 ·simp [h3]
 simp [h0, h1, h2, h3]
theorem clean_word {o : OpD} (h : o.ok) : wordL (cleanD o) = wordL o := by
 rw [word_of h, word_of (clean_ok h), clean_body]; rfl
theorem clean_good {o : OpD} (h : o.ok) (w : o.Wf) : Good (wordL o) (cleanD o) := ⟨clean_ok h, clean_wf w, clean_clean o, clean_word h⟩
theorem words_print {l : List OpD} (h : allOk l) : wordsL (printL l) = l.map wordL := by
 unfold wordsL
 by_cases h0 : l = []
 ·subst h0; rfl
 ·rw [if_neg fun h1 => h0 ((printL_nil h).1 h1)]
  exact splitL_words _ (by simpa using h0) fun x hx => by
   obtain ⟨o, _, rfl⟩ := List.mem_map.1 hx
   exact word_semi o
theorem pr_print : ∀ {l : List OpD}, allOk l → (∀ o ∈ l, o.Wf) → PR (l.map wordL) (l.map cleanD) false
 | [], _, _ => .nil
 | o :: l, h, w => .cons (clean_good (h o (by simp)) (w o (by simp))) (pr_print (fun o ho => h o (by simp [ho])) fun o ho => w o (by simp [ho]))
theorem print_snoc {l : List OpD} (h : l ≠ []) (o : OpD) : printL (l ++ [o]) = printL l ++ [59] ++ wordL o := by
 rw [printL_append h (by simp)]
 simp [printL, join_one]
theorem allOk_snoc {l : List OpD} {o : OpD} : allOk (l ++ [o]) ↔ allOk l ∧ o.ok := by
 rw [allOk_app]
 exact and_congr Iff.rfl ⟨fun h => h o (by simp), fun h o' ho => by rw [List.mem_singleton.1 ho]; exact h⟩
set_option maxHeartbeats 2000000 in
theorem c_RecipePrints {h : Heap} (G : GlobR h) {v : Value} {l : List OpD} (H : Rp.Sl rOp (fun _ => True) h v l) (wl : ∀ o ∈ l, o.Wf) (hl : l.length ≤ 4398046511104) :
  FCall Tryd.prog F_law13_RecipePrints #[v] h fun r h' => r = .bool true ∧ Ext h h' := by
 apply ok_law13_RecipePrints
 unfold sh_law13_RecipePrints
 refine (c_Lives G.toGlobH).mono fun v1 h1 ⟨hv1, e1⟩ => ?_
 subst hv1
 simp only [go_sem]
 refine (c_few (H.ext e1) hl).mono fun v2 h2 ⟨hv2, e2⟩ => ?_
 subst hv2
 have e12 := e1.trans e2
 by_cases f1 : fewL l
 case neg =>
  simp only [go_sem, f1]
  exact (c_Lives (G.ext e12).toGlobH).mono fun r h3 ⟨hr, e3⟩ => ⟨hr, e12.trans e3⟩
 obtain ⟨fx, fl⟩ := f1
 have sm : Small 60 l := fun o ho => ⟨wl o ho, fx o ho⟩
 have sm1 : Small 1000 l := fun o ho => ⟨wl o ho, by have := (fx o ho).1; omega, by have := (fx o ho).2; omega⟩
 obtain ⟨a, cap, rfl⟩ := H.isSl
 simp only [go_sem, decide_eq_true (show fewL l from ⟨fx, fl⟩)]
 have H2 := H.ext e12
 have plen : ∀ i, (printL (l.take i)).length ≤ 60000 := fun i => by
  have h3 := printL_length (n := 60) (l := l.take i) fun o ho => sm o (List.mem_of_mem_take ho)
  have h4 : (71 + 44 * 60) * (l.take i).length ≤ (71 + 44 * 60) * 20 := Nat.mul_le_mul_left _ (by rw [List.length_take]; omega)
  omega
 refine loopK_var (fun d xs h' => ∃ i : Nat, i ≤ l.length ∧ d = l.length - i ∧ xs = [S (printL (l.take i)), .bool (decide (allOk (l.take i))), .int .i64 (i : Int)] ∧ Ext h2 h') l.length
  ⟨0, by omega, by omega, by simp [printL, Lib.join_nil, allOk], Ext.refl _⟩ ?_
 rintro d _ ρj h3 again ⟨i, hi, rfl, rfl, e3⟩ hag
 simp only [go_sem]
 refine iteK_dec (fun h5 => ?_) (fun h5 => ?_)
 ·have hi' : i < l.length := by omega
  obtain ⟨p, cs, hp, hc, hR⟩ := (H2.ext e3).atw (by decide) (k := .i64) hi'
  have hp : idxV 9 (.slice a l.length cap) (.int .i64 (i : Int)) = some p := hp
  have hc : ldsV 9 h3 p = some (.agg cs.toArray) := hc
  have hcl : cs.length = 9 := rOp.len hR
  have hm := List.getElem_mem hi'
  obtain ⟨wf, hx, hy⟩ := sm _ hm
  rw [hp, vK_some, hc, vK_some]
  refine var_new hcl (rOp.one hR) hcl fun b h4 r4 e4 n4 => ?_
  rw [lds_row r4 9 hcl, vK_some]
  have R4 := rOp.ext hR e4
  refine (c_Ref R4).mono fun r h5 ⟨hr, R5, e5⟩ => ?_
  subst hr
  refine (c_refWord R5 wf (by omega) (by omega)).mono fun r h6 ⟨hr, e6⟩ => ?_
  subst hr
  simp only [go_sem]
  rw [lds_row ((e5.trans e6).row r4) 9 hcl, vK_some]
  have e26 := (e3.trans e4).trans (e5.trans e6)
  refine (c_Word ((G.ext e12).ext e26).toGlobH (rOp.ext R5 e6) wf (by omega) (by omega)).mono fun r h7 ⟨hr, e7⟩ => ?_
  subst hr
  simp only [go_sem]
  have e47 := (e5.trans e6).trans e7
  refine drawK_ext ?_
  have hB : (!decide ((if l[i].ok then (0 : Int) else 6) = 0) == decide l[i].ok || decide (¬l[i].ok ∧ ¬(if l[i].ok then (0 : Int) else 6) = 6)) = false := by
   by_cases hok : l[i].ok <;> simp [hok]
  rw [hB]
  simp only [go_sem]
  refine qK_val (.agg cs.toArray) (fun h' e => lds_row (e.row (e47.row r4)) 9 hcl) ?_
  refine qK_val (.agg cs.toArray) (fun h' e => lds_row (e.row (e47.row r4)) 9 hcl) ?_
  have R7 := rOp.ext (rOp.ext R5 e6) e7
  refine (c_Clean R7 (by omega) (by omega)).mono fun r h8 ⟨ds, hr, R8, e8⟩ => ⟨e8, ?_⟩
  subst hr
  try simp only [go_sem]
  refine (c_Ref (rOp.ext R7 e8)).mono fun r h9 ⟨hr, R9, e9⟩ => ?_
  subst hr
  try simp only [go_sem]
  refine (c_refClean R9).mono fun r h10 ⟨ds2, hr, R10, e10⟩ => ?_
  subst hr
  try simp only [go_sem]
  have hcx : (cleanD l[i]).x.length ≤ 1000000 ∧ (cleanD l[i]).y.length ≤ 1000000 := by
   simp only [cleanD]
   constructor <;> split <;> first | omega | simp
  refine (c_Same (rOp.ext (rOp.ext R8 e9) e10) R10 hcx.1 hcx.2).mono fun r h11 ⟨hr, e11⟩ => ?_
  subst hr
  simp only [Bool.not_true, go_sem]
  have e311 : Ext h2 h11 := (((e26.trans e7).trans e8).trans (e9.trans e10)).trans e11
  have ht : l.take (i + 1) = l.take i ++ [l[i]] := List.take_succ_eq_append_getElem hi'
  have hal : (decide (allOk (l.take i) ∧ l[i].ok)) = decide (allOk (l.take (i + 1))) := by
   rw [ht]; exact decide_eq_decide.2 allOk_snoc.symm
  rw [hal, w64 (by omega) (by omega)]
  have hp1 := plen i
  have hwl := wordL_length wf
  refine iteK_dec (fun h12 => ?_) (fun h12 => ?_)
  ·have hne : l.take i ≠ [] := fun h => by
    rcases List.take_eq_nil_iff.1 h with h | h
    ·omega
    ·rw [h] at hi'; simp at hi'
   rw [binS_add (by simp; omega), vK_some, binS_add (by simp; omega), vK_some, ← print_snoc hne, ← ht]
   exact hag _ _ (l.length - (i + 1)) (by omega) ⟨i + 1, by omega, rfl, by simp, e311⟩
  ·have h0 : i = 0 := by omega
   subst h0
   have hz : printL (l.take 0) ++ wordL l[0] = printL (l.take (0 + 1)) := by
    rw [ht]; simp [printL, join_one, Lib.join_nil]
   rw [binS_add (by omega), vK_some, hz]
   exact hag _ _ (l.length - (0 + 1)) (by omega) ⟨0 + 1, by omega, rfl, by simp, e311⟩
 ·have hil : i = l.length := by omega
  subst hil
  rw [List.take_length]
  have G3 := (G.ext e12).ext e3
  refine (c_Print G3.toGlobH (H2.ext e3) sm1 (by omega)).mono fun r h4 ⟨hr, e4⟩ => ?_
  subst hr
  simp only [go_sem]
  have e14 := (e12.trans e3).trans e4
  by_cases hok : allOk l
  case neg =>
   simp only [if_neg hok]
   rw [decide_eq_true (show ¬ allOk l from hok), iteK_true]
   exact ⟨rfl, e14⟩
  simp only [if_pos hok]
  rw [decide_eq_false (show ¬ ¬ allOk l from fun h => h hok), iteK_false]
  have hp := plen l.length
  rw [List.take_length] at hp
  refine (c_Parse (G3.ext e4) (s := printL l) hp).mono fun r h5 ⟨⟨u, l', b, hr, Sl5, P5⟩, e5⟩ => ?_
  subst hr
  rw [words_print hok] at P5
  obtain ⟨rfl, rfl⟩ := P5.uniq (pr_print hok wl)
  obtain ⟨a2, cap2, rfl⟩ := Sl5.isSl
  simp only [go_sem, binS_neq, Bool.false_eq_true, if_false]
  have e15 := e14.trans e5
  rw [decide_eq_false (show ¬ ¬ ((List.map cleanD l).length : Int) = (l.length : Int) from fun h => h (by rw [List.length_map])), iteK_false]
  refine loopK_var (fun d xs h' => ∃ i : Nat, i ≤ l.length ∧ d = l.length - i ∧ xs = [.int .i64 (i : Int)] ∧ Ext h5 h') l.length ⟨0, by omega, by omega, rfl, Ext.refl _⟩ ?_
  rintro d _ ρj6 h6 again6 ⟨i, hi, rfl, rfl, e6⟩ hag6
  simp only [go_sem]
  refine iteK_dec (fun h7 => ?_) (fun h7 => ?_)
  ·rw [List.length_map] at h7
   have hi' : i < l.length := by omega
   have him : i < (List.map cleanD l).length := by rw [List.length_map]; exact hi'
   obtain ⟨p, cs, hp, hc, hR⟩ := (Sl5.ext e6).atw (by decide) (k := .i64) him
   obtain ⟨q, ds, hq, hd, hK⟩ := (H.ext (e15.trans e6)).atw (by decide) (k := .i64) hi'
   have hp : idxV 9 (.slice a2 (List.map cleanD l).length cap2) (.int .i64 (i : Int)) = some p := hp
   have hq : idxV 9 (.slice a l.length cap) (.int .i64 (i : Int)) = some q := hq
   have hc : ldsV 9 h6 p = some (.agg cs.toArray) := hc
   have hd : ldsV 9 h6 q = some (.agg ds.toArray) := hd
   obtain ⟨wf, hx, hy⟩ := sm _ (List.getElem_mem hi')
   refine drawK_ext ?_
   rw [hp, vK_some]
   refine qK_val (.agg cs.toArray) (fun h' e => e.lds hc) ?_
   rw [hq, vK_some]
   refine qK_val (.agg ds.toArray) (fun h' e => e.lds hd) ?_
   refine (c_Ref hK).mono fun r h8 ⟨hr, R8, e8⟩ => ⟨e8, ?_⟩
   subst hr
   refine (c_refClean R8).mono fun r h9 ⟨ds2, hr, R9, e9⟩ => ⟨e8.trans e9, ?_⟩
   subst hr
   rw [List.getElem_map] at hR
   have hcx : (cleanD l[i]).x.length ≤ 1000000 ∧ (cleanD l[i]).y.length ≤ 1000000 := by
    simp only [cleanD]
    constructor <;> split <;> first | omega | simp
   refine (c_Same (rOp.ext (rOp.ext hR e8) e9) R9 hcx.1 hcx.2).mono fun r h10 ⟨hr, e10⟩ => ?_
   subst hr
   simp only [go_sem]
   rw [w64 (by omega) (by omega)]
   exact hag6 _ _ (l.length - (i + 1)) (by omega) ⟨i + 1, by omega, rfl, by simp, e6.trans (e8.trans (e9.trans e10))⟩
  ·exact ⟨trivial, e15.trans e6⟩
end Go.Proofs.YtolcfipmjhjeaaaDoor
