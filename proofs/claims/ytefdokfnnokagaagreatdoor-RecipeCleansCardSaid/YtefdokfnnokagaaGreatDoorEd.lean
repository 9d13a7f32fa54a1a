/- The engine, fourth part: rows of one's own: what append, copy, make and a store do to them; what else changes. Conditions: none. -/
import Derived.Test.YtefdokfnnokagaaGreatDoorEc
import Derived.Laws.Append
set_option linter.unusedVariables false
set_option linter.unusedSimpArgs false
namespace Go.Crisp
open Go

/-! ### what changes -/
/-- Only these blocks may have changed; there may be more. -/
def Fr (M : Nat → Prop) (h h' : Heap) : Prop := h.size ≤ h'.size ∧ ∀ b, b < h.size → ¬ M b → h'[b]? = h[b]?
theorem Fr.refl (M : Nat → Prop) (h : Heap) : Fr M h h := ⟨Nat.le_refl _, fun _ _ _ => rfl⟩
theorem Fr.trans {M : Nat → Prop} {a b c : Heap} (h : Fr M a b) (k : Fr M b c) : Fr M a c :=
  ⟨Nat.le_trans h.1 k.1, fun i hi hm => (k.2 i (Nat.lt_of_lt_of_le hi h.1) hm).trans (h.2 i hi hm)⟩
theorem Fr.mono {M M' : Nat → Prop} {a b : Heap} (h : Fr M a b) (k : ∀ i, i < a.size → M i → M' i) : Fr M' a b := ⟨h.1, fun i hi hm => h.2 i hi fun x => hm (k i hi x)⟩
theorem Ext.fr {M : Nat → Prop} {a b : Heap} (h : Ext a b) : Fr M a b := ⟨h.1, fun i hi _ => h.2 i hi⟩
theorem Fr.ext {M : Nat → Prop} {a b : Heap} (h : Fr M a b) (k : ∀ i, i < a.size → ¬ M i) : Ext a b := ⟨h.1, fun i hi => h.2 i hi (k i hi)⟩
/-- What is new may change. -/
theorem Ext.then_fr {M : Nat → Prop} {a b c : Heap} (h : Ext a b) (k : Fr M b c) (n : ∀ i, M i → a.size ≤ i) : Ext a c :=
  ⟨Nat.le_trans h.1 k.1, fun i hi => (k.2 i (Nat.lt_of_lt_of_le hi h.1) fun m => Nat.not_le.2 hi (n i m)).trans (h.2 i hi)⟩
theorem Fr.row {M : Nat → Prop} {h h' : Heap} (e : Fr M h h') {b : Nat} {o : Obj} (hb : h[b]? = some o) (hm : ¬ M b) : h'[b]? = some o := by
  rw [e.2 b (Array.getElem?_eq_some_iff.1 hb).1 hm]; exact hb
theorem Fr.cell {M : Nat → Prop} {h h' : Heap} (e : Fr M h h') {a : Addr} {v : Value} (hc : cellOf h a = some v) (hm : ¬ M a.block) : cellOf h' a = some v := by
  unfold cellOf at *
  rcases Nat.lt_or_ge a.block h.size with hb | hb
  · rw [e.2 _ hb hm]; exact hc
  · rw [Array.getElem?_eq_none hb] at hc; cases hc
theorem cell_lt {h : Heap} {a : Addr} {v : Value} (hc : cellOf h a = some v) : a.block < h.size := by
  unfold cellOf at hc
  rcases Nat.lt_or_ge a.block h.size with hb | hb
  · exact hb
  · rw [Array.getElem?_eq_none hb] at hc; cases hc

/-- The block that a slice lies in. -/
def blk : Value → Nat → Prop
  | .slice (some a) _ _, b => b = a.block
  | .pointer (some a), b => b = a.block
  | _, _ => False

/-! ### rows -/
/-- These cells are the slice's, in order. -/
def SlC (w : Nat) (h : Heap) (v : Value) (n : Nat) (cs : List Value) : Prop :=
  cs.length = n * w ∧ ∃ a cap, v = .slice a n cap ∧ (cs = [] ∨ ∃ b o, a = some ⟨b, o, none⟩ ∧ ∀ j (hj : j < cs.length), cellOf h ⟨b, o + j, none⟩ = some cs[j])

/-- A row of one's own. -/
def Own (w : Nat) (h : Heap) (v : Value) (n : Nat) (cs : List Value) : Prop :=
  (v = .slice none 0 0 ∧ n = 0 ∧ cs = []) ∨ ∃ b cap r e, v = .slice (some ⟨b, 0, none⟩) n cap ∧ n ≤ cap ∧ cs.length = n * w ∧ (cs ++ r).length = cap * w ∧ h[b]? = some (.cells (cs ++ r).toArray e (0, 0))

theorem SlC.fr {w : Nat} {M : Nat → Prop} {h h' : Heap} {v : Value} {n : Nat} {cs : List Value} (H : SlC w h v n cs) (e : Fr M h h') (hm : ∀ b, b < h.size → blk v b → ¬ M b) : SlC w h' v n cs := by
  obtain ⟨hl, a, cap, rfl, H⟩ := H
  refine ⟨hl, a, cap, rfl, ?_⟩
  rcases H with H | ⟨b, o, rfl, H⟩
  · exact .inl H
  · exact .inr ⟨b, o, rfl, fun j hj => e.cell (H j hj) (hm b (cell_lt (H j hj)) rfl)⟩
theorem SlC.ext {w : Nat} {h h' : Heap} {v : Value} {n : Nat} {cs : List Value} (H : SlC w h v n cs) (e : Ext h h') : SlC w h' v n cs := H.fr (M := fun _ => False) e.fr fun _ _ _ => id
theorem Own.sl {w : Nat} {h : Heap} {v : Value} {n : Nat} {cs : List Value} (H : Own w h v n cs) : SlC w h v n cs := by
  rcases H with ⟨rfl, rfl, rfl⟩ | ⟨b, cap, r, e, rfl, hc, hl, _, hb⟩
  · exact ⟨by simp, none, 0, rfl, .inl rfl⟩
  · refine ⟨hl, _, cap, rfl, .inr ⟨b, 0, rfl, fun j hj => ?_⟩⟩
    rw [Nat.zero_add, cell_row hb]
    simp [List.getElem?_append_left hj, hj]
theorem Own.fr {w : Nat} {M : Nat → Prop} {h h' : Heap} {v : Value} {n : Nat} {cs : List Value} (H : Own w h v n cs) (f : Fr M h h') (hm : ∀ b, blk v b → ¬ M b) : Own w h' v n cs := by
  rcases H with ⟨rfl, rfl, rfl⟩ | ⟨b, cap, r, e, rfl, hc, hl, hr, hb⟩
  · exact .inl ⟨rfl, rfl, rfl⟩
  · exact .inr ⟨b, cap, r, e, rfl, hc, hl, hr, f.row hb (hm b rfl)⟩
theorem Own.lt {w : Nat} {h : Heap} {v : Value} {n : Nat} {cs : List Value} (H : Own w h v n cs) {b : Nat} (hb : blk v b) : b < h.size := by
  rcases H with ⟨rfl, rfl, rfl⟩ | ⟨b', cap, r, e, rfl, hc, hl, hr, h'⟩
  · cases hb
  · rw [show b = b' from hb]; exact (Array.getElem?_eq_some_iff.1 h').1

theorem SlC.loads {w : Nat} {h : Heap} {v : Value} {n : Nat} {cs : List Value} (H : SlC w h v n cs) : srcOf w h n v = some cs := by
  obtain ⟨hl, a, cap, rfl, H⟩ := H
  cases a with
  | none =>
    rcases H with rfl | ⟨b, o, h1, _⟩
    · rfl
    · cases h1
  | some a =>
    show loadsOf h a 0 (n * w) = _
    rcases H with rfl | ⟨b, o, h1, H⟩
    · rw [← hl]; rfl
    · cases h1
      rw [← hl]
      exact loads_row cs 0 (by simpa using H)

/-- The cells of a row that one writes over. -/
theorem wrL_mid : ∀ (ds cs r : List Value), ds.length ≤ r.length → wrL (cs ++ r).toArray cs.length ds = (cs ++ ds ++ r.drop ds.length).toArray
  | [], cs, r, _ => by simp [wrL]
  | v :: ds, cs, r, h => by
    cases r with
    | nil => simp at h
    | cons x r =>
      have e : ((cs ++ x :: r).toArray).setIfInBounds cs.length v = ((cs ++ [v]) ++ r).toArray := by simp
      rw [wrL, e]
      have := wrL_mid ds (cs ++ [v]) r (by simpa using h)
      rw [List.length_append, List.length_singleton] at this
      rw [this]
      simp

theorem Upd.fr {b : Nat} {h h' : Heap} (u : Upd b h h') : Fr (fun k => k = b) h h' := ⟨Nat.le_of_eq u.1.symm, fun k _ hk => u.2 k hk⟩

theorem size_zc (z : Array Value) (n : Nat) : (Builtin.zeroCells z n).size = n * z.size := by simp [Builtin.zeroCells]

/-- What 'append' hands on: a row of one's own that is longer; what changed is the old row, at most. -/
theorem appK_own {z : Value} {e : TypeId} {w bytes n m : Nat} {s x : Value} {h : Heap} {cs ds : List Value} {K : Value → Heap → Prop}
    (hs : Own w h s n cs) (hx : SlC w h x m ds) (ho : ∀ v ∈ ds, oneCell v = true) (hz : z.cells.size = w) (hb : (n + m) * bytes ≤ 140737488355328) (hn : n + m ≤ 9223372036854775807)
    (H : ∀ s' h', Own w h' s' (n + m) (cs ++ ds) → Fr (blk s) h h' → (∀ b, blk s' b → blk s b ∨ h.size ≤ b) → K s' h') : appK z e w bytes s x h K := by
  have hsl := hs.sl.loads
  have hxl := hx.loads
  obtain ⟨hdl, a', cap', rfl, hx'⟩ := hx
  rcases hs with ⟨rfl, rfl, rfl⟩ | ⟨b, cap, r, e0, rfl, hc, hl, hr, hbk⟩
  · unfold appK
    simp only [lenN]
    split
    · rename_i h0
      have : m = 0 := by omega
      subst this
      rw [hxl]
      have : ds = [] := List.eq_nil_of_length_eq_zero (by simpa using hdl)
      subst this
      exact H _ _ (.inl ⟨rfl, rfl, rfl⟩) (Fr.refl _ _) (fun b hb => hb.elim)
    · rename_i h0
      rw [hsl, hxl]
      refine ⟨by simp only [IntKind.max]; simp only [IntKind.signed, IntKind.bits]; omega, Nat.le_trans (growslice_fits (by omega) hb) (by decide), fun newCap h1 h2 => ?_⟩
      refine H _ _ (.inr ⟨h.size, newCap, (Builtin.zeroCells z.cells (newCap - (0 + m))).toList, e, rfl, h1, ?_, ?_, ?_⟩) (Ext.push h _).fr (fun b hb => .inr (by rw [show b = h.size from hb]; exact Nat.le_refl _))
      · simp [hdl]
      · simp [hdl, size_zc, hz]; rw [← Nat.add_mul]; congr 1; omega
      · rw [push_new]; simp
  · unfold appK
    simp only [lenN]
    split
    · rename_i h0
      rw [hxl]
      have hrl : ds.length ≤ r.length := by
        rw [List.length_append] at hr
        rw [hdl]
        have : (n + m) * w ≤ cap * w := Nat.mul_le_mul_right w h0
        rw [Nat.add_mul] at this
        omega
      have hst := stores_row (o := n * w) ds 0 h _ hbk (by simp; omega) ho
      simp only [add_lit, Nat.zero_add, hst]
      rw [Nat.add_zero, ← hl, wrL_mid ds cs r hrl]
      refine H _ _ (.inr ⟨b, cap, r.drop ds.length, e0, rfl, h0, ?_, ?_, set_get hbk⟩) (Upd.set.fr) (fun k hk => .inl hk)
      · simp [hl, hdl, Nat.add_mul]
      · rw [← hr]; simp; omega
    · rename_i h0
      rw [hsl, hxl]
      refine ⟨by simp only [IntKind.max]; simp only [IntKind.signed, IntKind.bits]; omega, Nat.le_trans (growslice_fits (by omega) hb) (by decide), fun newCap h1 h2 => ?_⟩
      refine H _ _ (.inr ⟨h.size, newCap, (Builtin.zeroCells z.cells (newCap - (n + m))).toList, e, rfl, h1, ?_, ?_, ?_⟩) (Ext.push h _).fr (fun b hb => .inr (by rw [show b = h.size from hb]; exact Nat.le_refl _))
      · simp [hl, hdl, Nat.add_mul]
      · simp [hl, hdl, size_zc, hz]; rw [← Nat.add_mul, ← Nat.add_mul]; congr 1; omega
      · rw [push_new]; simp

/-! ### elements -/
theorem SlC.at1 {h : Heap} {v : Value} {n : Nat} {cs : List Value} (H : SlC 1 h v n cs) {k : IntKind} {i : Nat} (hi : i < n) : ∃ p, idxV 1 v (.int k (i : Int)) = some p ∧ ldV h p = some (cs[i]'(by rw [H.1]; omega)) := by
  have hl := H.1
  obtain ⟨_, a, cap, rfl, H⟩ := H
  rcases H with rfl | ⟨b, o, rfl, H⟩
  · simp at hl; omega
  · refine ⟨_, idxV_nat hi, ?_⟩
    rw [ldV_ptr, Nat.mul_one]
    exact H i (by omega)
/-- A whole element. -/
theorem SlC.atw {w : Nat} {h : Heap} {v : Value} {n : Nat} {cs : List Value} (H : SlC w h v n cs) (hw : 0 < w) {k : IntKind} {i : Nat} (hi : i < n) :
    ∃ p, idxV w v (.int k (i : Int)) = some p ∧ ldsV w h p = some (.agg ((cs.drop (i * w)).take w).toArray) := by
  have hl := H.1
  obtain ⟨_, a, cap, rfl, H⟩ := H
  have hiw : i * w + w ≤ cs.length := by rw [hl, ← Nat.succ_mul]; exact Nat.mul_le_mul_right w hi
  rcases H with rfl | ⟨b, o, rfl, H⟩
  · simp at hiw; omega
  · refine ⟨_, idxV_nat hi, ?_⟩
    refine ldsV_row _ w (by simp; omega) fun j hj => ?_
    simp at hj
    have := H (i * w + j) (by omega)
    rw [← Nat.add_assoc] at this
    rw [this]
    simp

/-- An element is written. -/
theorem Own.at1 {h : Heap} {v : Value} {n : Nat} {cs : List Value} (H : Own 1 h v n cs) {k : IntKind} {i : Nat} (hi : i < n) :
    ∃ p, idxV 1 v (.int k (i : Int)) = some p ∧ ldV h p = some (cs[i]'(by rw [H.sl.1]; omega)) ∧ ∀ (x : Value) (K : Value → Heap → Prop), oneCell x = true →
      (∀ h', Own 1 h' v n (cs.set i x) → Fr (blk v) h h' → h'.size = h.size → K undef h') → stK 1 p x h K := by
  have hl := H.sl.1
  rcases H with ⟨rfl, rfl, rfl⟩ | ⟨b, cap, r, e, rfl, hc, _, hr, hb⟩
  · omega
  · refine ⟨_, idxV_nat hi, ?_, fun x K hx HK => ?_⟩
    · rw [ldV_ptr, Nat.mul_one, cell_row hb]
      have hi' : i < cs.length := by omega
      simp only [Nat.zero_add, List.getElem?_toArray]
      rw [List.getElem?_append_left hi', List.getElem?_eq_getElem hi']
    · refine st_cell hb (by simp; omega) hx fun h' r' u => ?_
      refine HK h' (.inr ⟨b, cap, r, e, rfl, hc, by simpa using hl, by simpa using hr, ?_⟩) (u.fr.mono fun k _ hk => hk) u.1
      rw [r']
      congr 2
      simp [List.set_append_left, show i < cs.length by omega]

/-! ### make, copy -/
theorem zeros_one {z : Value} (hz : z.cells = #[z]) (n : Nat) : zerosOf z n = (List.replicate n z).toArray := by
  unfold zerosOf
  rw [hz]
  apply Array.ext
  · simp
  · intro i h1 h2
    simp [Nat.mod_one]
theorem mkK_own {z : Value} {e : TypeId} {bytes n : Nat} {k k' : IntKind} {h : Heap} {K : Value → Heap → Prop} (hz : z.cells = #[z]) (hb : bytes * n ≤ 281474976710656) (hn : n ≤ 9223372036854775807)
    (H : ∀ v h', Own 1 h' v n (List.replicate n z) → Ext h h' → (∀ b, blk v b → h.size ≤ b) → K v h') : mkK z e 1 bytes (.int k n) (.int k' n) h K := by
  unfold mkK
  have hw : IntKind.i64.wrap (n : Int) = n := w64 (by omega) (by omega)
  simp only [hw]
  refine ⟨by omega, by omega, by exact_mod_cast hb, ?_⟩
  rw [Int.toNat_natCast, Nat.mul_one, zeros_one hz]
  refine H _ _ (.inr ⟨h.size, n, [], e, rfl, Nat.le_refl _, by simp, by simp, ?_⟩) (Ext.push h _) (fun b hb => by rw [show b = h.size from hb]; exact Nat.le_refl _)
  rw [push_new]; simp

theorem SlC.load_some {w : Nat} {h : Heap} {v : Value} {n : Nat} {cs : List Value} (H : SlC w h v n cs) {k : Nat} (hk : k ≤ n) : srcOf w h k v = some (cs.take (k * w)) := by
  obtain ⟨hl, a, cap, rfl, H⟩ := H
  have hkw : k * w ≤ n * w := Nat.mul_le_mul_right w hk
  have hlen : (cs.take (k * w)).length = k * w := by rw [List.length_take]; omega
  cases a with
  | none =>
    rcases H with rfl | ⟨b, o, h1, _⟩
    · simp [srcOf]
    · cases h1
  | some a =>
    show loadsOf h a 0 (k * w) = _
    rcases H with rfl | ⟨b, o, h1, H⟩
    · simp at hlen
      rw [← hlen]; simp [loadsOf]
    · cases h1
      have := loads_row (h := h) (b := b) (o := o) (cs.take (k * w)) 0 (fun j hj => by
        have hj' : j < cs.length := by rw [List.length_take] at hj; omega
        simpa using H j hj')
      rw [hlen] at this
      exact this
theorem cpyK_own {n m : Nat} {d x : Value} {h : Heap} {cs ds : List Value} {K : Value → Heap → Prop} (hd : Own 1 h d n cs) (hx : SlC 1 h x m ds) (ho : ∀ v ∈ ds, oneCell v = true)
    (H : ∀ h', Own 1 h' d n (ds.take n ++ cs.drop m) → Fr (blk d) h h' → h'.size = h.size → K (.int .i64 (Nat.min m n : Nat)) h') : cpyK 1 d x h K := by
  have hxl := hx.load_some (k := Nat.min m n) (Nat.min_le_left ..)
  obtain ⟨hdl, a', cap', rfl, hx'⟩ := hx
  unfold cpyK
  rcases hd with ⟨rfl, rfl, rfl⟩ | ⟨b, cap, r, e, rfl, hc, hl, hr, hb⟩
  · simp only [lenN]
    rw [hxl]
    refine H _ (.inl ⟨rfl, rfl, by simp⟩) (Fr.refl _ _) rfl
  · simp only [lenN]
    rw [hxl]
    have hte : ds.take (Nat.min m n * 1) = ds.take n := by
      rw [Nat.mul_one]
      rcases Nat.le_total m n with h1 | h1
      · rw [show Nat.min m n = m from Nat.min_eq_left h1, List.take_of_length_le (by omega), List.take_of_length_le (by omega)]
      · rw [show Nat.min m n = n from Nat.min_eq_right h1]
    rw [hte]
    have hle : (ds.take n).length ≤ (cs ++ r).length := by simp; omega
    have hst := stores_row (o := 0) (ds.take n) 0 h _ hb (by simp; omega) (fun v hv => ho v (List.mem_of_mem_take hv))
    simp only [hst]
    have hw := wrL_mid (ds.take n) [] (cs ++ r) hle
    simp only [List.nil_append, List.length_nil] at hw
    rw [show (0 + 0 : Nat) = 0 from rfl, hw]
    refine H _ (.inr ⟨b, cap, r, e, rfl, hc, ?_, ?_, ?_⟩) Upd.set.fr (setObj_size ..)
    · simp; omega
    · simp at hr ⊢; omega
    · rw [set_get hb]
      congr 3
      rw [List.append_assoc]
      congr 1
      rcases Nat.le_total m n with h1 | h1
      · rw [List.length_take, List.drop_append_of_le_length (by omega)]
        congr 2; omega
      · rw [List.length_take, Nat.min_eq_left (by omega), List.drop_eq_nil_of_le (as := cs) (by omega), List.nil_append]
        rw [show n = cs.length by omega, List.drop_left]

/-! ### loops that count -/
theorem loop_from {h : Heap} {body : List Value → Env → Heap → (List Value → Heap → Prop) → Prop} (n i0 : Nat) (I : Nat → Heap → Prop) (h0 : I i0 h)
    (step : ∀ k h again ρj, i0 ≤ k → I k h → (∀ h', k < n → I (k + 1) h' → again [.int .i64 ((k : Int) + 1)] h') → body [.int .i64 (k : Int)] ρj h again) : loopK [.int .i64 (i0 : Int)] h body := by
  refine loopK_var (fun d xs h => ∃ k, i0 ≤ k ∧ d = n - k ∧ xs = [.int .i64 (k : Int)] ∧ I k h) (n - i0) ⟨i0, Nat.le_refl _, rfl, rfl, h0⟩ ?_
  rintro d _ ρj h1 again ⟨k, hk0, hd, rfl, hI⟩ hag
  exact step k h1 again ρj hk0 hI fun h' hk hI' => hag _ _ (n - (k + 1)) (by omega) ⟨k + 1, by omega, rfl, by simp, hI'⟩
theorem loop_count {h : Heap} {body : List Value → Env → Heap → (List Value → Heap → Prop) → Prop} (n : Nat) (I : Nat → Heap → Prop) (h0 : I 0 h)
    (step : ∀ k h again ρj, I k h → (∀ h', k < n → I (k + 1) h' → again [.int .i64 ((k : Int) + 1)] h') → body [.int .i64 (k : Int)] ρj h again) : loopK [.int .i64 0] h body :=
  loop_from n 0 I h0 fun k h again ρj _ => step k h again ρj
end Go.Crisp
