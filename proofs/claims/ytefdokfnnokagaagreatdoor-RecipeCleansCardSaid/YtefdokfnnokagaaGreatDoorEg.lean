/- The engine, seventh part: rows of numbers that are new; their elements. Conditions: none. -/
import Derived.Test.YtefdokfnnokagaaGreatDoorEs
set_option linter.unusedVariables false
set_option linter.unusedSimpArgs false
namespace Go.Crisp
open Go

/-- A new row of one's own of plain elements: all else is as it was. -/
def New {α : Type} (e : Rp α) (h h' : Heap) (v : Value) (l : List α) : Prop := Rp.Ow e (fun _ => False) h' v l ∧ Ext h h' ∧ ∀ b, blk v b → h.size ≤ b
theorem New.nil {α : Type} {e : Rp α} {h h' : Heap} (k : Ext h h') : New e h h' (.slice none 0 0) [] := ⟨Rp.Ow.nil, k, fun b hb => hb.elim⟩
theorem New.ext {α : Type} {e : Rp α} {h h' h2 : Heap} {v : Value} {l : List α} (H : New e h h' v l) (k : Ext h' h2) : New e h h2 v l := ⟨H.1.ext k, H.2.1.trans k, H.2.2⟩
theorem New.before {α : Type} {e : Rp α} {h0 h h' : Heap} {v : Value} {l : List α} (H : New e h h' v l) (k : Ext h0 h) : New e h0 h' v l := ⟨H.1, k.trans H.2.1, fun b hb => Nat.le_trans k.1 (H.2.2 b hb)⟩
theorem New.sl {α : Type} {e : Rp α} {h h' : Heap} {v : Value} {l : List α} (H : New e h h' v l) : Rp.Sl e (blk v) h' v l := H.1.sl.mono fun b _ hb => hb.elim False.elim id
theorem New.isSl {α : Type} {e : Rp α} {h h' : Heap} {v : Value} {l : List α} (H : New e h h' v l) : ∃ a cap, v = .slice a l.length cap := H.1.isSl
theorem New.push {α : Type} {e : Rp α} {z z' c : Value} {t t' : TypeId} {bytes : Nat} {h h1 : Heap} {v : Value} {l : List α} {x : α} {K : Value → Heap → Prop} (hw : e.w = 1) (H : New e h h1 v l)
    (hx : e.R (fun _ => False) h1 [c] x) (hz : z.cells.size = 1) (hb : (l.length + 1) * bytes ≤ 140737488355328) (hn : l.length + 1 ≤ 9223372036854775807)
    (HK : ∀ s' h', New e h h' s' (l ++ [x]) → K s' h') : rowK #[z'] t 1 [(0, 1, c)] h1 fun v2 h3 => appK z t' 1 bytes v v2 h3 K := by
  refine Rp.push_ow1 hw H.1 hx hz hb hn (fun b hb => hb.elim) fun s' h' o' f' n' => HK s' h' ⟨o', H.2.1.then_fr f' H.2.2, fun b hb => ?_⟩
  rcases n' b hb with h1 | h1
  · exact H.2.2 b h1
  · exact Nat.le_trans H.2.1.1 h1
theorem New.push_int {k : IntKind} {z z' : Value} {t t' : TypeId} {bytes : Nat} {h h1 : Heap} {v : Value} {l : List Int} {x : Int} {K : Value → Heap → Prop} (H : New (Rp.int k) h h1 v l)
    (hz : z.cells.size = 1) (hb : (l.length + 1) * bytes ≤ 140737488355328) (hn : l.length + 1 ≤ 9223372036854775807)
    (HK : ∀ s' h', New (Rp.int k) h h' s' (l ++ [x]) → K s' h') : rowK #[z'] t 1 [(0, 1, .int k x)] h1 fun v2 h3 => appK z t' 1 bytes v v2 h3 K :=
  H.push rfl rfl hz hb hn HK
/-- An element of a row of numbers. -/
theorem Rp.Sl.int_at {k : IntKind} {Z : Nat → Prop} {h : Heap} {v : Value} {l : List Int} (H : Rp.Sl (Rp.int k) Z h v l) {k' : IntKind} {i : Nat} (hi : i < l.length) : ∃ p, idxV 1 v (.int k' (i : Int)) = some p ∧ ldV h p = some (.int k l[i]) := by
  obtain ⟨p, c, h1, h2, h3⟩ := H.at1 rfl (k := k') hi
  have h3 : [c] = [Value.int k l[i]] := h3
  cases h3
  exact ⟨p, h1, h2⟩
theorem Rp.Ow.nilZ {α : Type} {e : Rp α} {Z Z' : Nat → Prop} {h : Heap} {v : Value} {l : List α} (H : Rp.Ow e Z h v l) (q : ∀ b, b < h.size → Z b → Z' b) (q' : ∀ b, blk v b → ¬ Z' b) : Rp.Ow e Z' h v l := H.mono q q'
theorem bdV_nat (k : IntKind) (i d most : Nat) (h : i ≤ most) : bdV (some (.int k (i : Int))) d most = some i := by
  show (if 0 ≤ (i : Int) ∧ (i : Int) ≤ (most : Int) then some (i : Int).toNat else none) = _
  rw [if_pos (by omega), Int.toNat_natCast]
theorem SlC.part {w : Nat} {h : Heap} {v : Value} {n : Nat} {cs : List Value} (H : SlC w h v n cs) {lo hi : Nat} (h1 : lo ≤ hi) (h2 : hi ≤ n) {a : Option Addr} {cap : Nat} (hv : v = .slice a n cap) (hc : n ≤ cap) :
    SlC w h (.slice (if cap = lo then a else a.map (·.add (lo * w))) (hi - lo) (cap - lo)) (hi - lo) ((cs.drop (lo * w)).take ((hi - lo) * w)) := by
  subst hv
  obtain ⟨hl, a', cap', e, H⟩ := H
  cases e
  have hm : lo * w + (hi - lo) * w = hi * w := by rw [← Nat.add_mul]; congr 1; omega
  have hm2 : hi * w ≤ n * w := Nat.mul_le_mul_right w h2
  refine ⟨by rw [List.length_take, List.length_drop]; omega, _, _, rfl, ?_⟩
  by_cases he : (cs.drop (lo * w)).take ((hi - lo) * w) = []
  · exact .inl he
  · refine .inr ?_
    rcases H with rfl | ⟨b, o, rfl, H⟩
    · exact absurd (by simp) he
    · have hne : cap ≠ lo := by
        intro e
        have h0 : (hi - lo) * w = 0 := by rw [show hi - lo = 0 by omega, Nat.zero_mul]
        exact he (by rw [h0]; rfl)
      rw [if_neg hne]
      refine ⟨b, o + lo * w, by rw [Option.map_some, add_lit], fun j hj => ?_⟩
      rw [List.length_take, List.length_drop] at hj
      have := H (lo * w + j) (by omega)
      rw [← Nat.add_assoc] at this
      rw [this, List.getElem_take, List.getElem_drop]
theorem slc_front {h : Heap} {v : Value} {n : Nat} {cs : List Value} (w : Nat) (H : Own w h v n cs) {k : IntKind} {hi : Nat} (h2 : hi ≤ n) : ∃ v', slcV w v none (some (.int k (hi : Int))) = some v' ∧ SlC w h v' hi (cs.take (hi * w)) ∧ ∀ b, blk v' b → blk v b := by
  have hc : ∃ a cap, v = .slice a n cap ∧ n ≤ cap := by
    rcases H with ⟨rfl, rfl, _⟩ | ⟨b, cap, r, e, rfl, hc, _⟩
    · exact ⟨none, 0, rfl, Nat.le_refl _⟩
    · exact ⟨_, cap, rfl, hc⟩
  obtain ⟨a, cap, e, hc⟩ := hc
  have := H.sl.part (Nat.zero_le hi) h2 e hc
  subst e
  refine ⟨_, ?_, by simpa using this, fun b hb => ?_⟩
  · simp only [slcV, bdV_nat k hi n cap (show hi ≤ cap by omega)]
    simp only [bdV, Nat.zero_mul, Nat.sub_zero]
  · cases a with
    | none => simp at hb; exact hb
    | some a =>
      split at hb
      · exact hb
      · simp only [Option.map_some] at hb
        have e : (a.add 0).block = a.block := by unfold Addr.add; split <;> rfl
        rw [show b = (a.add 0).block from hb, e]; rfl
/-- The rest of a row of one's own is filled out of another row (or of its own front). -/
theorem cpy_tail {h : Heap} {v s : Value} {n m k : Nat} {cs ds : List Value} (H : Own 1 h v n cs) (hm : m < n) (hs : SlC 1 h s k ds) (ho : ∀ x ∈ ds, oneCell x = true) {kk : IntKind} :
    ∃ d, slcV 1 v (some (.int kk (m : Int))) none = some d ∧ ∀ K : Value → Heap → Prop, (∀ h', Own 1 h' v n (cs.take m ++ ds.take (n - m) ++ cs.drop (m + k)) → Fr (blk v) h h' → K (.int .i64 (Nat.min k (n - m) : Nat)) h') → cpyK 1 d s h K := by
  have hxl := hs.load_some (k := Nat.min k (n - m)) (Nat.min_le_left ..)
  obtain ⟨hdl, a', cap', rfl, hx'⟩ := hs
  rcases H with ⟨rfl, rfl, rfl⟩ | ⟨b, cap, r, e, rfl, hc, hl, hr, hb⟩
  · omega
  · refine ⟨.slice (some ⟨b, m, none⟩) (n - m) (cap - m), ?_, fun K HK => ?_⟩
    · simp only [slcV, bdV_nat kk m 0 cap (show m ≤ cap by omega)]
      have hne : ¬ cap = m := by omega
      have e0 : bdV (some (Value.int kk (m : Int))) 0 n = some m := bdV_nat kk m 0 n (by omega)
      simp only [bdV, e0, if_neg hne, Option.map_some, add_lit, Nat.zero_add, Nat.mul_one]
      rw [if_pos (by omega)]
      simp
      exact fun hh => absurd hh hne
    · unfold cpyK
      simp only [lenN]
      rw [hxl]
      have hte : ds.take (Nat.min k (n - m) * 1) = ds.take (n - m) := by
        rw [Nat.mul_one]
        rcases Nat.le_total k (n - m) with h1 | h1
        · rw [show Nat.min k (n - m) = k from Nat.min_eq_left h1, List.take_of_length_le (by omega), List.take_of_length_le (by omega)]
        · rw [show Nat.min k (n - m) = n - m from Nat.min_eq_right h1]
      rw [hte]
      have hle : (ds.take (n - m)).length ≤ n - m := by rw [List.length_take]; omega
      have hst := stores_row (o := m) (ds.take (n - m)) 0 h _ hb (by simp; omega) (fun v hv => ho v (List.mem_of_mem_take hv))
      simp only [hst]
      have hsp : cs ++ r = cs.take m ++ (cs.drop m ++ r) := by rw [← List.append_assoc, List.take_append_drop]
      have lt : (cs.take m).length = m := by rw [List.length_take]; omega
      have hw := wrL_mid (ds.take (n - m)) (cs.take m) (cs.drop m ++ r) (by rw [List.length_append, List.length_drop]; omega)
      rw [← hsp, lt] at hw
      rw [Nat.add_zero, hw]
      refine HK _ (.inr ⟨b, cap, r, e, rfl, hc, ?_, ?_, ?_⟩) Upd.set.fr
      · simp only [List.length_append, List.length_take, List.length_drop]; omega
      · simp only [List.length_append, List.length_take, List.length_drop] at hr ⊢; omega
      · rw [set_get hb]
        congr 3
        rw [List.append_assoc, List.append_assoc, List.append_assoc]
        congr 2
        rw [List.length_take, List.drop_append]
        rcases Nat.le_total k (n - m) with h1 | h1
        · rw [List.drop_drop, show min (n - m) ds.length = k by omega, List.length_drop, show k - (cs.length - m) = 0 by omega, List.drop_zero]
        · rw [List.drop_drop, show min (n - m) ds.length = n - m by omega, List.length_drop, show n - m - (cs.length - m) = 0 by omega, List.drop_zero, List.drop_eq_nil_of_le (show cs.length ≤ m + (n - m) by omega), List.drop_eq_nil_of_le (show cs.length ≤ m + k by omega)]
/-- A part of a row, as it reads. -/
theorem Rp.Sl.part {α : Type} {e : Rp α} {Z : Nat → Prop} {h : Heap} {v : Value} {l : List α} (H : Rp.Sl e Z h v l) {lo hi : Nat} (h1 : lo ≤ hi) (h2 : hi ≤ l.length) {a : Option Addr} {n cap : Nat} (hv : v = .slice a n cap) (hc : n ≤ cap) {k k' : IntKind} :
    ∃ v', slcV e.w v (some (.int k (lo : Int))) (some (.int k' (hi : Int))) = some v' ∧ Rp.Sl e Z h v' ((l.drop lo).take (hi - lo)) := by
  obtain ⟨ds, hs, hz, he⟩ := H
  obtain ⟨a', cap', e'⟩ := hs.isSl
  rw [e'] at hv
  cases hv
  have hP := hs.part h1 h2 e' hc
  subst e'
  have hlen : ((l.drop lo).take (hi - lo)).length = hi - lo := by rw [List.length_take, List.length_drop]; omega
  refine ⟨_, ?_, (ds.drop (lo * e.w)).take ((hi - lo) * e.w), by rw [hlen]; exact hP, fun hne b hb => ?_, fun i hi' => ?_⟩
  · simp only [slcV, bdV_nat k' hi _ cap (show hi ≤ cap by omega), bdV_nat k lo 0 hi h1]
  · have hds : ds ≠ [] := fun h0 => hne (by rw [h0]; simp)
    refine hz hds b ?_
    cases a with
    | none => simp only [Option.map_none, ite_self] at hb; exact hb
    | some a =>
      split at hb
      · exact hb
      · simp only [Option.map_some] at hb
        have ea : (a.add (lo * e.w)).block = a.block := by unfold Addr.add; split <;> rfl
        rw [show b = (a.add (lo * e.w)).block from hb, ea]; rfl
  · have hi'' : lo + i < l.length := by rw [hlen] at hi'; omega
    have := he (lo + i) hi''
    rw [List.getElem_take, List.getElem_drop]
    have e2 : Rp.el e.w ((ds.drop (lo * e.w)).take ((hi - lo) * e.w)) i = Rp.el e.w ds (lo + i) := by
      show (((ds.drop (lo * e.w)).take ((hi - lo) * e.w)).drop (i * e.w)).take e.w = (ds.drop ((lo + i) * e.w)).take e.w
      have hm : i * e.w + e.w ≤ (hi - lo) * e.w := by rw [← Nat.succ_mul]; exact Nat.mul_le_mul_right _ (by rw [hlen] at hi'; exact hi')
      rw [List.drop_take, List.drop_drop, List.take_take, Nat.min_eq_left (by omega), ← Nat.add_mul]
    rw [e2]
    exact this
end Go.Crisp
