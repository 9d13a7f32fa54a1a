/- The engine, third part: laws for reasoning about what functions do: heaps, rows, loops, numbers. Conditions: none. -/
import Derived.Test.YtefdokfnnokagaaGreatDoorEb
set_option linter.unusedVariables false
set_option linter.unusedSimpArgs false
namespace Go.Crisp
open Go

/-! ### rules -/
theorem vK_some (v : Value) (K : Value → Prop) : vK (some v) K = K v := Eq.trans rfl rfl
theorem vK_map (r : Option (Array Value)) (c : Array Value) (h : r = some c) (K : Value → Prop) : vK (r.map .agg) K = K (.agg c) := by rw [h]; rfl
theorem iteK_true (x y : Prop) : iteK (.bool true) x y = x := Eq.trans rfl rfl
theorem iteK_false (x y : Prop) : iteK (.bool false) x y = y := Eq.trans rfl rfl
/-- Both ways. -/
theorem iteK_split {b : Bool} {x y : Prop} (h1 : b = true → x) (h2 : b = false → y) : iteK (.bool b) x y := by
  cases b
  · exact h2 rfl
  · exact h1 rfl
theorem iteK_dec {p : Prop} [Decidable p] {x y : Prop} (h1 : p → x) (h2 : ¬ p → y) : iteK (.bool (decide p)) x y :=
  iteK_split (fun h => h1 (of_decide_eq_true h)) (fun h => h2 (of_decide_eq_false h))
theorem gV_true (r : Option Value) : gV (.bool true) true r = r := Eq.trans rfl rfl
theorem gV_false (r : Option Value) : gV (.bool false) false r = r := Eq.trans rfl rfl
theorem gV_tf (r : Option Value) : gV (.bool true) false r = some undef := Eq.trans rfl rfl
theorem gV_ft (r : Option Value) : gV (.bool false) true r = some undef := Eq.trans rfl rfl
theorem gV_und (w : Bool) (r : Option Value) : gV undef w r = some undef := Eq.trans rfl rfl
theorem gK_true (m : (Value → Heap → Prop) → Prop) (h : Heap) (K : Value → Heap → Prop) : gK (.bool true) true m h K = m K := Eq.trans rfl rfl
theorem gK_false (m : (Value → Heap → Prop) → Prop) (h : Heap) (K : Value → Heap → Prop) : gK (.bool false) false m h K = m K := Eq.trans rfl rfl
theorem gK_tf (m : (Value → Heap → Prop) → Prop) (h : Heap) (K : Value → Heap → Prop) : gK (.bool true) false m h K = K undef h := Eq.trans rfl rfl
theorem gK_ft (m : (Value → Heap → Prop) → Prop) (h : Heap) (K : Value → Heap → Prop) : gK (.bool false) true m h K = K undef h := Eq.trans rfl rfl
theorem gK_und (w : Bool) (m : (Value → Heap → Prop) → Prop) (h : Heap) (K : Value → Heap → Prop) : gK undef w m h K = K undef h := Eq.trans rfl rfl
theorem pickV_true (x y : Value) : pickV (.bool true) x y = some x := Eq.trans rfl rfl
theorem pickV_false (x y : Value) : pickV (.bool false) x y = some y := Eq.trans rfl rfl
theorem ix_0 (a : Value) (l : List Value) : ix (a :: l) 0 = a := Eq.trans rfl rfl
theorem ix_1 (a b : Value) (l : List Value) : ix (a :: b :: l) 1 = b := Eq.trans rfl rfl
theorem ix_2 (a b c : Value) (l : List Value) : ix (a :: b :: c :: l) 2 = c := Eq.trans rfl rfl
theorem ix_3 (a b c d : Value) (l : List Value) : ix (a :: b :: c :: d :: l) 3 = d := Eq.trans rfl rfl
theorem ix_4 (a b c d e : Value) (l : List Value) : ix (a :: b :: c :: d :: e :: l) 4 = e := Eq.trans rfl rfl
theorem ix_5 (a b c d e f : Value) (l : List Value) : ix (a :: b :: c :: d :: e :: f :: l) 5 = f := Eq.trans rfl rfl

theorem binV_add (e : EK) (k : IntKind) (a b : Int) : binV e .add (.int k a) (.int k b) = some (.int k (k.wrap (a + b))) := by simp [binV, intV]
theorem binV_sub (e : EK) (k : IntKind) (a b : Int) : binV e .sub (.int k a) (.int k b) = some (.int k (k.wrap (a - b))) := by simp [binV, intV]
theorem binV_mul (e : EK) (k : IntKind) (a b : Int) : binV e .mul (.int k a) (.int k b) = some (.int k (k.wrap (a * b))) := by simp [binV, intV]
theorem binV_quo (e : EK) (k : IntKind) (a b : Int) (h : b ≠ 0) : binV e .quo (.int k a) (.int k b) = some (.int k (k.wrap (a.tdiv b))) := by simp [binV, intV, h]
theorem binV_rem (e : EK) (k : IntKind) (a b : Int) (h : b ≠ 0) : binV e .rem (.int k a) (.int k b) = some (.int k (a.tmod b)) := by simp [binV, intV, h]
theorem binV_lss (e : EK) (k : IntKind) (a b : Int) : binV e .lss (.int k a) (.int k b) = some (.bool (decide (a < b))) := by simp [binV, intV]
theorem binV_leq (e : EK) (k : IntKind) (a b : Int) : binV e .leq (.int k a) (.int k b) = some (.bool (decide (a ≤ b))) := by simp [binV, intV]
theorem binV_gtr (e : EK) (k : IntKind) (a b : Int) : binV e .gtr (.int k a) (.int k b) = some (.bool (decide (b < a))) := by simp [binV, intV]
theorem binV_geq (e : EK) (k : IntKind) (a b : Int) : binV e .geq (.int k a) (.int k b) = some (.bool (decide (b ≤ a))) := by simp [binV, intV]
theorem binV_eql (e : EK) (k : IntKind) (a b : Int) : binV e .eql (.int k a) (.int k b) = some (.bool (decide (a = b))) := by
  simp [binV, intV]; rw [Bool.eq_iff_iff]; simp
theorem binV_neq (e : EK) (k : IntKind) (a b : Int) : binV e .neq (.int k a) (.int k b) = some (.bool (!decide (a = b))) := by
  simp [binV, intV]; rw [Bool.eq_iff_iff]; simp
theorem binV_beq (a b : Bool) : binV .b .eql (.bool a) (.bool b) = some (.bool (a == b)) := Eq.trans rfl rfl
theorem binV_bne (a b : Bool) : binV .b .neq (.bool a) (.bool b) = some (.bool !(a == b)) := Eq.trans rfl rfl
theorem unV_not (b : Bool) : unV .not (.bool b) = some (.bool !b) := Eq.trans rfl rfl
theorem unV_neg (k : IntKind) (a : Int) : unV .neg (.int k a) = some (.int k (k.wrap (0 - a))) := Eq.trans rfl rfl
theorem cviV_int (k k' : IntKind) (a : Int) : cviV k (.int k' a) = some (.int k (k.wrap a)) := Eq.trans rfl rfl
theorem maxV_int (k : IntKind) (a b : Int) : maxV (.int k a) (.int k b) = some (.int k (max a b)) := by
  simp only [maxV, Option.some.injEq, Value.int.injEq, true_and]; split <;> omega
theorem minV_int (k : IntKind) (a b : Int) : minV (.int k a) (.int k b) = some (.int k (min a b)) := by
  simp only [minV, Option.some.injEq, Value.int.injEq, true_and]; split <;> omega
theorem w64 {n : Int} (h1 : -9223372036854775808 ≤ n) (h2 : n ≤ 9223372036854775807) : IntKind.i64.wrap n = n := by
  show (if (true && decide (n % (2 ^ 64 : Int) ≥ (2 ^ 63 : Int))) = true then n % (2 ^ 64 : Int) - (2 ^ 64 : Int) else n % (2 ^ 64 : Int)) = n
  split
  · rename_i hh
    simp only [Bool.true_and, decide_eq_true_eq] at hh
    omega
  · rename_i hh
    simp only [Bool.true_and, decide_eq_true_eq] at hh
    omega
theorem w32 {n : Int} (h1 : -2147483648 ≤ n) (h2 : n ≤ 2147483647) : IntKind.i32.wrap n = n := by
  show (if (true && decide (n % (2 ^ 32 : Int) ≥ (2 ^ 31 : Int))) = true then n % (2 ^ 32 : Int) - (2 ^ 32 : Int) else n % (2 ^ 32 : Int)) = n
  split
  · rename_i hh
    simp only [Bool.true_and, decide_eq_true_eq] at hh
    omega
  · rename_i hh
    simp only [Bool.true_and, decide_eq_true_eq] at hh
    omega
theorem wu8 {n : Int} (h1 : 0 ≤ n) (h2 : n ≤ 255) : IntKind.u8.wrap n = n := by
  simp only [IntKind.wrap, IntKind.bits, IntKind.signed]
  simp; omega
theorem wu16 {n : Int} (h1 : 0 ≤ n) (h2 : n ≤ 65535) : IntKind.u16.wrap n = n := by
  simp only [IntKind.wrap, IntKind.bits, IntKind.signed]
  simp; omega
theorem wu64 {n : Int} (h1 : 0 ≤ n) (h2 : n ≤ 18446744073709551615) : IntKind.u64.wrap n = n := by
  simp only [IntKind.wrap, IntKind.bits, IntKind.signed]
  simp; omega

theorem lenslV_sl (a : Option Addr) (n c : Nat) : lenslV (.slice a n c) = some (.int .i64 n) := Eq.trans rfl rfl
theorem lenstV_st (s : ByteArray) : lenstV (.string s) = some (.int .i64 s.size) := Eq.trans rfl rfl
theorem extV_0 (a : Value) (l : List Value) : extV (.tuple ⟨a :: l⟩) 0 = some a := Eq.trans rfl rfl
theorem extV_1 (a b : Value) (l : List Value) : extV (.tuple ⟨a :: b :: l⟩) 1 = some b := Eq.trans rfl rfl
theorem extV_2 (a b c : Value) (l : List Value) : extV (.tuple ⟨a :: b :: c :: l⟩) 2 = some c := Eq.trans rfl rfl
theorem extV_3 (a b c d : Value) (l : List Value) : extV (.tuple ⟨a :: b :: c :: d :: l⟩) 3 = some d := Eq.trans rfl rfl
theorem nilV_ptr (a : Addr) : nilV (.pointer (some a)) = some (.pointer (some a)) := Eq.trans rfl rfl
theorem fldV_0 (b o : Nat) : fldV 0 (.pointer (some ⟨b, o, none⟩)) = some (.pointer (some ⟨b, o, none⟩)) := Eq.trans rfl rfl
theorem add_lit (b o n : Nat) : (⟨b, o, none⟩ : Addr).add n = ⟨b, o + n, none⟩ := by
  unfold Addr.add; split <;> simp_all
theorem fldV_ptr (n b o : Nat) : fldV n (.pointer (some ⟨b, o, none⟩)) = some (.pointer (some ⟨b, o + n, none⟩)) := by
  show some (Value.pointer (some ((⟨b, o, none⟩ : Addr).add n))) = _
  rw [add_lit]
theorem ldV_ptr (h : Heap) (a : Addr) : ldV h (.pointer (some a)) = cellOf h a := Eq.trans rfl rfl
theorem idxV_nat {s b o len cap : Nat} {k : IntKind} {i : Nat} (hi : i < len) : idxV s (.slice (some ⟨b, o, none⟩) len cap) (.int k (i : Int)) = some (.pointer (some ⟨b, o + i * s, none⟩)) := by
  show (if 0 ≤ (i : Int) ∧ (i : Int) < (len : Int) then some (Value.pointer (some ((⟨b, o, none⟩ : Addr).add ((i : Int).toNat * s)))) else none) = _
  rw [if_pos (by omega), add_lit, Int.toNat_natCast]

/-! ### heaps -/
theorem cell_row {h : Heap} {b o : Nat} {c : Array Value} {t : TypeId} {f : Nat × Nat} (hb : h[b]? = some (.cells c t f)) : cellOf h ⟨b, o, none⟩ = c[o]? := by
  unfold cellOf; simp [hb]

theorem push_old {h : Heap} {o : Obj} {b : Nat} (hb : b < h.size) : (h.push o)[b]? = h[b]? := by
  rw [Array.getElem?_push, if_neg (by omega)]
theorem push_new {h : Heap} {o : Obj} : (h.push o)[h.size]? = some o := by simp

/-- All that was is as it was; there may be more. -/
def Ext (h h' : Heap) : Prop := h.size ≤ h'.size ∧ ∀ b, b < h.size → h'[b]? = h[b]?
theorem Ext.refl (h : Heap) : Ext h h := ⟨Nat.le_refl _, fun _ _ => rfl⟩
theorem Ext.trans {a b c : Heap} (h : Ext a b) (k : Ext b c) : Ext a c := ⟨Nat.le_trans h.1 k.1, fun i hi => (k.2 i (Nat.lt_of_lt_of_le hi h.1)).trans (h.2 i hi)⟩
theorem Ext.push (h : Heap) (o : Obj) : Ext h (h.push o) := ⟨by simp, fun b hb => push_old hb⟩
theorem Ext.cell {h h' : Heap} (e : Ext h h') {a : Addr} {v : Value} (hc : cellOf h a = some v) : cellOf h' a = some v := by
  unfold cellOf at *
  rcases Nat.lt_or_ge a.block h.size with hb | hb
  · rw [e.2 _ hb]; exact hc
  · rw [Array.getElem?_eq_none hb] at hc; cases hc

/-! ### what is behind isn't looked at before its time -/
theorem vK_congr {r r' : Option Value} {K : Value → Prop} (h : r = r') : vK r K = vK r' K := by rw [h]
theorem iteK_congr {c c' : Value} {x y : Prop} (h : c = c') : iteK c x y = iteK c' x y := by rw [h]
theorem FCall_congr {P : Program} {f : FuncId} {args args' : Array Value} {h h' : Heap} {K : Value → Heap → Prop} (ha : args = args') (hh : h = h') : FCall P f args h K = FCall P f args' h' K := by rw [ha, hh]
theorem loopK_congr {a a' : List Value} {h h' : Heap} {body : List Value → Env → Heap → (List Value → Heap → Prop) → Prop} (ha : a = a') (hh : h = h') : loopK a h body = loopK a' h' body := by rw [ha, hh]
theorem gK_congr {g g' : Value} {w : Bool} {m : (Value → Heap → Prop) → Prop} {h : Heap} {K : Value → Heap → Prop} (hg : g = g') : gK g w m h K = gK g' w m h K := by rw [hg]
theorem newK_congr {c c' : Array Value} {t : TypeId} {h : Heap} {K : Value → Heap → Prop} (hc : c = c') : newK c t h K = newK c' t h K := by rw [hc]
theorem stK_congr {n : Nat} {x x' v v' : Value} {h : Heap} {K : Value → Heap → Prop} (hx : x = x') (hv : v = v') : stK n x v h K = stK n x' v' h K := by rw [hx, hv]
theorem rowK_congr {c : Array Value} {e : TypeId} {n : Nat} {l l' : List (Nat × Nat × Value)} {h : Heap} {K : Value → Heap → Prop} (hl : l = l') : rowK c e n l h K = rowK c e n l' h K := by rw [hl]
theorem mkK_congr {z : Value} {e : TypeId} {s b : Nat} {l l' c c' : Value} {h : Heap} {K : Value → Heap → Prop} (hl : l = l') (hc : c = c') : mkK z e s b l c h K = mkK z e s b l' c' h K := by rw [hl, hc]
theorem appK_congr {z : Value} {e : TypeId} {s b : Nat} {l l' c c' : Value} {h : Heap} {K : Value → Heap → Prop} (hl : l = l') (hc : c = c') : appK z e s b l c h K = appK z e s b l' c' h K := by rw [hl, hc]
theorem cpyK_congr {s : Nat} {l l' c c' : Value} {h : Heap} {K : Value → Heap → Prop} (hl : l = l') (hc : c = c') : cpyK s l c h K = cpyK s l' c' h K := by rw [hl, hc]
theorem drawK_congr {h h' : Heap} {b : (Heap → Prop) → Prop} (hh : h = h') : drawK h b = drawK h' b := by rw [hh]
theorem qK_congr {S : Heap → Prop} {r r' : Heap → Option Value} {K : Value → Prop} (hr : r = r') : qK S r K = qK S r' K := by rw [hr]
theorem mapPutK_congr {d : TypeDesc} {m m' k k' v v' : Value} {h : Heap} {K : Value → Heap → Prop} (h1 : m = m') (h2 : k = k') (h3 : v = v') : mapPutK d m k v h K = mapPutK d m' k' v' h K := by rw [h1, h2, h3]
theorem mapDelK_congr {d : TypeDesc} {m m' k k' : Value} {h : Heap} {K : Value → Heap → Prop} (h1 : m = m') (h2 : k = k') : mapDelK d m k h K = mapDelK d m' k' h K := by rw [h1, h2]
attribute [congr] vK_congr iteK_congr FCall_congr loopK_congr gK_congr newK_congr stK_congr rowK_congr mkK_congr appK_congr cpyK_congr drawK_congr qK_congr mapPutK_congr mapDelK_congr

theorem newK_eq (c : Array Value) (t : TypeId) (h : Heap) (K : Value → Heap → Prop) : newK c t h K = K (.pointer (some ⟨h.size, 0, none⟩)) (h.push (.cells c t)) := Eq.trans rfl rfl
/-- A new variable: where it lies is not asked. -/
theorem newK_use {c : Array Value} {t : TypeId} {h : Heap} {K : Value → Heap → Prop} (H : ∀ b h', h'[b]? = some (.cells c t (0, 0)) → Ext h h' → h.size ≤ b → K (.pointer (some ⟨b, 0, none⟩)) h') : newK c t h K :=
  H h.size (h.push (.cells c t)) push_new (Ext.push h _) (Nat.le_refl _)
theorem Ext.row {h h' : Heap} (e : Ext h h') {b : Nat} {o : Obj} (hb : h[b]? = some o) : h'[b]? = some o := by
  rw [e.2 b (Array.getElem?_eq_some_iff.1 hb).1]; exact hb
theorem cells_agg (c : Array Value) : Value.cells (.agg c) = c := Eq.trans rfl rfl
theorem cell_push (h : Heap) (x : Obj) (b o : Nat) : cellOf (h.push x) ⟨b, o, none⟩ = if b = h.size then (match x with | .cells c _ _ => c[o]? | _ => none) else cellOf h ⟨b, o, none⟩ := by
  unfold cellOf
  simp only [Array.getElem?_push]
  by_cases hb : b = h.size
  · rw [if_pos hb, if_pos hb]
    cases x <;> rfl
  · rw [if_neg hb, if_neg hb]
theorem loads_cons (h : Heap) (b o i n : Nat) : loadsOf h ⟨b, o, none⟩ i (n + 1) = match cellOf h ⟨b, o + i, none⟩ with
    | some v => match loadsOf h ⟨b, o, none⟩ (i + 1) n with
      | some l => some (v :: l)
      | none => none
    | none => none := by
  have e : loadsOf h ⟨b, o, none⟩ i (n + 1) = match cellOf h ((⟨b, o, none⟩ : Addr).add i) with
    | some v => match loadsOf h ⟨b, o, none⟩ (i + 1) n with
      | some l => some (v :: l)
      | none => none
    | none => none := rfl
  rw [e, add_lit]
theorem loads_zero (h : Heap) (a : Addr) (i : Nat) : loadsOf h a i 0 = some [] := Eq.trans rfl rfl
theorem ldsV_ptr (n : Nat) (h : Heap) (a : Addr) : ldsV n h (.pointer (some a)) = (loadsOf h a 0 n).map fun l => .agg l.toArray := Eq.trans rfl rfl

/-- A row that is known is read in one piece. -/
theorem loads_row {h : Heap} {b o : Nat} : ∀ (l : List Value) (i : Nat), (∀ j (hj : j < l.length), cellOf h ⟨b, o + i + j, none⟩ = some l[j]) → loadsOf h ⟨b, o, none⟩ i l.length = some l
  | [], _, _ => rfl
  | v :: l, i, H => by
    rw [List.length_cons, loads_cons]
    have h0 := H 0 (by simp)
    simp only [Nat.add_zero, List.getElem_cons_zero] at h0
    rw [h0]
    have := loads_row l (i + 1) fun j hj => by
      have := H (j + 1) (by simpa using hj)
      simpa [Nat.add_assoc, Nat.add_comm 1 j] using this
    simp only [this]
theorem ldsV_row {h : Heap} {b o : Nat} (l : List Value) (n : Nat) (hn : l.length = n) (H : ∀ j (hj : j < l.length), cellOf h ⟨b, o + j, none⟩ = some l[j]) : ldsV n h (.pointer (some ⟨b, o, none⟩)) = some (.agg l.toArray) := by
  subst hn
  rw [ldsV_ptr, loads_row l 0 (by simpa using H)]
  rfl

theorem lds_row {h : Heap} {b : Nat} {l : List Value} {t : TypeId} {f : Nat × Nat} (hb : h[b]? = some (.cells l.toArray t f)) (n : Nat) (hn : l.length = n) : ldsV n h (.pointer (some ⟨b, 0, none⟩)) = some (.agg l.toArray) :=
  ldsV_row l n hn fun j hj => by rw [Nat.zero_add, cell_row hb]; simp

/-! ### what was read is still read where there is only more -/
theorem Ext.loads {h h' : Heap} (e : Ext h h') {a : Addr} : ∀ {n i : Nat} {l : List Value}, loadsOf h a i n = some l → loadsOf h' a i n = some l
  | 0, _, _, H => H
  | n + 1, i, l, H => by
    unfold loadsOf at H ⊢
    cases hc : cellOf h (a.add i) with
    | none => simp [hc] at H
    | some v =>
      simp only [hc] at H
      rw [e.cell hc]
      cases hl : loadsOf h a (i + 1) n with
      | none => simp [hl] at H
      | some l' =>
        simp only [hl] at H
        simp only [e.loads hl]
        exact H
theorem Ext.lds {h h' : Heap} (e : Ext h h') {n : Nat} {x v : Value} (H : ldsV n h x = some v) : ldsV n h' x = some v := by
  unfold ldsV at *
  split at H
  · rename_i a
    cases hl : loadsOf h a 0 n with
    | none => simp [hl] at H
    | some l =>
      simp only [hl] at H
      simp only [e.loads hl]
      exact H
  · cases H
theorem Ext.ld {h h' : Heap} (e : Ext h h') {x v : Value} (H : ldV h x = some v) : ldV h' x = some v := by
  unfold ldV at *
  split at H
  · exact e.cell H
  · cases H

/-! ### stores -/
theorem setObj_get (h : Heap) (b k : Nat) (o : Obj) : (setObjH h b o)[k]? = if k = b then (if b < h.size then some o else none) else h[k]? := by
  unfold setObjH
  rw [Array.getElem?_setIfInBounds]
  by_cases hk : k = b
  · subst hk; simp
  · rw [if_neg (Ne.symm hk), if_neg hk]
theorem setObj_size (h : Heap) (b : Nat) (o : Obj) : (setObjH h b o).size = h.size := by simp [setObjH]
theorem setObj_push (h : Heap) (x y : Obj) : setObjH (h.push x) h.size y = h.push y := by
  unfold setObjH
  apply Array.ext'
  simp
theorem setCell_row {h : Heap} {b o : Nat} {cur : Array Value} {t : TypeId} {f : Nat × Nat} {v : Value} (hb : h[b]? = some (.cells cur t f)) : setCellH h ⟨b, o, none⟩ v = setObjH h b (.cells (cur.setIfInBounds o v) t f) := by
  have hlt : b < h.size := (Array.getElem?_eq_some_iff.1 hb).1
  unfold setCellH
  apply Array.ext
  · simp [setObj_size]
  · intro i h1 h2
    apply Option.some.inj
    rw [← Array.getElem?_eq_getElem, ← Array.getElem?_eq_getElem, setObj_get, Array.getElem?_modify]
    by_cases hi : i = b
    · subst hi
      have e : h[i] = .cells cur t f := by rw [Array.getElem?_eq_getElem hlt] at hb; exact Option.some.inj hb
      simp [hlt, e]
    · rw [if_neg (Ne.symm hi), if_neg hi]
/-- A row with some cells written, one behind the other. -/
def wrL (cur : Array Value) : Nat → List Value → Array Value
  | _, [] => cur
  | o, v :: l => wrL (cur.setIfInBounds o v) (o + 1) l
theorem wrL_size : ∀ (l : List Value) (cur : Array Value) (o : Nat), (wrL cur o l).size = cur.size
  | [], _, _ => rfl
  | v :: l, cur, o => by simp [wrL, wrL_size l]
theorem wrL_get : ∀ (l : List Value) (cur : Array Value) (o k : Nat), o + l.length ≤ cur.size → (wrL cur o l)[k]? = if o ≤ k ∧ k < o + l.length then l[k - o]? else cur[k]?
  | [], cur, o, k, _ => by simp only [wrL, List.length_nil]; rw [if_neg (by omega)]
  | v :: l, cur, o, k, h => by
    simp only [List.length_cons] at h
    simp only [wrL]
    rw [wrL_get l _ (o + 1) k (by simp; omega)]
    by_cases hk : k = o
    · subst hk
      rw [if_neg (by omega), if_pos (by simp)]
      rw [Array.getElem?_setIfInBounds]
      simp; omega
    · by_cases h2 : o + 1 ≤ k ∧ k < o + 1 + l.length
      · rw [if_pos h2, if_pos (by simp only [List.length_cons]; omega)]
        rw [show k - o = (k - (o + 1)) + 1 from by omega]
        simp
      · rw [if_neg h2, if_neg (by simp only [List.length_cons]; omega)]
        rw [Array.getElem?_setIfInBounds_ne (Ne.symm hk)]
theorem wrL_all (l : List Value) (cur : Array Value) (h : l.length = cur.size) : wrL cur 0 l = l.toArray := by
  apply Array.ext
  · simp [wrL_size, h]
  · intro i h1 h2
    apply Option.some.inj
    rw [← Array.getElem?_eq_getElem, ← Array.getElem?_eq_getElem, wrL_get l cur 0 i (by omega)]
    simp only [wrL_size] at h1
    rw [if_pos (by omega)]
    simp
theorem stores_row {t : TypeId} {b o : Nat} : ∀ (l : List Value) (i : Nat) (h : Heap) (cur : Array Value), h[b]? = some (.cells cur t (0, 0)) → o + i + l.length ≤ cur.size → (∀ v ∈ l, oneCell v = true) →
    storesOf h ⟨b, o, none⟩ i l = some (setObjH h b (.cells (wrL cur (o + i) l) t (0, 0)))
  | [], i, h, cur, hb, _, _ => by
    simp only [storesOf, wrL, Option.some.injEq]
    have hlt : b < h.size := (Array.getElem?_eq_some_iff.1 hb).1
    apply Array.ext
    · simp [setObj_size]
    · intro k h1 h2
      apply Option.some.inj
      rw [← Array.getElem?_eq_getElem, ← Array.getElem?_eq_getElem, setObj_get]
      split
      · rename_i hk; subst hk; first | rw [if_pos hlt, hb] | exact hb
      · rfl
  | v :: l, i, h, cur, hb, hs, h1 => by
    simp only [List.length_cons] at hs
    have hlt : b < h.size := (Array.getElem?_eq_some_iff.1 hb).1
    have hc : cellOf h ⟨b, o + i, none⟩ = some cur[o + i] := by rw [cell_row hb, Array.getElem?_eq_getElem (by omega)]
    have hf : frozenOf h ⟨b, o + i, none⟩ = false := by unfold frozenOf; simp [hb]
    unfold storesOf
    rw [add_lit]
    simp only [hc, hf, h1 v (by simp), Bool.not_false, Bool.and_self, cond_true]
    rw [setCell_row hb]
    rw [stores_row l (i + 1) _ (cur.setIfInBounds (o + i) v) (by rw [setObj_get, if_pos rfl, if_pos hlt]) (by simp; omega) (fun u hu => h1 u (by simp [hu]))]
    simp only [wrL, Nat.add_assoc, Option.some.injEq]
    unfold setObjH
    simp
theorem stN {t : TypeId} {b o n : Nat} {h : Heap} {cur : Array Value} {l : List Value} {K : Value → Heap → Prop} (hb : h[b]? = some (.cells cur t (0, 0))) (hs : o + l.length ≤ cur.size) (h1 : ∀ v ∈ l, oneCell v = true) (hn : l.length = n)
    (hK : K undef (setObjH h b (.cells (wrL cur o l) t (0, 0)))) : stK n (.pointer (some ⟨b, o, none⟩)) (.agg l.toArray) h K := by
  unfold stK
  have := stores_row (t := t) (b := b) (o := o) l 0 h cur hb (by simpa using hs) h1
  simp only [Value.cells, List.size_toArray, hn, if_true, this]
  exact hK
theorem cells_one {v : Value} (h : oneCell v = true) : v.cells = #[v] := by cases v <;> first | rfl | cases h
theorem st1 {t : TypeId} {b o : Nat} {h : Heap} {cur : Array Value} {v : Value} {K : Value → Heap → Prop} (hb : h[b]? = some (.cells cur t (0, 0))) (hs : o < cur.size) (h1 : oneCell v = true)
    (hK : K undef (setObjH h b (.cells (cur.setIfInBounds o v) t (0, 0)))) : stK 1 (.pointer (some ⟨b, o, none⟩)) v h K := by
  unfold stK
  have := stores_row (t := t) (b := b) (o := o) [v] 0 h cur hb (by simp; omega) (by simpa using h1)
  simp only [cells_one h1, List.size_toArray, List.length_cons, List.length_nil, if_true, this]
  exact hK
/-- A variable that has just been made is filled. -/
theorem st_new {t : TypeId} {n : Nat} {h : Heap} {old : Array Value} {l : List Value} {K : Value → Heap → Prop} (hs : l.length = old.size) (h1 : ∀ v ∈ l, oneCell v = true) (hn : l.length = n)
    (hK : K undef (h.push (.cells l.toArray t))) : stK n (.pointer (some ⟨h.size, 0, none⟩)) (.agg l.toArray) (h.push (.cells old t)) K := by
  refine stN (cur := old) (t := t) (by simp) (by omega) h1 hn ?_
  rw [setObj_push, wrL_all l old hs]
  exact hK

/-- One block alone has been written. -/
def Upd (b : Nat) (h h' : Heap) : Prop := h'.size = h.size ∧ ∀ k, k ≠ b → h'[k]? = h[k]?
theorem Upd.row {b k : Nat} {h h' : Heap} (u : Upd b h h') (hk : k ≠ b) {o : Obj} (r : h[k]? = some o) : h'[k]? = some o := by rw [u.2 k hk]; exact r
theorem Upd.set {b : Nat} {h : Heap} {o : Obj} : Upd b h (setObjH h b o) := ⟨setObj_size h b o, fun k hk => by rw [setObj_get, if_neg hk]⟩
theorem Ext.upd {h h1 h2 : Heap} {b : Nat} (e : Ext h h1) (hb : h.size ≤ b) (u : Upd b h1 h2) : Ext h h2 :=
  ⟨by rw [u.1]; exact e.1, fun k hk => by rw [u.2 k (by omega)]; exact e.2 k hk⟩
theorem set_get {h : Heap} {b : Nat} {o o' : Obj} (r : h[b]? = some o) : (setObjH h b o')[b]? = some o' := by
  rw [setObj_get, if_pos rfl, if_pos (Array.getElem?_eq_some_iff.1 r).1]
/-- A variable is filled whole. -/
theorem st_var {t : TypeId} {b n : Nat} {h : Heap} {old : Array Value} {l : List Value} {K : Value → Heap → Prop} (r : h[b]? = some (.cells old t (0, 0))) (hs : l.length = old.size) (h1 : ∀ v ∈ l, oneCell v = true) (hn : l.length = n)
    (hK : ∀ h', h'[b]? = some (.cells l.toArray t (0, 0)) → Upd b h h' → K undef h') : stK n (.pointer (some ⟨b, 0, none⟩)) (.agg l.toArray) h K := by
  refine stN r (by omega) h1 hn ?_
  rw [wrL_all l old hs]
  exact hK _ (set_get r) Upd.set
/-- A cell is written. -/
theorem st_cell {t : TypeId} {b o : Nat} {h : Heap} {cur : Array Value} {v : Value} {K : Value → Heap → Prop} (r : h[b]? = some (.cells cur t (0, 0))) (hs : o < cur.size) (h1 : oneCell v = true)
    (hK : ∀ h', h'[b]? = some (.cells (cur.setIfInBounds o v) t (0, 0)) → Upd b h h' → K undef h') : stK 1 (.pointer (some ⟨b, o, none⟩)) v h K :=
  st1 r hs h1 (hK _ (set_get r) Upd.set)

/-- A row that is made of its parts. -/
theorem rowK_use {c c' : Array Value} {e : TypeId} {n : Nat} {l : List (Nat × Nat × Value)} {h : Heap} {K : Value → Heap → Prop} (hf : fillL c l = some c')
    (H : ∀ b h', h'[b]? = some (.cells c' e (0, 0)) → Ext h h' → h.size ≤ b → K (.slice (some ⟨b, 0, none⟩) n n) h') : rowK c e n l h K := by
  unfold rowK
  rw [hf]
  exact H h.size (h.push (.cells c' e)) push_new (Ext.push h _) (Nat.le_refl _)

/-! ### loops -/
theorem least {p : Nat → Prop} : ∀ (n : Nat), p n → ∃ m, p m ∧ ∀ k, p k → m ≤ k := by
  intro n
  induction n using Nat.strongRecOn with
  | _ n ih =>
    intro hn
    by_cases hx : ∃ k, k < n ∧ p k
    · obtain ⟨k, hk, hp⟩ := hx
      exact ih k hk hp
    · exact ⟨n, hn, fun k hk => Nat.le_of_not_lt fun hlt => hx ⟨k, hlt, hk⟩⟩

/-- A loop with what it still has to do as a ghost. -/
theorem loopK_var {init : List Value} {h : Heap} {body : List Value → Env → Heap → (List Value → Heap → Prop) → Prop} (I : Nat → List Value → Heap → Prop) (d0 : Nat) (h0 : I d0 init h)
    (step : ∀ d xs ρj h again, I d xs h → (∀ ys h' d', d' < d → I d' ys h' → again ys h') → body xs ρj h again) : loopK init h body := by
  have hex : ∀ xs h, ∃ m : Nat, (∃ d, I d xs h) → I m xs h ∧ ∀ k, I k xs h → m ≤ k := by
    intro xs h
    by_cases hx : ∃ d, I d xs h
    · obtain ⟨d, hd⟩ := hx
      obtain ⟨m, hm, hl⟩ := least (p := fun d => I d xs h) d hd
      exact ⟨m, fun _ => ⟨hm, hl⟩⟩
    · exact ⟨0, fun h => absurd h hx⟩
  let m : List Value → Heap → Nat := fun xs h => Classical.choose (hex xs h)
  have hm : ∀ xs h, (∃ d, I d xs h) → I (m xs h) xs h ∧ ∀ k, I k xs h → m xs h ≤ k := fun xs h => Classical.choose_spec (hex xs h)
  refine ⟨fun xs h => ∃ d, I d xs h, m, ⟨d0, h0⟩, ?_⟩
  intro xs ρj h hI
  refine step (m xs h) xs ρj h _ (hm xs h hI).1 ?_
  intro ys h' d' hd hI'
  exact ⟨⟨d', hI'⟩, Nat.lt_of_le_of_lt ((hm ys h' ⟨d', hI'⟩).2 d' hI') hd⟩

theorem joinK_intro {body : (List Value → Heap → Prop) → Prop} {rest : List Value → Env → Heap → Prop} (J : List Value → Heap → Prop) (h1 : body J) (h2 : ∀ xs ρj h, J xs h → rest xs ρj h) : joinK body rest := ⟨J, h1, h2⟩

theorem drawK_ext {h : Heap} {body : (Heap → Prop) → Prop} (H : body (Ext h)) : drawK h body := ⟨Ext h, Ext.refl h, H⟩
theorem qK_val {S : Heap → Prop} {r : Heap → Option Value} {K : Value → Prop} (v : Value) (h : ∀ h, S h → r h = some v) (hK : K v) : qK S r K := ⟨v, h, hK⟩

attribute [go_sem] gV_und gK_und vK_some iteK_true iteK_false gV_true gV_false gV_tf gV_ft gK_true gK_false gK_tf gK_ft pickV_true pickV_false ix_0 ix_1 ix_2 ix_3 ix_4 ix_5
  binV_add binV_sub binV_mul binV_lss binV_leq binV_gtr binV_geq binV_eql binV_neq binV_beq binV_bne unV_not unV_neg cviV_int maxV_int minV_int
  cells_agg lenslV_sl lenstV_st List.getElem?_toArray List.getElem?_cons_zero List.getElem?_cons_succ Nat.zero_add decide_true decide_false Bool.not_true Bool.not_false Bool.and_true Bool.and_false Bool.or_true Bool.or_false Bool.true_and Bool.false_and Bool.true_or Bool.false_or not_true_eq_false not_false_eq_true extV_0 extV_1 extV_2 extV_3 nilV_ptr fldV_0 fldV_ptr ldV_ptr
end Go.Crisp
