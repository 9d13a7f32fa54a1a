/- Strings as lists of bytes; the library's numerals and Join; names and signs. Conditions: none. -/
import Derived.Test.YtodmlimajnbmkaaDoorSa
import Derived.Test.YtodmlimajnbmkaaDoorEe
import Derived.Test.YtodmlimajnbmkaaDoorLz
import Derived.Lib.ItoaLen
set_option linter.unusedVariables false
set_option linter.unusedSimpArgs false
set_option maxRecDepth 10000
namespace Go.Crisp
open Go Go.RowKit Go.Sort
/-- A string of these bytes. -/
def S (l : List UInt8) : Value := .string ⟨⟨l⟩⟩
theorem S_lit (l : List UInt8) : Value.string ⟨l.toArray⟩ = S l := rfl
theorem S_nil : Value.string ⟨#[]⟩ = S [] := rfl
theorem S_lit' (l : List UInt8) : Value.string ⟨⟨l⟩⟩ = S l := rfl
theorem one_S (l : List UInt8) : oneCell (S l) = true := rfl
theorem S_inj {a b : List UInt8} (h : S a = S b) : a = b := by
  unfold S at h
  injection h with h
  injection h with h
  injection h
theorem binS_add {a b : List UInt8} (h : a.length + b.length ≤ 9223372036854775807) : binV .s .add (S a) (S b) = some (S (a ++ b)) := by
  have e : (ByteArray.mk (Array.mk a) ++ ByteArray.mk (Array.mk b)) = ByteArray.mk (Array.mk (a ++ b)) := by
    apply ByteArray.ext
    rw [ByteArray.data_append]
    simp
  have hs : ∀ l : List UInt8, (ByteArray.mk (Array.mk l)).size = l.length := fun l => rfl
  show (if (((ByteArray.mk (Array.mk a)).size + (ByteArray.mk (Array.mk b)).size : Nat) : Int) > IntKind.i64.max then none else some (Value.string (ByteArray.mk (Array.mk a) ++ ByteArray.mk (Array.mk b)))) = _
  have hm : IntKind.i64.max = 9223372036854775807 := rfl
  rw [e, hs, hs, if_neg (by rw [hm]; omega)]
  rfl
theorem S_eq (a b : List UInt8) : ((⟨⟨a⟩⟩ : ByteArray) = ⟨⟨b⟩⟩) ↔ a = b := by
  constructor
  · intro h
    injection h with h
    injection h
  · rintro rfl; rfl
theorem binS_eql (a b : List UInt8) : binV .s .eql (S a) (S b) = some (.bool (decide (a = b))) := by
  show some (Value.bool ((ByteArray.mk (Array.mk a)).toList == (ByteArray.mk (Array.mk b)).toList)) = _
  rw [ByteArray.toList_eq, ByteArray.toList_eq]
  congr 2
  by_cases h : a = b
  · subst h; simp
  · rw [decide_eq_false h]; simpa using h
theorem binS_neq (a b : List UInt8) : binV .s .neq (S a) (S b) = some (.bool (!decide (a = b))) := by
  show some (Value.bool (!((ByteArray.mk (Array.mk a)).toList == (ByteArray.mk (Array.mk b)).toList))) = _
  rw [ByteArray.toList_eq, ByteArray.toList_eq]
  congr 3
  by_cases h : a = b
  · subst h; simp
  · rw [decide_eq_false h]; simpa using h
theorem lenS (l : List UInt8) : lenstV (S l) = some (.int .i64 l.length) := rfl
theorem cvrs_lit (k : IntKind) (n : Int) (l : List UInt8) (h : Utf8.encode n = ⟨⟨l⟩⟩) : cvrsV (.int k n) = some (S l) := by
  show some (Value.string (Utf8.encode n)) = _
  rw [h]; rfl
theorem Same.of_grow (w : World) (k : Nat) (os : Array Obj) : Same w (grow (w.drewN k) os) ∧ Ext w.heap (grow (w.drewN k) os).heap := by
  refine ⟨⟨rfl, rfl, rfl⟩, by simp [grow, World.drewN], fun b hb => ?_⟩
  show (w.heap ++ os)[b]? = w.heap[b]?
  rw [Array.getElem?_append_left hb]
theorem below_same {w w' : World} (H : Below w.heap.size w w') : Same w w' ∧ Ext w.heap w'.heap := ⟨⟨H.os, H.tape, H.output⟩, H.size, fun b hb => H.block b hb⟩
namespace Rp
def bs : Rp (List UInt8) where
  w := 1
  R := fun _ _ cs n => cs = [S n]
  len := by rintro _ _ _ _ rfl; rfl
  one := by rintro _ _ _ _ rfl; simp [one_S]
  fr := fun H _ _ => H
  mono := fun H _ => H
end Rp
theorem gK_und (w : Bool) (m : (Value → Heap → Prop) → Prop) (h : Heap) (K : Value → Heap → Prop) : gK undef w m h K = K undef h := rfl
attribute [go_sem] gK_und S_lit binS_eql binS_neq lenS
/-- A row of strings of one's own. -/
def Words (h : Heap) (v : Value) (l : List (List UInt8)) : Prop := Rp.Ow Rp.bs (fun _ => False) h v l
theorem Words.own {h : Heap} {v : Value} {l : List (List UInt8)} (H : Words h v l) : Own 1 h v l.length (l.map S) := by
  obtain ⟨ds, ho, _, he⟩ := H
  have hl : ds.length = l.length := by have := ho.sl.1; simpa [Rp.bs] using this
  have : ds = l.map S := by
    apply List.ext_getElem
    · simpa using hl
    · intro i h1 h2
      have := he i (by omega)
      have e : Rp.el 1 ds i = [ds[i]] := Rp.el_one h1
      have this : Rp.el 1 ds i = [S l[i]] := this
      rw [e] at this
      simpa using this
  subst this
  exact ho
end Go.Crisp

namespace Go.Proofs.YtodmlimajnbmkaaDoor
open Go Go.Crisp
attribute [local irreducible] FCall rowK newK stK iteK vK qK drawK gK joinK loopK mkK appK cpyK

def bName (b : Int) : List UInt8 := if b = 0 then [99, 108, 97, 109, 112] else if b = 1 then [109, 105, 114, 114, 111, 114] else if b = 2 then [119, 114, 97, 112] else []
def fName (b : Int) : List UInt8 := if b = 0 then [98, 111, 120] else if b = 1 then [99, 117, 98, 105, 99] else if b = 2 then [108, 97, 110, 99, 122, 111, 115] else []
def kSign (k : Int) : List UInt8 := if k = 0 then [207, 131] else if k = 1 then [226, 150, 161] else if k = 2 then [226, 138, 151] else if k = 3 then [226, 134, 148] else []
def kRune (k : Int) : Int := if k = 0 then 963 else if k = 1 then 9633 else if k = 2 then 8855 else if k = 3 then 8596 else 0

section
attribute [local semireducible] FCall
theorem c_FormatInt {h : Heap} (G : GlobH h) {n : Int} (h0 : -9223372036854775808 ≤ n) (h1 : n ≤ 9223372036854775807) :
    FCall Tryd.prog F_strconv_FormatInt #[.int .i64 n, .int .i64 10] h fun r h' => r = S (Lib.itoa n) ∧ Ext h h' := by
  refine ⟨by kernel_rfl, fun w hw => ?_⟩
  refine (Any.strconv_FormatInt_10 lay_FormatInt n h0 h1 w (G.tab.is w hw)).mono ?_
  rintro e w' ⟨rfl, k, os, rfl⟩
  obtain ⟨a, b⟩ := Same.of_grow w k os
  exact ⟨_, rfl, a, rfl, hw ▸ b⟩
theorem c_Itoa {h : Heap} (G : GlobH h) {n : Int} (h0 : -9223372036854775808 ≤ n) (h1 : n ≤ 9223372036854775807) :
    FCall Tryd.prog F_strconv_Itoa #[.int .i64 n] h fun r h' => r = S (Lib.itoa n) ∧ Ext h h' := by
  refine ⟨by kernel_rfl, fun w hw => ?_⟩
  refine (Any.strconv_Itoa lay_Itoa n h0 h1 w (G.tab.is w hw)).mono ?_
  rintro e w' ⟨rfl, k, os, rfl⟩
  obtain ⟨a, b⟩ := Same.of_grow w k os
  exact ⟨_, rfl, a, rfl, hw ▸ b⟩
theorem c_Join {h : Heap} {v : Value} {l : List (List UInt8)} {sep : List UInt8} (H : Words h v l) (hN : l.length ≤ 140737488355328) (hlen : (Lib.join l sep).length ≤ 140737488355328) :
    FCall Tryd.prog F_strings_Join #[v, S sep] h fun r h' => r = S (Lib.join l sep) ∧ Ext h h' := by
  refine ⟨by kernel_rfl, fun w hw => ?_⟩
  subst hw
  have hm : ∀ l : List (List UInt8), (l.map fun x => (ByteArray.mk (Array.mk x))).map (·.data.toList) = l := fun l => by
    induction l with
    | nil => rfl
    | cons x l ih => simp only [List.map_cons, ih]
  rcases H.own with ⟨rfl, hl, _⟩ | ⟨b, cap, r, e, rfl, hc, _, hs, hb⟩
  · have : l = [] := List.eq_nil_of_length_eq_zero hl
    subst this
    refine (Any.strings_Join_none lay_Join lay_JoinX none 0 ⟨⟨sep⟩⟩ w).mono ?_
    rintro e w' ⟨rfl, rfl⟩
    exact ⟨_, rfl, Same.refl _, rfl, Ext.refl _⟩
  · have := Any.strings_Join lay_Join lay_JoinX b 0 cap (l.map fun x => (ByteArray.mk (Array.mk x))) ⟨⟨sep⟩⟩ w (fun j x hj => by
      rw [List.getElem?_map, Option.map_eq_some_iff] at hj
      obtain ⟨y, hy, rfl⟩ := hj
      obtain ⟨hj, rfl⟩ := List.getElem?_eq_some_iff.1 hy
      rw [cell?_eq, cell_row hb]
      simp only [List.getElem?_toArray, Nat.zero_add]
      rw [List.getElem?_append_left (by simpa using hj)]
      simp [hj, S]) (row_lt hb) (by simpa using hN) (by simpa using hc) (by rw [hm]; exact hlen)
    rw [hm, List.length_map] at this
    refine this.mono ?_
    rintro e w' ⟨rfl, hB⟩
    obtain ⟨a, b⟩ := below_same hB
    exact ⟨_, rfl, a, rfl, b⟩
end

theorem c_borderName {h : Heap} (G : GlobH h) {b : Int} :
    FCall Tryd.prog F_border_Name #[.int .i64 b] h fun r h' => r = S (bName b) ∧ h' = h := by
  apply ok_border_Name
  unfold sh_border_Name
  obtain ⟨v, hv, H⟩ := G.names
  obtain ⟨a, cap, rfl⟩ := H.isSl
  simp only [go_sem]
  by_cases h0 : b < 0
  · simp only [go_sem, decide_eq_true h0]
    refine ⟨?_, trivial⟩
    unfold bName
    rw [if_neg (by omega), if_neg (by omega), if_neg (by omega)]
  · simp only [go_sem, decide_eq_false h0, hv]
    refine iteK_dec (fun h1 => ?_) (fun h1 => ?_)
    · refine ⟨?_, trivial⟩
      unfold bName
      rw [if_neg (by omega), if_neg (by omega), if_neg (by omega)]
    · obtain ⟨n, rfl⟩ : ∃ n : Nat, b = (n : Int) := ⟨b.toNat, by omega⟩
      obtain ⟨p, hp, hl⟩ := H.at1 (k := .i64) (i := n) (by omega)
      simp only [go_sem, hp, hl]
      refine ⟨?_, trivial⟩
      have hn : n < 3 := by omega
      have key : ∀ (i : Nat) (hi : i < [Value.string (borderName 0), Value.string (borderName 1), Value.string (borderName 2)].length), [Value.string (borderName 0), Value.string (borderName 1), Value.string (borderName 2)][i] = S (bName (i : Int)) := fun i hi => by
        match i, hi with
        | 0, _ => rfl
        | 1, _ => rfl
        | 2, _ => rfl
      exact key n _
theorem c_rawName {h : Heap} (G : GlobH h) {b : Int} :
    FCall Tryd.prog F_raw_Name #[.int .i64 b] h fun r h' => r = S (fName b) ∧ h' = h := by
  apply ok_raw_Name
  unfold sh_raw_Name
  simp only [go_sem]
  by_cases h0 : b < 0
  · simp only [go_sem, decide_eq_true h0]
    refine ⟨?_, trivial⟩
    unfold fName
    rw [if_neg (by omega), if_neg (by omega), if_neg (by omega)]
  · simp only [go_sem, decide_eq_false h0]
    refine iteK_dec (fun h1 => ?_) (fun h1 => ?_)
    · refine ⟨?_, trivial⟩
      unfold fName
      rw [if_neg (by omega), if_neg (by omega), if_neg (by omega)]
    · obtain ⟨n, rfl⟩ : ∃ n : Nat, b = (n : Int) := ⟨b.toNat, by omega⟩
      have hn : n < 3 := by omega
      have hk := (G.kinds n hn).1
      have e : idxaV 3 2 (.pointer (some ⟨G_raw_kinds, 0, none⟩)) (.int .i64 (n : Int)) = some (.pointer (some ⟨G_raw_kinds, 2 * n, none⟩)) := by
        show (if 0 ≤ (n : Int) ∧ (n : Int) < ((3 : Nat) : Int) then some (Value.pointer (some ((⟨G_raw_kinds, 0, none⟩ : Addr).add ((n : Int).toNat * 2)))) else none) = _
        rw [if_pos (by omega), add_lit, Int.toNat_natCast, Nat.zero_add, Nat.mul_comm]
      simp only [go_sem, e, Nat.add_zero, hk]
      refine ⟨?_, trivial⟩
      clear h0 h1 hk e
      match n, hn with
      | 0, _ => rfl
      | 1, _ => rfl
      | 2, _ => rfl
theorem c_refSign {h : Heap} {k : Int} : FCall Tryd.prog F_ref13_Sign #[.int .i64 k] h fun r h' => r = S (kSign k) ∧ h' = h := by
  apply ok_ref13_Sign
  unfold sh_ref13_Sign
  simp only [go_sem]
  unfold kSign
  refine iteK_dec (fun h1 => ?_) (fun h1 => ?_)
  · rw [if_pos h1]; exact ⟨rfl, trivial⟩
  rw [if_neg h1]
  refine iteK_dec (fun h1 => ?_) (fun h1 => ?_)
  · rw [if_pos h1]; exact ⟨rfl, trivial⟩
  rw [if_neg h1]
  refine iteK_dec (fun h1 => ?_) (fun h1 => ?_)
  · rw [if_pos h1]; exact ⟨rfl, trivial⟩
  rw [if_neg h1]
  refine iteK_dec (fun h1 => ?_) (fun h1 => ?_)
  · rw [if_pos h1]; exact ⟨rfl, trivial⟩
  rw [if_neg h1]
  exact ⟨rfl, trivial⟩

/-! ### the sign of a kind -/
def signsB : ByteArray := ⟨#[207, 131, 226, 150, 161, 226, 138, 151, 226, 134, 148]⟩
def signAt : Nat → Nat
  | 0 => 0
  | 1 => 2
  | 2 => 5
  | 3 => 8
  | _ => 11
theorem sign_dec : ∀ i : Fin 4, Utf8.decode signsB (signAt i) = ((kRune i).toNat, signAt (i + 1) - signAt i) ∧ (((kRune i).toNat : Nat) : Int) = kRune i := by decide +kernel
theorem sign_size : signsB.size = 11 := rfl
theorem sign_lt : ∀ i : Fin 4, signAt i < 11 ∧ signAt i + (signAt (i + 1) - signAt i) = signAt (i + 1) := by decide
theorem _root_.Go.Crisp.Upd.refl {b : Nat} {h : Heap} : Upd b h h := ⟨rfl, fun _ _ => rfl⟩
theorem _root_.Go.Crisp.Upd.trans {b : Nat} {h h1 h2 : Heap} (u : Upd b h h1) (v : Upd b h1 h2) : Upd b h h2 := ⟨v.1.trans u.1, fun k hk => (v.2 k hk).trans (u.2 k hk)⟩
theorem nextStr_some {h : Heap} {r pos : Nat} {s : ByteArray} {K : Value → Heap → Prop} (hr : h[r]? = some (.stringIter s pos)) (hp : pos < s.size)
    (H : ∀ h', h'[r]? = some (.stringIter s (pos + (Utf8.decode s pos).2)) → Upd r h h' → K (.tuple #[.bool true, .int .i64 (pos : Nat), .int .i32 (Utf8.decode s pos).1]) h') : nextStrK (.pointer (some ⟨r, 0, none⟩)) h K := by
  unfold nextStrK
  simp only [hr]
  rw [if_pos hp]
  exact H _ (set_get hr) Upd.set
theorem nextStr_none {h : Heap} {r pos : Nat} {s : ByteArray} {K : Value → Heap → Prop} (hr : h[r]? = some (.stringIter s pos)) (hp : ¬ pos < s.size)
    (H : K (.tuple #[.bool false]) h) : nextStrK (.pointer (some ⟨r, 0, none⟩)) h K := by
  unfold nextStrK
  simp only [hr]
  rw [if_neg hp]
  exact H
theorem rangeStr_use {h : Heap} {s : ByteArray} {K : Value → Heap → Prop} (H : ∀ r h', h'[r]? = some (.stringIter s 0) → Ext h h' → h.size ≤ r → K (.pointer (some ⟨r, 0, none⟩)) h') : rangeStrK (.string s) h K :=
  H h.size _ push_new (Ext.push _ _) (Nat.le_refl _)
attribute [local irreducible] nextStrK rangeStrK
theorem c_Sign {h : Heap} {k : Int} : FCall Tryd.prog F_recipe_Sign #[.int .i64 k] h fun r h' => r = .int .i32 (kRune k) ∧ Ext h h' := by
  apply ok_recipe_Sign
  unfold sh_recipe_Sign
  refine rangeStr_use fun r h1 r1 e1 n1 => ?_
  refine loopK_var (fun d xs h2 => ∃ i : Nat, i ≤ 4 ∧ d = 4 - i ∧ xs = [.int .i64 (i : Int)] ∧ h2[r]? = some (.stringIter signsB (signAt i)) ∧ Upd r h1 h2 ∧ ∀ j : Nat, j < i → k ≠ (j : Int)) 4
    ⟨0, by omega, rfl, rfl, r1, Upd.refl, fun j hj => absurd hj (by omega)⟩ ?_
  rintro d _ ρj h2 again ⟨i, hi, rfl, rfl, r2, u2, hk⟩ hag
  by_cases h4 : i = 4
  · subst h4
    refine nextStr_none r2 (by rw [sign_size]; exact Nat.lt_irrefl _) ?_
    simp only [go_sem]
    refine ⟨?_, e1.upd n1 u2⟩
    have := hk 0 (by omega); have := hk 1 (by omega); have := hk 2 (by omega); have := hk 3 (by omega)
    unfold kRune
    rw [if_neg (by omega), if_neg (by omega), if_neg (by omega), if_neg (by omega)]
  · have hi4 : i < 4 := by omega
    have hd : Utf8.decode signsB (signAt i) = ((kRune i).toNat, signAt (i + 1) - signAt i) := (sign_dec ⟨i, hi4⟩).1
    have hd2 : (((kRune i).toNat : Nat) : Int) = kRune i := (sign_dec ⟨i, hi4⟩).2
    have hl := sign_lt ⟨i, hi4⟩
    refine nextStr_some r2 (by rw [sign_size]; exact hl.1) fun h3 r3 u3 => ?_
    rw [hd] at r3 ⊢
    simp only [go_sem, hd2]
    refine iteK_dec (fun h5 => ?_) (fun h5 => ?_)
    · rw [← h5]
      exact ⟨rfl, e1.upd n1 (u2.trans u3)⟩
    · rw [w64 (by omega) (by omega)]
      refine hag _ _ (4 - (i + 1)) (by omega) ⟨i + 1, by omega, rfl, by simp, ?_, u2.trans u3, fun j hj => ?_⟩
      · rw [r3, hl.2]
      · rcases Nat.lt_succ_iff_lt_or_eq.1 hj with h6 | h6
        · exact hk j h6
        · subst h6; omega
end Go.Proofs.YtodmlimajnbmkaaDoor
