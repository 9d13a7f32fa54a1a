/- Strings as lists of bytes; the library's numerals and Join; names and signs. Conditions: none. -/
import Derived.Test.YtefdokfnnokagaaGreatDoorGc
import Derived.Test.YtefdokfnnokagaaGreatDoorLz
import Derived.Lib.ItoaLen
set_option linter.unusedVariables false
set_option linter.unusedSimpArgs false
set_option maxRecDepth 10000
namespace Go.Crisp
open Go Go.RowKit Go.Sort
theorem Same.of_grow (w : World) (k : Nat) (os : Array Obj) : Same w (grow (w.drewN k) os) ∧ Ext w.heap (grow (w.drewN k) os).heap := by
  refine ⟨⟨rfl, rfl, rfl⟩, by simp [grow, World.drewN], fun b hb => ?_⟩
  show (w.heap ++ os)[b]? = w.heap[b]?
  rw [Array.getElem?_append_left hb]
theorem below_same {w w' : World} (H : Below w.heap.size w w') : Same w w' ∧ Ext w.heap w'.heap := ⟨⟨H.os, H.tape, H.output⟩, H.size, fun b hb => H.block b hb⟩
end Go.Crisp

namespace Go.Proofs.YtefdokfnnokagaaGreatDoor
open Go Go.Crisp
attribute [local irreducible] FCall rowK newK stK iteK vK qK drawK gK joinK loopK mkK appK cpyK

def kSign (k : Int) : List UInt8 := if k = 0 then [207, 131] else if k = 1 then [226, 150, 161] else if k = 2 then [226, 138, 151] else if k = 3 then [226, 134, 148] else []
def kRune (k : Int) : Int := if k = 0 then 963 else if k = 1 then 9633 else if k = 2 then 8855 else if k = 3 then 8596 else 0

section
attribute [local semireducible] FCall
theorem c_FormatInt {h : Heap} (G : GlobH h) {n : Int} (h0 : -9223372036854775808 ≤ n) (h1 : n ≤ 9223372036854775807) :
    FCall Tryz.prog F_strconv_FormatInt #[.int .i64 n, .int .i64 10] h fun r h' => r = S (Lib.itoa n) ∧ Ext h h' := by
  refine FCall.ofCalls (by kernel_rfl) fun w hw => ?_
  refine (Any.strconv_FormatInt_10 lay_FormatInt n h0 h1 w (G.tab.is w hw)).mono ?_
  rintro e w' ⟨rfl, k, os, rfl⟩
  obtain ⟨a, b⟩ := Same.of_grow w k os
  exact ⟨_, rfl, a, rfl, hw ▸ b⟩
theorem c_Itoa {h : Heap} (G : GlobH h) {n : Int} (h0 : -9223372036854775808 ≤ n) (h1 : n ≤ 9223372036854775807) :
    FCall Tryz.prog F_strconv_Itoa #[.int .i64 n] h fun r h' => r = S (Lib.itoa n) ∧ Ext h h' := by
  refine FCall.ofCalls (by kernel_rfl) fun w hw => ?_
  refine (Any.strconv_Itoa lay_Itoa n h0 h1 w (G.tab.is w hw)).mono ?_
  rintro e w' ⟨rfl, k, os, rfl⟩
  obtain ⟨a, b⟩ := Same.of_grow w k os
  exact ⟨_, rfl, a, rfl, hw ▸ b⟩
theorem c_Join {h : Heap} {v : Value} {l : List (List UInt8)} {sep : List UInt8} (H : Words h v l) (hN : l.length ≤ 140737488355328) (hlen : (Lib.join l sep).length ≤ 140737488355328) :
    FCall Tryz.prog F_strings_Join #[v, S sep] h fun r h' => r = S (Lib.join l sep) ∧ Ext h h' := by
  refine FCall.ofCalls (by kernel_rfl) fun w hw => ?_
  subst hw
  have hm : ∀ l : List (List UInt8), (l.map fun x => (ByteArray.mk (Array.mk x))).map (·.data.toList) = l := fun l => by
    induction l with
    | nil => rfl
    | cons x l ih => simp only [List.map_cons, ih]
  rcases H.own with ⟨rfl, hl, _⟩ | ⟨b, cap, r, e, rfl, hc, _, hs, hb⟩
  · have : l = [] := List.eq_nil_of_length_eq_zero hl
    subst this
    refine (Any.strings_Join_none lay_Join lay_JoinX none 0 ⟨⟨sep⟩⟩ w).mono ?_
    rintro e w' ⟨rfl, rfl⟩
    exact ⟨_, rfl, Same.refl _, rfl, Ext.refl _⟩
  · have := Any.strings_Join lay_Join lay_JoinX b 0 cap (l.map fun x => (ByteArray.mk (Array.mk x))) ⟨⟨sep⟩⟩ w (fun j x hj => by
      rw [List.getElem?_map, Option.map_eq_some_iff] at hj
      obtain ⟨y, hy, rfl⟩ := hj
      obtain ⟨hj, rfl⟩ := List.getElem?_eq_some_iff.1 hy
      rw [cell?_eq, cell_row hb]
      simp only [List.getElem?_toArray, Nat.zero_add]
      rw [List.getElem?_append_left (by simpa using hj)]
      simp [hj, S]) (row_lt hb) (by simpa using hN) (by simpa using hc) (by rw [hm]; exact hlen)
    rw [hm, List.length_map] at this
    refine this.mono ?_
    rintro e w' ⟨rfl, hB⟩
    obtain ⟨a, b⟩ := below_same hB
    exact ⟨_, rfl, a, rfl, b⟩
end

/-! ### the sign of a kind -/
def signsB : ByteArray := ⟨#[207, 131, 226, 150, 161, 226, 138, 151, 226, 134, 148]⟩
def signAt : Nat → Nat
  | 0 => 0
  | 1 => 2
  | 2 => 5
  | 3 => 8
  | _ => 11
theorem sign_dec : ∀ i : Fin 4, Utf8.decode signsB (signAt i) = ((kRune i).toNat, signAt (i + 1) - signAt i) ∧ (((kRune i).toNat : Nat) : Int) = kRune i := by decide +kernel
theorem sign_size : signsB.size = 11 := rfl
theorem sign_lt : ∀ i : Fin 4, signAt i < 11 ∧ signAt i + (signAt (i + 1) - signAt i) = signAt (i + 1) := by decide
theorem nextStr_some {h : Heap} {r pos : Nat} {s : ByteArray} {K : Value → Heap → Prop} (hr : h[r]? = some (.stringIter s pos)) (hp : pos < s.size)
    (H : ∀ h', h'[r]? = some (.stringIter s (pos + (Utf8.decode s pos).2)) → Upd r h h' → K (.tuple #[.bool true, .int .i64 (pos : Nat), .int .i32 (Utf8.decode s pos).1]) h') : nextStrK (.pointer (some ⟨r, 0, none⟩)) h K := by
  unfold nextStrK
  simp only [hr]
  rw [if_pos hp]
  exact H _ (set_get hr) Upd.set
theorem nextStr_none {h : Heap} {r pos : Nat} {s : ByteArray} {K : Value → Heap → Prop} (hr : h[r]? = some (.stringIter s pos)) (hp : ¬ pos < s.size)
    (H : K (.tuple #[.bool false]) h) : nextStrK (.pointer (some ⟨r, 0, none⟩)) h K := by
  unfold nextStrK
  simp only [hr]
  rw [if_neg hp]
  exact H
theorem rangeStr_use {h : Heap} {s : ByteArray} {K : Value → Heap → Prop} (H : ∀ r h', h'[r]? = some (.stringIter s 0) → Ext h h' → h.size ≤ r → K (.pointer (some ⟨r, 0, none⟩)) h') : rangeStrK (.string s) h K :=
  H h.size _ push_new (Ext.push _ _) (Nat.le_refl _)
attribute [local irreducible] nextStrK rangeStrK
theorem c_Sign {h : Heap} {k : Int} : FCall Tryz.prog F_recipe_Sign #[.int .i64 k] h fun r h' => r = .int .i32 (kRune k) ∧ Ext h h' := by
  apply ok_recipe_Sign
  unfold sh_recipe_Sign
  refine rangeStr_use fun r h1 r1 e1 n1 => ?_
  refine loopK_var (fun d xs h2 => ∃ i : Nat, i ≤ 4 ∧ d = 4 - i ∧ xs = [.int .i64 (i : Int)] ∧ h2[r]? = some (.stringIter signsB (signAt i)) ∧ Upd r h1 h2 ∧ ∀ j : Nat, j < i → k ≠ (j : Int)) 4
    ⟨0, by omega, rfl, rfl, r1, Upd.refl, fun j hj => absurd hj (by omega)⟩ ?_
  rintro d _ ρj h2 again ⟨i, hi, rfl, rfl, r2, u2, hk⟩ hag
  by_cases h4 : i = 4
  · subst h4
    refine nextStr_none r2 (by rw [sign_size]; exact Nat.lt_irrefl _) ?_
    simp only [go_sem]
    refine ⟨?_, e1.upd n1 u2⟩
    have := hk 0 (by omega); have := hk 1 (by omega); have := hk 2 (by omega); have := hk 3 (by omega)
    unfold kRune
    rw [if_neg (by omega), if_neg (by omega), if_neg (by omega), if_neg (by omega)]
  · have hi4 : i < 4 := by omega
    have hd : Utf8.decode signsB (signAt i) = ((kRune i).toNat, signAt (i + 1) - signAt i) := (sign_dec ⟨i, hi4⟩).1
    have hd2 : (((kRune i).toNat : Nat) : Int) = kRune i := (sign_dec ⟨i, hi4⟩).2
    have hl := sign_lt ⟨i, hi4⟩
    refine nextStr_some r2 (by rw [sign_size]; exact hl.1) fun h3 r3 u3 => ?_
    rw [hd] at r3 ⊢
    simp only [go_sem, hd2]
    refine iteK_dec (fun h5 => ?_) (fun h5 => ?_)
    · rw [← h5]
      exact ⟨rfl, e1.upd n1 (u2.trans u3)⟩
    · rw [w64 (by omega) (by omega)]
      refine hag _ _ (4 - (i + 1)) (by omega) ⟨i + 1, by omega, rfl, by simp, ?_, u2.trans u3, fun j hj => ?_⟩
      · rw [r3, hl.2]
      · rcases Nat.lt_succ_iff_lt_or_eq.1 hj with h6 | h6
        · exact hk j h6
        · subst h6; omega
end Go.Proofs.YtefdokfnnokagaaGreatDoor
