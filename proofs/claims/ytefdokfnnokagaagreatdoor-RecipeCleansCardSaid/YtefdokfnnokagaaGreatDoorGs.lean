/- Strings as lists of bytes. Conditions: none. -/
import Derived.Test.YtefdokfnnokagaaGreatDoorEe
set_option linter.unusedVariables false
set_option linter.unusedSimpArgs false
set_option maxRecDepth 10000
namespace Go.Crisp
open Go
/-- A string of these bytes. -/
def S (l : List UInt8) : Value := .string ⟨⟨l⟩⟩
theorem S_lit (l : List UInt8) : Value.string ⟨l.toArray⟩ = S l := rfl
theorem S_nil : Value.string ⟨#[]⟩ = S [] := rfl
theorem S_lit' (l : List UInt8) : Value.string ⟨⟨l⟩⟩ = S l := rfl
theorem one_S (l : List UInt8) : oneCell (S l) = true := rfl
theorem S_inj {a b : List UInt8} (h : S a = S b) : a = b := by
  unfold S at h
  injection h with h
  injection h with h
  injection h
theorem binS_add {a b : List UInt8} (h : a.length + b.length ≤ 9223372036854775807) : binV .s .add (S a) (S b) = some (S (a ++ b)) := by
  have e : (ByteArray.mk (Array.mk a) ++ ByteArray.mk (Array.mk b)) = ByteArray.mk (Array.mk (a ++ b)) := by
    apply ByteArray.ext
    rw [ByteArray.data_append]
    simp
  have hs : ∀ l : List UInt8, (ByteArray.mk (Array.mk l)).size = l.length := fun l => rfl
  show (if (((ByteArray.mk (Array.mk a)).size + (ByteArray.mk (Array.mk b)).size : Nat) : Int) > IntKind.i64.max then none else some (Value.string (ByteArray.mk (Array.mk a) ++ ByteArray.mk (Array.mk b)))) = _
  have hm : IntKind.i64.max = 9223372036854775807 := rfl
  rw [e, hs, hs, if_neg (by rw [hm]; omega)]
  rfl
theorem S_eq (a b : List UInt8) : ((⟨⟨a⟩⟩ : ByteArray) = ⟨⟨b⟩⟩) ↔ a = b := by
  constructor
  · intro h
    injection h with h
    injection h
  · rintro rfl; rfl
theorem binS_eql (a b : List UInt8) : binV .s .eql (S a) (S b) = some (.bool (decide (a = b))) := by
  show some (Value.bool ((ByteArray.mk (Array.mk a)).toList == (ByteArray.mk (Array.mk b)).toList)) = _
  rw [ByteArray.toList_eq, ByteArray.toList_eq]
  congr 2
  by_cases h : a = b
  · subst h; simp
  · rw [decide_eq_false h]; simpa using h
theorem binS_neq (a b : List UInt8) : binV .s .neq (S a) (S b) = some (.bool (!decide (a = b))) := by
  show some (Value.bool (!((ByteArray.mk (Array.mk a)).toList == (ByteArray.mk (Array.mk b)).toList))) = _
  rw [ByteArray.toList_eq, ByteArray.toList_eq]
  congr 3
  by_cases h : a = b
  · subst h; simp
  · rw [decide_eq_false h]; simpa using h
theorem lenS (l : List UInt8) : lenstV (S l) = some (.int .i64 l.length) := rfl
theorem cvrs_lit (k : IntKind) (n : Int) (l : List UInt8) (h : Utf8.encode n = ⟨⟨l⟩⟩) : cvrsV (.int k n) = some (S l) := by
  show some (Value.string (Utf8.encode n)) = _
  rw [h]; rfl
namespace Rp
def bs : Rp (List UInt8) where
  w := 1
  R := fun _ _ cs n => cs = [S n]
  len := by rintro _ _ _ _ rfl; rfl
  one := by rintro _ _ _ _ rfl; simp [one_S]
  fr := fun H _ _ => H
  mono := fun H _ => H
end Rp
attribute [go_sem] S_lit binS_eql binS_neq lenS
/-- A row of strings of one's own. -/
def Words (h : Heap) (v : Value) (l : List (List UInt8)) : Prop := Rp.Ow Rp.bs (fun _ => False) h v l
theorem Words.own {h : Heap} {v : Value} {l : List (List UInt8)} (H : Words h v l) : Own 1 h v l.length (l.map S) := by
  obtain ⟨ds, ho, _, he⟩ := H
  have hl : ds.length = l.length := by have := ho.sl.1; simpa [Rp.bs] using this
  have : ds = l.map S := by
    apply List.ext_getElem
    · simpa using hl
    · intro i h1 h2
      have := he i (by omega)
      have e : Rp.el 1 ds i = [ds[i]] := Rp.el_one h1
      have this : Rp.el 1 ds i = [S l[i]] := this
      rw [e] at this
      simpa using this
  subst this
  exact ho
end Go.Crisp
