/- The clock: what a clock is in memory, and what its deeds do to it. Conditions: none. -/
import Derived.Test.YtmmcgbilnnaggaaKa
set_option linter.unusedVariables false
set_option linter.unusedSimpArgs false
namespace Go.Proofs.Ytmmcgbilnnaggaa
open Go Go.Crisp
attribute [local irreducible] FCall rowK newK stK iteK vK qK drawK gK joinK loopK mkK appK cpyK

theorem own_nil {h : Heap} : OwnI h (.slice none 0 0) [] := .inl ⟨rfl, rfl, rfl⟩
theorem eql_nil_some (a : Addr) (n c n' c' : Nat) : binV .sl .eql (.slice (some a) n c) (.slice none n' c') = some (.bool false) := Eq.trans rfl rfl
theorem eql_nil_none (n c n' c' : Nat) : binV .sl .eql (.slice none n c) (.slice none n' c') = some (.bool true) := Eq.trans rfl rfl

/-- A row made empty, then filled. -/
theorem clone_own {e : TypeId} {h : Heap} {v : Value} {l : List Int} {K : Value → Heap → Prop} (hv : Ints h v l) (hl : l.length ≤ 4398046511104)
    (H : ∀ r h', OwnI h' r l → Ext h h' → (∀ b, blk r b → h.size ≤ b) → K r h') : rowK #[] e 0 [] h fun v2 h3 => appK (.int .i64 0) e 1 8 v2 v h3 K := by
  refine rowK_use (c' := #[]) (by kernel_rfl) fun b h1 r1 e1 n1 => ?_
  refine appK_own (n := 0) (cs := []) (.inr ⟨b, 0, [], e, rfl, Nat.le_refl _, rfl, rfl, r1⟩) (hv.ext e1).sl vi_one rfl (by omega) (by omega) fun s' h2 o2 f2 n2 => ?_
  rw [Nat.zero_add, List.nil_append] at o2
  refine H s' h2 o2 (e1.then_fr f2 fun i hi => by rw [show i = b from hi]; exact n1) fun k hk => ?_
  rcases n2 k hk with h3 | h3
  · rw [show k = b from h3]; exact n1
  · exact Nat.le_trans e1.1 h3

theorem c_Clone {h : Heap} {v : Value} {l : List Int} (hv : Ints h v l) (hl : l.length ≤ 4398046511104) :
    FCall Try.prog F_slices_Clone_clock_Stamp_int #[v] h fun r h' => OwnI h' r l ∧ Ext h h' ∧ ∀ b, blk r b → h.size ≤ b := by
  apply ok_slices_Clone_clock_Stamp_int
  unfold sh_slices_Clone_clock_Stamp_int
  have hv0 := hv
  obtain ⟨a, cap, rfl, hv⟩ := hv
  cases a with
  | none =>
    simp only [eql_nil_none, go_sem]
    rcases hv with rfl | ⟨b, o, h1, _⟩
    · exact ⟨own_nil, Ext.refl h, fun b hb => hb.elim⟩
    · cases h1
  | some a =>
    simp only [eql_nil_some, go_sem]
    exact clone_own hv0 hl fun r h' o e n => ⟨o, e, n⟩

/-- A clock: a stamp for each actor, each in memory of its own; all of it in these blocks. -/
structure ClockAt (M : Nat → Prop) (h : Heap) (bc : Nat) (sl : Value) (sv : Nat → Value) (t : TypeId) (n : Nat) (rows : Nat → List Int) : Prop where
  var : h[bc]? = some (.cells #[sl] t (0, 0))
  arr : Own 1 h sl n ((List.range n).map sv)
  row : ∀ i, i < n → OwnI h (sv i) (rows i)
  len : ∀ i, i < n → (rows i).length = n
  pos : 1 ≤ n ∧ n ≤ 512
  inM : M bc ∧ (∀ b, blk sl b → M b) ∧ ∀ i, i < n → ∀ b, blk (sv i) b → M b
  ap1 : ¬ blk sl bc
  ap2 : ∀ i, i < n → ∀ b, blk (sv i) b → b ≠ bc ∧ ¬ blk sl b
  ap3 : ∀ i j, i < n → j < n → i ≠ j → ∀ b, blk (sv i) b → ¬ blk (sv j) b
  lt : ∀ b, M b → b < h.size

def IsClock (M : Nat → Prop) (h : Heap) (v : Value) (n : Nat) (rows : Nat → List Int) : Prop :=
  ∃ bc sl sv t, v = .pointer (some ⟨bc, 0, none⟩) ∧ ClockAt M h bc sl sv t n rows

/-- What doesn't touch the clock leaves it as it is. -/
theorem ClockAt.fr {M Q : Nat → Prop} {h h' : Heap} {bc : Nat} {sl : Value} {sv : Nat → Value} {t : TypeId} {n : Nat} {rows : Nat → List Int} (C : ClockAt M h bc sl sv t n rows) (f : Fr Q h h') (hq : ∀ b, b < h.size → M b → ¬ Q b) : ClockAt M h' bc sl sv t n rows :=
  { C with
    var := f.row C.var (hq bc (C.lt _ C.inM.1) C.inM.1)
    arr := C.arr.fr f fun b hb => hq b (C.lt _ (C.inM.2.1 b hb)) (C.inM.2.1 b hb)
    row := fun i hi => (C.row i hi).fr f fun b hb => hq b (C.lt _ (C.inM.2.2 i hi b hb)) (C.inM.2.2 i hi b hb)
    lt := fun b hb => Nat.lt_of_lt_of_le (C.lt b hb) f.1 }
theorem ClockAt.ext {M : Nat → Prop} {h h' : Heap} {bc : Nat} {sl : Value} {sv : Nat → Value} {t : TypeId} {n : Nat} {rows : Nat → List Int} (C : ClockAt M h bc sl sv t n rows) (e : Ext h h') : ClockAt M h' bc sl sv t n rows := C.fr (Q := fun _ => False) e.fr fun _ _ _ => id
theorem IsClock.fr {M Q : Nat → Prop} {h h' : Heap} {v : Value} {n : Nat} {rows : Nat → List Int} (H : IsClock M h v n rows) (f : Fr Q h h') (hq : ∀ b, b < h.size → M b → ¬ Q b) : IsClock M h' v n rows := by
  obtain ⟨bc, sl, sv, t, rfl, C⟩ := H
  exact ⟨bc, sl, sv, t, rfl, C.fr f hq⟩
theorem IsClock.ext {M : Nat → Prop} {h h' : Heap} {v : Value} {n : Nat} {rows : Nat → List Int} (H : IsClock M h v n rows) (e : Ext h h') : IsClock M h' v n rows := H.fr (Q := fun _ => False) e.fr fun _ _ _ => id

theorem c_in {M : Nat → Prop} {h : Heap} {v : Value} {n : Nat} {rows : Nat → List Int} (H : IsClock M h v n rows) (i : Int) :
    FCall Try.prog F_clock_Clock_in #[v, .int .i64 i] h fun r h' => r = .bool (decide (0 ≤ i ∧ i < n)) ∧ h' = h := by
  obtain ⟨bc, sl, sv, t, rfl, C⟩ := H
  apply ok_clock_Clock_in
  unfold sh_clock_Clock_in
  have hs := C.arr.sl
  obtain ⟨_, a, cap, rfl, _⟩ := hs
  by_cases h0 : 0 ≤ i
  · simp only [go_sem, h0, cell_row C.var, true_and, and_true]
  · simp only [go_sem, h0, false_and, and_true]

def nowF (n : Nat) (rows : Nat → List Int) (i : Int) : List Int := if 0 ≤ i ∧ i < n then rows i.toNat else []

theorem c_Now {M : Nat → Prop} {h : Heap} {v : Value} {n : Nat} {rows : Nat → List Int} (H : IsClock M h v n rows) (i : Int) :
    FCall Try.prog F_clock_Clock_Now #[v, .int .i64 i] h fun r h' => OwnI h' r (nowF n rows i) ∧ Ext h h' ∧ ∀ b, blk r b → h.size ≤ b := by
  apply ok_clock_Clock_Now
  unfold sh_clock_Clock_Now
  refine (c_in H i).mono ?_
  rintro _ h' ⟨rfl, rfl⟩
  by_cases hi : 0 ≤ i ∧ i < n
  · obtain ⟨k, rfl⟩ := Int.eq_ofNat_of_zero_le hi.1
    have hk : k < n := by omega
    obtain ⟨bc, sl, sv, t, rfl, C⟩ := H
    obtain ⟨p, hp, hq⟩ := C.arr.sl.at1 (k := .i64) hk
    rw [List.getElem_map, List.getElem_range] at hq
    simp only [go_sem, hi, cell_row C.var, hp, hq, and_self]
    rw [show nowF n rows (k : Int) = rows k by unfold nowF; rw [if_pos hi]; rfl]
    refine (c_Clone (C.row k hk).ints (by rw [C.len k hk]; have := C.pos; omega)).mono ?_
    rintro r h1 H
    exact H
  · simp only [go_sem, hi]
    rw [show nowF n rows i = [] by unfold nowF; rw [if_neg hi]]
    exact ⟨own_nil, Ext.refl _, fun b hb => hb.elim⟩
end Go.Proofs.Ytmmcgbilnnaggaa
