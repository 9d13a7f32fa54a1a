/- Several texts of this session, one behind the other, without what this claim does not need (put together by its program pack.py). Conditions: none. -/
import Derived.Test.YtojmncnelbnceaaGreatDoorMg2
set_option linter.unusedVariables false
set_option linter.unusedSimpArgs false
set_option maxRecDepth 100000
namespace Go.Proofs.YtojmncnelbnceaaGreatDoor
open Go Go.Crisp
attribute [local irreducible] FCall rowK newK stK iteK vK qK drawK gK joinK loopK mkK appK cpyK zqt znp bsK
open _root_.Go.Proofs.Tryz
theorem c_rawMay {h : Heap} {f n m i : Int} : FCall prog zof #[.int .i64 f, .int .i64 n, .int .i64 m, .int .i64 i] h fun r h' => r = .bool (decide (mayR f n m i)) ∧ h' = h := by
 apply ok_raw_may
 unfold zoV
 try simp only [go_sem]
 refine ⟨?_, trivial⟩
 congr 1
 rw [decide_eq_decide]
 unfold mayR
 omega
theorem c_ceil {h : Heap} {a b : Int} (ha : -9223372036854775807 ≤ a ∧ a ≤ 9223372036854775807) (hb : 0 < b) (hb2 : I64 b) : FCall prog ziF #[.int .i64 a, .int .i64 b] h fun r h' => r = .int .i64 (ceilD a b) ∧ h' = h := by
 apply ok_raw_ceil
 unfold znc
 try simp only [go_sem]
 rw [w64 (by omega) (by omega), Int.zero_sub]
 have hi : I64 (-a) := by unfold I64; omega
 refine (zqY hi hb2).mono fun v1 h1 ⟨e1, w1⟩ => ?_
 subst e1 w1
 try simp only [go_sem]
 rw [zeY hi hb]
 have := zfY (a := -a) (b := b) (L := 9223372036854775807) (U := 9223372036854775807) (by omega) (by omega) (by omega) (by omega) (by omega)
 rw [w64 (by omega) (by omega), Int.zero_sub]
 exact ⟨rfl, trivial⟩
theorem reach_cell {h : Heap} (G : GlobB h) {f : Int} (f0 : 0 ≤ f) (f1 : f < 3) : ∃ p, idxaV 3 2 (.pointer (some ⟨zbo, 0, none⟩)) (.int .i64 f) = some (.pointer (some ⟨zbo, p, none⟩)) ∧ zah h ⟨zbo, p + 1, none⟩ = some (.int .i64 (zaX f)) := by
 obtain ⟨n, rfl⟩ : ∃ n : Nat, f = (n : Int) := ⟨f.toNat, by omega⟩
 have hn : n < 3 := by omega
 refine ⟨2 * n, ?_, ?_⟩
 ·show (if 0 ≤ (n : Int) ∧ (n : Int) < ((3 : Nat) : Int) then some (Value.pointer (some ((⟨zbo, 0, none⟩ : Addr).add ((n : Int).toNat * 2)))) else none) = _
  rw [if_pos (by omega), zep, Int.toNat_natCast, Nat.zero_add, Nat.mul_comm]
 ·rw [(G.kinds n hn).2]
  match n, hn with
  | 0, _ => rfl
  | 1, _ => rfl
  | 2, _ => rfl
def winV (f n m i : Int) : Value := if mayR f n m i then .tuple #[.int .i64 (lowW f n m i), .int .i64 (highW f n m i - lowW f n m i)] else .tuple #[.int .i64 0, .int .i64 0]
theorem c_Window {h : Heap} (G : GlobB h) {f n m i : Int} : FCall prog zii #[.int .i64 f, .int .i64 n, .int .i64 m, .int .i64 i] h fun r h' => r = winV f n m i ∧ h' = h := by
 apply zqi
 unfold zkj winV
 refine c_rawMay.mono fun v1 h1 ⟨e1, w1⟩ => ?_
 subst e1 w1
 try simp only [go_sem]
 refine zab (fun h0 => ?_) (fun h0 => ?_)
 ·rw [if_neg h0]; exact ⟨rfl, trivial⟩
 have hm : mayR f n m i := Decidable.of_not_not h0
 rw [if_pos hm]
 have hlb := low_bd hm
 have hb := mayB hm
 obtain ⟨b1, b2, b3, b4, b5⟩ := hb
 obtain ⟨f0, f1, n0, n1, m0, m1, i0, i1⟩ := hm
 have hm64 : I64 m := by unfold I64; omega
 rw [w64 (n := i * n) (by omega) (by omega)]
 refine (zqY (by unfold I64; omega) hm64).mono fun v1 h1 ⟨e1, w1⟩ => ?_
 subst e1 w1
 rw [zeY (by unfold I64; omega) (by omega)]
 try simp only [go_sem]
 rw [w64 (n := i + 1) (by omega) (by omega), w64 (n := (i + 1) * n) (by omega) (by omega)]
 refine (c_ceil (by omega) (by omega) hm64).mono fun v1 h1 ⟨e1, w1⟩ => ?_
 subst e1 w1
 try simp only [go_sem]
 unfold lowW highW at hlb ⊢
 refine zab (fun hf => ?_) (fun hf => ?_)
 ·have hf : f ≠ 0 := hf
  rw [if_neg hf, if_neg hf] at *
  obtain ⟨p, hp1, hp2⟩ := reach_cell G f0 f1
  simp only [go_sem, hp1, hp2]
  have hr : 0 ≤ zaX f ∧ zaX f ≤ 3 := by unfold zaX; split; omega; split <;> omega
  rw [w64 (n := 2 * i) (by omega) (by omega), w64 (n := 2 * i + 1) (by omega) (by omega), w64 (n := (2 * i + 1) * n) (by omega) (by omega), w64 (n := (2 * i + 1) * n - m) (by omega) (by omega), w64 (n := zaX f * 2) (by omega) (by omega),
   w64 (n := zaX f * 2 * max n m) (by omega) (by omega), w64 (n := (2 * i + 1) * n - m - zaX f * 2 * max n m) (by omega) (by omega), w64 (n := 2 * m) (by omega) (by omega)]
  refine (zqY (by unfold I64; omega) (by unfold I64; omega)).mono fun v1 h1 ⟨e1, w1⟩ => ?_
  subst e1 w1
  rw [zeY (by unfold I64; omega) (by omega)]
  try simp only [go_sem]
  rw [w64 (n := ((2 * i + 1) * n - m - zaX f * 2 * max n m) / (2 * m) + 1) (by omega) (by omega), w64 (n := (2 * i + 1) * n - m + zaX f * 2 * max n m) (by omega) (by omega)]
  refine (c_ceil (by omega) (by omega) (by unfold I64; omega)).mono fun v1 h1 ⟨e1, w1⟩ => ?_
  subst e1 w1
  try simp only [go_sem]
  rw [w64 (by omega) (by omega)]
  exact ⟨rfl, trivial⟩
 ·have hf : f = 0 := Decidable.of_not_not hf
  rw [if_pos hf, if_pos hf] at *
  rw [w64 (by omega) (by omega)]
  exact ⟨rfl, trivial⟩
theorem c_Keys {h : Heap} {p q : Int} (hp : -4611686018427387904 ≤ p ∧ p ≤ 4611686018427387904) (hq : I64 q) : FCall prog zgA #[.int .i64 p, .int .i64 q] h fun r h' => r = .int .i64 (keysZ p q) ∧ h' = h := by
 apply ok_raw_Keys
 unfold zne
 try simp only [go_sem]
 unfold keysZ
 have e0 : (((q < 1 ∨ 262144 < q) ∨ IntKind.i64.wrap (2 * q) ≤ p) ∨ p ≤ IntKind.i64.wrap (-2 * q)) ↔ (q < 1 ∨ 262144 < q ∨ 2 * q ≤ p ∨ p ≤ -2 * q) := by
  unfold I64 at hq
  by_cases hc : q < 1 ∨ 262144 < q
  ·omega
  ·rw [w64 (n := 2 * q) (by omega) (by omega), w64 (n := -2 * q) (by omega) (by omega)]; omega
 refine zab (fun h0 => ?_) (fun h0 => ?_)
 ·rw [if_pos (e0.1 h0)]; exact ⟨rfl, trivial⟩
 rw [if_neg fun hh => h0 (e0.2 hh)]
 have e1 : IntKind.i64.wrap (0 - p) = -p := by rw [w64 (by omega) (by omega)]; omega
 rw [e1]
 generalize max p (-p) = a
 simp only [zir, ziq, zgi, zeV, zip, zle]
 have e2 : 2 * q * q * q = 2 * (q * q * q) := by grind
 rw [e2]
 unfold cubicZ
 refine zab (fun h1 => ?_) (fun h1 => ?_)
 ·rw [if_pos h1]
  have e3 : (0 - a) * a * a + 5 * a * a * q - 8 * a * q * q + 4 * q * q * q = 4 * (q * q * q) + 5 * (a * a * q) - a * a * a - 8 * (a * q * q) := by grind
  rw [e3]
  exact zeN (zcA _) (by unfold I64; omega) (zcA _)
 ·rw [if_neg h1]
  have e3 : 3 * a * a * a - 5 * a * a * q + 2 * (q * q * q) = 3 * (a * a * a) - 5 * (a * a * q) + 2 * (q * q * q) := by grind
  rw [e3]
  exact zeN (zcA _) (by unfold I64; omega) (zcA _)
theorem c_weigh {h : Heap} {f n m i j : Int} (hm : mayR f n m i) (hj : -1048576 * 65536 ≤ j ∧ j ≤ 1048576 * 65536) : FCall prog zjO #[.int .i64 f, .int .i64 n, .int .i64 m, .int .i64 i, .int .i64 j] h fun r h' => r = .int .i64 (zjU f n m i j) ∧ h' = h := by
 apply ok_raw_weigh
 unfold zl8
 try simp only [go_sem]
 have hb := mayB hm
 obtain ⟨b1, b2, b3, b4, b5⟩ := hb
 obtain ⟨f0, f1, n0, n1, m0, m1, i0, i1⟩ := hm
 unfold zjU
 have hjm := zqv (a := j) (A := 1048576 * 65536) (b := m) (B := 65536) (by omega) (by omega) (by omega) (by omega)
 have hj1 : (j + 1) * m = j * m + m := by rw [Int.add_mul, Int.one_mul]
 have hj2 : 2 * m * j = 2 * (j * m) := by rw [Int.mul_assoc, Int.mul_comm m j]
 refine zab (fun hf => ?_) (fun hf => ?_)
 ·rw [if_pos hf]
  rw [w64 (n := i + 1) (by omega) (by omega), w64 (n := (i + 1) * n) (by omega) (by omega), w64 (n := j + 1) (by omega) (by omega), w64 (n := (j + 1) * m) (by omega) (by omega), w64 (n := i * n) (by omega) (by omega), w64 (n := j * m) (by omega) (by omega), w64 (by omega) (by omega)]
  exact zeN (by unfold I64; omega) (by unfold I64; omega) (by unfold I64; omega)
 rw [if_neg hf, w64 (n := 2 * m) (by omega) (by omega), w64 (n := 2 * m * j) (by omega) (by omega), w64 (n := 2 * i) (by omega) (by omega), w64 (n := 2 * i + 1) (by omega) (by omega), w64 (n := (2 * i + 1) * n) (by omega) (by omega),
  w64 (n := 2 * m * j - (2 * i + 1) * n) (by omega) (by omega), w64 (n := 2 * m * j - (2 * i + 1) * n + m) (by omega) (by omega), w64 (n := 2 * max n m) (by omega) (by omega)]
 refine zab (fun hf1 => ?_) (fun hf1 => ?_)
 ·rw [if_pos hf1]
  exact c_Keys (by omega) (by unfold I64; omega)
 ·rw [if_neg hf1]
  exact c_Lanczos (by unfold I64; omega) (by unfold I64; omega)
def zbj (f n m i : Int) : Int := if mayR f n m i then lowW f n m i else 0
def zaW (f n m i : Int) : List Int := if mayR f n m i then rowW f n m i else []
theorem zdX {β : Type} (g : Nat → β) (n k : Nat) (h : k < n) : ((List.range n).map g).take (k + 1) = ((List.range n).map g).take k ++ [g k] := by
 rw [List.take_succ_eq_append_getElem (by simpa using h)]
 simp
theorem c_rawRow {h : Heap} (G : GlobB h) {f n m i : Int} : FCall prog zld #[.int .i64 f, .int .i64 n, .int .i64 m, .int .i64 i] h fun r h' =>
  ∃ v, r = .tuple #[.int .i64 (zbj f n m i), v] ∧ New (Rp.int .i64) h h' v (zaW f n m i) := by
 apply ok_raw_Row
 unfold zoW
 refine (c_Window G).mono fun v1 h1 ⟨e1, w1⟩ => ?_
 subst e1 w1
 unfold zbj zaW winV
 by_cases hm : mayR f n m i
 ·rw [if_pos hm, if_pos hm, if_pos hm]
  try simp only [go_sem]
  have hlb := low_bd hm
  obtain ⟨N, hN⟩ : ∃ N, N = (highW f n m i - lowW f n m i).toNat := ⟨_, rfl⟩
  refine zaz N 0 (fun k v => [v, .int .i64 (k : Int)]) (fun k v h' => New (Rp.int .i64) h1 h' v ((rowW f n m i).take k)) (.slice none 0 0) rfl (Nat.zero_le _) (New.nil (Ext.refl _)) fun k v h2 again ρj _ hk hI H => ?_
  try simp only [go_sem]
  have hl : (rowW f n m i).length = N := by unfold rowW; rw [List.length_map, List.length_range, hN]
  refine zab (fun h0 => ?_) (fun h0 => ?_)
  ·rw [w64 (n := lowW f n m i + (k : Int)) (by omega) (by omega)]
   refine (c_weigh hm (by omega)).mono fun v2 h3 ⟨e2, w2⟩ => ?_
   subst e2 w2
   have hlen : ((rowW f n m i).take k).length = k := by rw [List.length_take]; omega
   refine hI.push_int rfl (by rw [hlen]; omega) (by rw [hlen]; omega) fun s' h' H' => ?_
   try simp only [go_sem]
   rw [w64 (by omega) (by omega)]
   have := H s' h' (by omega) (by
    have e := zdX (fun k : Nat => zjU f n m i (lowW f n m i + k)) (highW f n m i - lowW f n m i).toNat k (by omega)
    unfold rowW at H' ⊢
    rw [e]
    exact H')
   exact this
  ·rw [List.take_of_length_le (by omega)] at hI
   exact ⟨v, rfl, hI⟩
 ·rw [if_neg hm, if_neg hm, if_neg hm]
  try simp only [go_sem]
  refine zc0 (fun k => [.slice none 0 0, .int .i64 (k : Int)]) 0 0 rfl (Nat.le_refl _) fun k again ρj _ hk _ => ?_
  have : k = 0 := by omega
  subst this
  try simp only [go_sem]
  refine zab (fun h0 => absurd h0 (by omega)) (fun h0 => ?_)
  exact ⟨_, rfl, New.nil (Ext.refl _)⟩
end Go.Proofs.YtojmncnelbnceaaGreatDoor
namespace Go.Crisp
def lead (r : Nat → Int) (i j : Nat) : Prop := r j < r i ∨ (r i = r j ∧ i < j)
instance (r : Nat → Int) (i j : Nat) : Decidable (lead r i j) := by unfold lead; exact inferInstance
theorem znS (r : Nat → Int) (i : Nat) : ¬ lead r i i := by unfold lead; omega
theorem zdd {r : Nat → Int} {i j k : Nat} (h1 : lead r i j) (h2 : lead r j k) : lead r i k := by unfold lead at *; omega
theorem zde (r : Nat → Int) {i j : Nat} (h : i ≠ j) : lead r i j ∨ lead r j i := by unfold lead; omega
theorem zpf {r : Nat → Int} {i j : Nat} (h1 : lead r i j) : ¬ lead r j i := by unfold lead at *; omega
def rank (r : Nat → Int) (n i : Nat) : Nat := (List.range n).countP fun j => decide (lead r j i)
theorem countP_all {l : List Nat} {p : Nat → Bool} (h : ∀ x ∈ l, p x = true) : l.countP p = l.length := by
 rw [List.countP_eq_length]; exact h
theorem countP_none {l : List Nat} {p : Nat → Bool} (h : ∀ x ∈ l, p x = false) : l.countP p = 0 := by
 rw [List.countP_eq_zero]; intro x hx; rw [h x hx]; simp
theorem znn {r : Nat → Int} {n : Nat} {l : List Nat} (hp : l.Perm (List.range n)) (hs : l.Pairwise (lead r)) {k : Nat} (hk : k < l.length) : rank r n l[k] = k := by
 unfold rank
 rw [← hp.countP_eq]
 have hx : ∀ (x : Nat), x = l[k] → ((l.take k).countP fun j => decide (lead r j x)) + ((l.drop k).countP fun j => decide (lead r j x)) = k := by
  rintro x rfl
  have h1 : ((l.take k).countP fun j => decide (lead r j l[k])) = (l.take k).length := countP_all fun x hx => by
   obtain ⟨i, hi, rfl⟩ := List.mem_iff_getElem.1 hx
   rw [List.getElem_take]
   rw [List.length_take] at hi
   exact decide_eq_true (List.pairwise_iff_getElem.1 hs i k (by omega) hk (by omega))
  have h2 : ((l.drop k).countP fun j => decide (lead r j l[k])) = 0 := countP_none fun x hx => by
   obtain ⟨i, hi, rfl⟩ := List.mem_iff_getElem.1 hx
   rw [List.getElem_drop]
   rw [List.length_drop] at hi
   rcases Nat.eq_zero_or_pos i with h0 | h0
   ·subst h0; exact decide_eq_false (znS _ _)
   ·exact decide_eq_false (zpf (List.pairwise_iff_getElem.1 hs k (k + i) hk (by omega) (by omega)))
  rw [h1, h2, List.length_take]; omega
 have e : ∀ p : Nat → Bool, l.countP p = (l.take k).countP p + (l.drop k).countP p := fun p => by rw [← List.countP_append, List.take_append_drop]
 rw [e]
 exact hx _ rfl
theorem rank_lt {r : Nat → Int} {n i j : Nat} (hi : i < n) (h : lead r i j) : rank r n i < rank r n j := by
 unfold rank
 have hsub : ∀ l : List Nat, (l.countP fun k => decide (lead r k i)) ≤ l.countP fun k => decide (lead r k j) := fun l =>
  List.countP_mono_left fun x _ hx => decide_eq_true (zdd (of_decide_eq_true hx) h)
 obtain ⟨a, b, hab⟩ := List.append_of_mem (List.mem_range.2 hi)
 rw [hab, List.countP_append, List.countP_append, List.countP_cons, List.countP_cons]
 have h1 := hsub a
 have h2 := hsub b
 rw [if_neg (by simpa using znS r i), if_pos (decide_eq_true h)]
 omega
theorem zmJ {r : Nat → Int} {n i j : Nat} (hi : i < n) (hj : j < n) (h : rank r n i = rank r n j) : i = j := by
 by_cases he : i = j
 ·exact he
 ·rcases zde r he with h1 | h1
  ·have := rank_lt hi h1; omega
  ·have := rank_lt hj h1; omega
theorem lead_of_rank {r : Nat → Int} {n i j : Nat} (hi : i < n) (hj : j < n) (h : rank r n i < rank r n j) : lead r i j := by
 have he : i ≠ j := fun e => by rw [e] at h; omega
 rcases zde r he with h1 | h1
 ·exact h1
 ·have := rank_lt hj h1; omega
theorem rank_some (r : Nat → Int) (n : Nat) : ∀ k, k < n → ∃ i, i < n ∧ rank r n i = k := by
 let le : Nat → Nat → Bool := fun i j => decide (lead r i j) || decide (i = j)
 have ht : ∀ a b c : Nat, le a b = true → le b c = true → le a c = true := fun a b c h1 h2 => by
  simp only [le, Bool.or_eq_true, decide_eq_true_eq] at *
  rcases h1 with h1 | rfl
  ·rcases h2 with h2 | rfl
   ·exact .inl (zdd h1 h2)
   ·exact .inl h1
  ·exact h2
 have htot : ∀ a b : Nat, (le a b || le b a) = true := fun a b => by
  simp only [le, Bool.or_eq_true, decide_eq_true_eq]
  by_cases he : a = b
  ·exact .inl (.inr he)
  ·rcases zde r he with h | h
   ·exact .inl (.inl h)
   ·exact .inr (.inl h)
 let l := (List.range n).mergeSort le
 have hp : l.Perm (List.range n) := List.mergeSort_perm _ _
 have hs : l.Pairwise (fun a b => le a b = true) := List.pairwise_mergeSort (le := le) ht htot _
 have hn : l.Nodup := hp.nodup_iff.2 List.nodup_range
 have hs2 : l.Pairwise (lead r) := by
  unfold List.Nodup at hn
  refine (hs.and hn).imp fun {a b} ⟨h1, h2⟩ => ?_
  simp only [le, Bool.or_eq_true, decide_eq_true_eq] at h1
  rcases h1 with h1 | h1
  ·exact h1
  ·exact absurd h1 h2
 intro k hk
 have hl : l.length = n := by rw [hp.length_eq]; simp
 refine ⟨l[k]'(by omega), ?_, znn hp hs2 _⟩
 have := hp.mem_iff.1 (List.getElem_mem (l := l) (n := k) (by omega))
 simpa using this
def zdo (r : Nat → Int) (n k : Nat) (i : Nat) : Int := if rank r n i < k then -1 else r i
theorem picked_zero (r : Nat → Int) (n : Nat) : zdo r n 0 = r := by funext i; unfold zdo; rw [if_neg (by omega)]
theorem best_rank {r : Nat → Int} {n k : Nat} (hr : ∀ i, i < n → 0 ≤ r i) (hk : k < n) {b : Nat} (hb : b < n)
  (h1 : ∀ i, i < n → zdo r n k i ≤ zdo r n k b) (h2 : ∀ i, i < b → zdo r n k i < zdo r n k b) : rank r n b = k := by
 obtain ⟨m, hm, hmk⟩ := rank_some r n k hk
 have pm : zdo r n k m = r m := by unfold zdo; rw [if_neg (by omega)]
 have hm0 := hr m hm
 have hbm := h1 m hm
 rw [pm] at hbm
 have pb : zdo r n k b = r b ∧ ¬ rank r n b < k := by
  unfold zdo at hbm ⊢
  split at hbm
  ·omega
  ·rename_i h
   rw [if_neg h]; exact ⟨rfl, h⟩
 rw [pb.1] at hbm
 by_cases he : b = m
 ·rw [he]; exact hmk
 ·have hne : rank r n b ≠ k := fun e => he (zmJ hb hm (e.trans hmk.symm))
  have hl : lead r m b := lead_of_rank hm hb (by have := pb.2; omega)
  unfold lead at hl
  rcases hl with hl | ⟨e, hl⟩
  ·omega
  ·have := h2 m hl
   rw [pm, pb.1] at this
   omega
theorem picked_succ {r : Nat → Int} {n k b : Nat} (hb : b < n) (hr : rank r n b = k) {i : Nat} (hi : i < n) : zdo r n (k + 1) i = if i = b then -1 else zdo r n k i := by
 unfold zdo
 by_cases he : i = b
 ·subst he; rw [if_pos (by omega), if_pos rfl]
 ·have : rank r n i ≠ k := fun e => he (zmJ hi hb (e.trans hr.symm))
  rw [if_neg he]
  by_cases h : rank r n i < k
  ·rw [if_pos h, if_pos (by omega)]
  ·rw [if_neg h, if_neg (by omega)]
end Go.Crisp
namespace Go.Crisp
open Go
def sumZ (l : List Int) : Int := l.foldl addZ 0
def sizeZ (x : Int) : Int := max x (mulZ x (-1))
def ze3 (l : List Int) : Int := l.foldl (fun s x => addZ s (sizeZ x)) 0
theorem zmI {x : Int} (h : I64 x) : sizeZ x = min (x.natAbs : Int) 9223372036854775807 := by
 unfold sizeZ mulZ holdZ diffS
 unfold I64 at h
 have e : (-1 : Int).natAbs = 1 := rfl
 rw [e, Nat.mul_one]
 have e2 : decide ((-1 : Int) < 0) = true := rfl
 rw [e2]
 by_cases hx : x < 0
 ·rw [decide_eq_true hx]
  have : (!(true == true)) = false := rfl
  rw [this]
  simp only [Bool.false_eq_true, if_false]
  split <;> omega
 ·rw [decide_eq_false hx]
  have : (!(false == true)) = true := rfl
  rw [this]
  simp only [if_true]
  split <;> omega
theorem zfn {f : Int → Int → Int} (hf : ∀ a b, I64 (f a b)) : ∀ (l : List Int) (s : Int), I64 s → I64 (l.foldl f s)
 | [], s, h => h
 | x :: l, s, _ => zfn hf l _ (hf _ _)
theorem ziB : I64 0 := by unfold I64; omega
theorem sumZ_I64 (l : List Int) : I64 (sumZ l) := zfn ziA l 0 ziB
theorem zoU (l : List Int) : I64 (ze3 l) := zfn (fun a b => ziA a (sizeZ b)) l 0 ziB
theorem sizeZ_I64 {x : Int} (h : I64 x) : I64 (sizeZ x) := by rw [zmI h]; unfold I64; omega
def badW (l : List Int) : Prop := l.length = 0 ∨ 1048576 < l.length ∨ ∃ x ∈ l, 1099511627776 < sizeZ x
instance (l : List Int) : Decidable (badW l) := by unfold badW; infer_instance
def zaS (l : List Int) : Int := if badW l then 7 else if sumZ l < 268435456 then 8 else 0
def baseT (l : List Int) (i : Nat) : Int := l.getD i 0 * 16384 / sumZ l
def restT (l : List Int) (i : Nat) : Int := l.getD i 0 * 16384 % sumZ l
def leftK (l : List Int) : Nat → Int
 | 0 => 16384
 | k + 1 => leftK l k - baseT l k
def leftT (l : List Int) : Int := leftK l l.length
def ze1 (l : List Int) : List Int := (List.range l.length).map fun i => baseT l i + (if (rank (restT l) l.length i : Int) < leftT l then 1 else 0)
def zaC (l : List Int) : List Int := if zaS l = 0 then ze1 l else []
structure GoodW (l : List Int) : Prop where
 pos : 0 < l.length
 len : l.length ≤ 1048576
 small : ∀ i, -1099511627776 ≤ l.getD i 0 ∧ l.getD i 0 ≤ 1099511627776
 sum : 268435456 ≤ sumZ l
theorem zn4 {l : List Int} : zaS l = 0 ↔ ¬ badW l ∧ 268435456 ≤ sumZ l := by
 unfold zaS
 split
 ·rename_i h; simp [h]
 ·rename_i h
  split
  ·rename_i h2; simp [h]; omega
  ·rename_i h2; simp [h]; omega
theorem goodW {l : List Int} (h64 : ∀ x ∈ l, I64 x) (h : zaS l = 0) : GoodW l := by
 obtain ⟨h1, h2⟩ := zn4.1 h
 unfold badW at h1
 refine ⟨by omega, by omega, fun i => ?_, h2⟩
 by_cases hi : i < l.length
 ·have e : l.getD i 0 = l[i] := by simp [List.getD_eq_getElem?_getD, hi]
  rw [e]
  have hm := List.getElem_mem hi
  have h3 : ¬ 1099511627776 < sizeZ l[i] := fun h3 => h1 (.inr (.inr ⟨_, hm, h3⟩))
  rw [zmI (h64 _ hm)] at h3
  omega
 ·have e : l.getD i 0 = 0 := by simp [List.getD_eq_getElem?_getD, Nat.le_of_not_lt hi]
  rw [e]; omega
def psum (l : List Int) : Nat → Int
 | 0 => 0
 | k + 1 => psum l k + l.getD k 0
theorem psum_bd {l : List Int} (G : GoodW l) : ∀ k : Nat, -(k * 1099511627776 : Int) ≤ psum l k ∧ psum l k ≤ k * 1099511627776
 | 0 => by simp [psum]
 | k + 1 => by
  have := psum_bd G k
  have h2 := G.small k
  simp only [psum]
  omega
theorem sum_psum {l : List Int} (G : GoodW l) : ∀ k, k ≤ l.length → sumZ (l.take k) = psum l k
 | 0, _ => by simp [sumZ, psum]
 | k + 1, h => by
  have ih := sum_psum G k (by omega)
  have hb := psum_bd G k
  have h2 := G.small k
  have e : l.getD k 0 = l[k] := by simp [List.getD_eq_getElem?_getD, show k < l.length by omega]
  have := G.len
  unfold sumZ at *
  rw [List.take_succ_eq_append_getElem (by omega), List.foldl_append, ih]
  simp only [List.foldl_cons, List.foldl_nil, psum]
  unfold addZ
  rw [← e]
  omega
theorem sumZ_psum {l : List Int} (G : GoodW l) : sumZ l = psum l l.length := by
 have := sum_psum G l.length (Nat.le_refl _)
 rwa [List.take_of_length_le (Nat.le_refl _)] at this
def rsum (l : List Int) : Nat → Int
 | 0 => 0
 | k + 1 => rsum l k + restT l k
theorem zpR {l : List Int} (G : GoodW l) (i : Nat) : 0 ≤ restT l i ∧ restT l i < sumZ l := by
 have := G.sum
 exact ⟨Int.emod_nonneg _ (by omega), Int.emod_lt_of_pos _ (by omega)⟩
theorem ziz {l : List Int} (G : GoodW l) (i : Nat) : -67108864 ≤ baseT l i ∧ baseT l i ≤ 67108864 := by
 have h1 := G.sum
 have h2 := G.small i
 unfold baseT
 constructor
 ·rw [Int.le_ediv_iff_mul_le (by omega)]; omega
 ·apply Int.le_of_lt_add_one
  rw [Int.ediv_lt_iff_lt_mul (by omega)]; omega
theorem zqD {l : List Int} (G : GoodW l) : ∀ k : Nat, 16384 - (k * 67108864 : Int) ≤ leftK l k ∧ leftK l k ≤ 16384 + k * 67108864
 | 0 => by simp [leftK]
 | k + 1 => by
  have := zqD G k
  have h2 := ziz G k
  simp only [leftK]
  omega
theorem rsum_bd {l : List Int} (G : GoodW l) : ∀ k : Nat, 0 ≤ rsum l k ∧ rsum l k + k ≤ k * sumZ l
 | 0 => by simp [rsum]
 | k + 1 => by
  have := rsum_bd G k
  have h2 := zpR G k
  simp only [rsum]
  rw [show ((k + 1 : Nat) : Int) = (k : Int) + 1 from rfl, Int.add_mul, Int.one_mul]
  omega
theorem left_sum {l : List Int} (G : GoodW l) : ∀ k, leftK l k * sumZ l + psum l k * 16384 = 16384 * sumZ l + rsum l k
 | 0 => by simp [leftK, psum, rsum]
 | k + 1 => by
  have ih := left_sum G k
  have hd : sumZ l * baseT l k + restT l k = l.getD k 0 * 16384 := Int.mul_ediv_add_emod _ _
  simp only [leftK, psum, rsum]
  rw [Int.sub_mul, Int.add_mul, Int.mul_comm (baseT l k)]
  omega
theorem left_bd {l : List Int} (G : GoodW l) : 0 ≤ leftT l ∧ leftT l < l.length := by
 have h := left_sum G l.length
 rw [← sumZ_psum G] at h
 have hr := rsum_bd G l.length
 have hs := G.sum
 have hp := G.pos
 have e : leftT l * sumZ l = rsum l l.length := by unfold leftT; omega
 constructor
 ·rcases Int.lt_or_le (leftT l) 0 with h1 | h1
  ·have : leftT l * sumZ l ≤ (-1) * sumZ l := Int.mul_le_mul_of_nonneg_right (by omega) (by omega)
   omega
  ·exact h1
 ·rcases Int.lt_or_le (leftT l) l.length with h1 | h1
  ·exact h1
  ·have : (l.length : Int) * sumZ l ≤ leftT l * sumZ l := Int.mul_le_mul_of_nonneg_right h1 (by omega)
   omega
theorem zeW (l : List Int) : (ze1 l).length = l.length := by simp [ze1]
theorem tapsOf_bd {l : List Int} (G : GoodW l) : ∀ x ∈ ze1 l, -67108864 ≤ x ∧ x ≤ 67108865 := by
 intro x hx
 unfold ze1 at hx
 obtain ⟨i, _, rfl⟩ := List.mem_map.1 hx
 have := ziz G i
 split <;> omega
theorem zku {β : Type} (g : Nat → β) (n i : Nat) (x : β) (h : i < n) : ((List.range n).map g).set i x = (List.range n).map fun j => if j = i then x else g j := by
 apply List.ext_getElem
 ·simp
 ·intro k h1 h2
  simp at h1 h2
  rw [List.getElem_set]
  simp
  by_cases hk : i = k
  ·subst hk; simp
  ·rw [if_neg hk, if_neg (Ne.symm hk)]
theorem zau {β : Type} {g f : Nat → β} {n : Nat} (h : ∀ i, i < n → g i = f i) : (List.range n).map g = (List.range n).map f := by
 apply List.map_congr_left
 intro i hi
 exact h i (List.mem_range.1 hi)
end Go.Crisp
namespace Go.Proofs.YtojmncnelbnceaaGreatDoor
open Go Go.Crisp
attribute [local irreducible] FCall rowK newK stK iteK vK qK drawK gK joinK loopK mkK appK cpyK zqt znp bsK clK
open _root_.Go.Proofs.Tryz
abbrev SlI (Z : Nat → Prop) (h : Heap) (v : Value) (l : List Int) : Prop := Rp.Sl (Rp.int .i64) Z h v l
theorem zjV {f : Int → Int → Int} {l : List Int} {i : Nat} (h : i < l.length) (s : Int) : (l.take (i + 1)).foldl f s = f ((l.take i).foldl f s) l[i] := by
 rw [List.take_succ_eq_append_getElem h, List.foldl_append]; rfl
theorem zpp {h : Heap} {x : Int} (hx : I64 x) : FCall prog zgV #[.int .i64 x] h fun r h' => r = .int .i64 (sizeZ x) ∧ h' = h := by
 apply ok_taps_size
 unfold zlV
 refine (c_fixedMul hx (by unfold I64; omega)).mono fun v1 h1 ⟨e1, w1⟩ => ?_
 subst e1 w1
 simp only [go_sem]
 exact ⟨rfl, trivial⟩
theorem c_tapsSum {Z : Nat → Prop} {h : Heap} {v : Value} {l : List Int} (H : SlI Z h v l) (h64 : ∀ x ∈ l, I64 x) (hl : l.length < 4611686018427387904) : FCall prog ziC #[v] h fun r h' => r = .int .i64 (sumZ l) ∧ h' = h := by
 apply ok_taps_Sum
 unfold zm4
 obtain ⟨a, cap, e⟩ := H.isSl
 have e2 : zaf v = some (.int .i64 (l.length : Int)) := by rw [e]; rfl
 rw [e2, zaa]
 refine zc0 (fun i => [.int .i64 ((l.take i).foldl addZ 0), .int .i64 (i : Int)]) l.length 0 rfl (Nat.zero_le _) fun i again ρj _ hi Hag => ?_
 simp only [go_sem]
 refine zab (fun h0 => ?_) (fun h0 => ?_)
 ·have hi' : i < l.length := by omega
  obtain ⟨p, e3, e4⟩ := H.int_at (k' := .i64) hi'
  simp only [go_sem, e3, e4]
  refine (zpy (zfn ziA _ _ ziB) (h64 _ (List.getElem_mem _))).mono fun v1 h1 ⟨e1, w1⟩ => ?_
  subst e1 w1
  rw [w64 (by omega) (by omega)]
  have := Hag hi'
  rw [zjV hi'] at this
  exact this
 ·rw [List.take_of_length_le (by omega)]
  exact ⟨rfl, trivial⟩
theorem zn6 {Z : Nat → Prop} {h : Heap} {v : Value} {l : List Int} (H : SlI Z h v l) (h64 : ∀ x ∈ l, I64 x) (hl : l.length < 4611686018427387904) : FCall prog zgW #[v] h fun r h' => r = .int .i64 (ze3 l) ∧ h' = h := by
 apply ok_taps_Size
 unfold zlX
 obtain ⟨a, cap, e⟩ := H.isSl
 have e2 : zaf v = some (.int .i64 (l.length : Int)) := by rw [e]; rfl
 rw [e2, zaa]
 refine zc0 (fun i => [.int .i64 ((l.take i).foldl (fun s x => addZ s (sizeZ x)) 0), .int .i64 (i : Int)]) l.length 0 rfl (Nat.zero_le _) fun i again ρj _ hi Hag => ?_
 simp only [go_sem]
 refine zab (fun h0 => ?_) (fun h0 => ?_)
 ·have hi' : i < l.length := by omega
  obtain ⟨p, e3, e4⟩ := H.int_at (k' := .i64) hi'
  simp only [go_sem, e3, e4]
  have hx := h64 _ (List.getElem_mem hi')
  refine (zpp hx).mono fun v1 h1 ⟨e1, w1⟩ => ?_
  subst e1 w1
  refine (zpy (zfn (fun a b => ziA a (sizeZ b)) _ _ ziB) (sizeZ_I64 hx)).mono fun v1 h1 ⟨e1, w1⟩ => ?_
  subst e1 w1
  try simp only [go_sem]
  rw [w64 (by omega) (by omega)]
  have := Hag hi'
  rw [zjV hi'] at this
  exact this
 ·rw [List.take_of_length_le (by omega)]
  exact ⟨rfl, trivial⟩
theorem c_check1 {h : Heap} {x : Int} (hx : I64 x) : FCall prog zdv #[.int .i64 x] h fun r h' => r = .bool (decide (1099511627776 < sizeZ x)) ∧ h' = h := by
 apply zmw
 unfold zhi
 refine (zpp hx).mono fun v1 h1 ⟨e1, w1⟩ => ?_
 subst e1 w1
 simp only [go_sem]
 exact ⟨by simp, by simp⟩
section
attribute [local semireducible] clK
theorem clK_0 {f : FuncId} {a : Value} {h : Heap} {K : Value → Heap → Prop} : clK prog (.func (.func f) #[] #[]) #[a] h K = FCall prog f #[a] h K := rfl
theorem clK_2 {f : FuncId} {a b c : Value} {h : Heap} {K : Value → Heap → Prop} : clK prog (.func (.func f) #[] #[c]) #[a, b] h K = FCall prog f #[a, b, c] h K := rfl
end
theorem c_containsFn {Z : Nat → Prop} {h : Heap} {v : Value} {l : List Int} (H : SlI Z h v l) (h64 : ∀ x ∈ l, I64 x) (hl : l.length < 4611686018427387904) :
  FCall prog zaU #[v, .func (.func zdv) #[] #[]] h fun r h' => r = .bool (decide (∃ x ∈ l, 1099511627776 < sizeZ x)) ∧ h' = h := by
 apply zcN
 unfold zbr
 refine FCall.mono (K := fun r h' => (∃ n : Int, r = .int .i64 n ∧ (0 ≤ n ↔ ∃ x ∈ l, 1099511627776 < sizeZ x)) ∧ h' = h) ?_ ?_
 ·apply zdi
  unfold zbK
  obtain ⟨a, cap, e⟩ := H.isSl
  have e2 : zaf v = some (.int .i64 (l.length : Int)) := by rw [e]; rfl
  rw [e2, zaa]
  refine zaz l.length 0 (fun i (_ : Unit) => [.int .i64 (i : Int)]) (fun i _ h' => h' = h ∧ ∀ x ∈ l.take i, ¬ 1099511627776 < sizeZ x) () rfl (Nat.zero_le _) ⟨rfl, by simp⟩ fun i _ h1 again ρj _ hi ⟨hh, hI⟩ Hag => ?_
  subst hh
  simp only [go_sem]
  refine zab (fun h0 => ?_) (fun h0 => ?_)
  ·have hi' : i < l.length := by omega
   obtain ⟨p, e3, e4⟩ := H.int_at (k' := .i64) hi'
   simp only [go_sem, e3, e4]
   rw [clK_0]
   refine (c_check1 (h64 _ (List.getElem_mem hi'))).mono fun v1 h2 ⟨e1, w1⟩ => ?_
   subst e1 w1
   refine zab (fun h3 => ?_) (fun h3 => ?_)
   ·exact ⟨⟨i, rfl, fun _ => ⟨_, List.getElem_mem hi', h3⟩, fun _ => by omega⟩, rfl⟩
   ·rw [w64 (by omega) (by omega)]
    refine Hag () _ hi' ⟨rfl, fun x hx => ?_⟩
    rw [List.take_succ_eq_append_getElem hi'] at hx
    rcases List.mem_append.1 hx with hx | hx
    ·exact hI x hx
    ·rw [List.mem_singleton.1 hx]; exact h3
  ·rw [List.take_of_length_le (by omega)] at hI
   exact ⟨⟨-1, rfl, fun h => by omega, fun ⟨x, hx, h3⟩ => absurd h3 (hI x hx)⟩, by first | rfl | trivial⟩
 ·rintro r h' ⟨⟨n, rfl, hn⟩, rfl⟩
  simp only [go_sem]
  refine ⟨?_, trivial⟩
  congr 1
  rw [decide_eq_decide]; exact hn
theorem c_tapsCheck {Z : Nat → Prop} {h : Heap} {v : Value} {l : List Int} (H : SlI Z h v l) (h64 : ∀ x ∈ l, I64 x) (hl : l.length < 4611686018427387904) : FCall prog zic #[v] h fun r h' => r = .int .i64 (zaS l) ∧ h' = h := by
 apply zpZ
 unfold zj0
 obtain ⟨a, cap, e⟩ := H.isSl
 have e2 : zaf v = some (.int .i64 (l.length : Int)) := by rw [e]; rfl
 simp only [go_sem, e2]
 unfold zaS
 refine gK_f (fun hb => ?_) (fun hb => ?_)
 ·have hb := of_decide_eq_false hb
  have e3 : decide ((l.length : Int) = 0 ∨ 1048576 < (l.length : Int)) = false := decide_eq_false hb
  simp only [go_sem, e3]
  refine (c_containsFn H h64 hl).mono fun v1 h1 ⟨e1, w1⟩ => ?_
  subst e1 w1
  simp only [go_sem]
  refine zab (fun h0 => ?_) (fun h0 => ?_)
  ·have hB : badW l := .inr (.inr h0)
   rw [if_pos hB]; exact ⟨by simp, by simp⟩
  ·have hB : ¬ badW l := by unfold badW; rintro (h2 | h2 | h2); omega; omega; exact h0 h2
   rw [if_neg hB]
   refine (c_tapsSum H h64 hl).mono fun v1 h1 ⟨e1, w1⟩ => ?_
   subst e1 w1
   simp only [go_sem]
   refine zab (fun h3 => ?_) (fun h3 => ?_)
   ·rw [if_pos h3]; exact ⟨by simp, by simp⟩
   ·rw [if_neg h3]; exact ⟨by simp, by simp⟩
 ·have hb2 := of_decide_eq_true hb
  have hB : badW l := by unfold badW; rcases hb2 with h2 | h2; exact .inl (by omega); exact .inr (.inl (by omega))
  simp only [go_sem, hb]
  rw [if_pos hB]
  exact ⟨by simp, by simp⟩
def zcY (l : List Int) : Prop := l.length % 2 = 0 ∨ 1024 < l.length ∨ ze3 l < 1 ∨ 1048576 < ze3 l
instance (l : List Int) : Decidable (zcY l) := by unfold zcY; infer_instance
def userC (l : List Int) : Int := if zcY l then 7 else 0
def userW (l : List Int) : List Int := if zcY l then [] else l.map fun x => zaL x 1073741824 (ze3 l)
theorem zkS {α β : Type} (g : α → β) (l : List α) {k : Nat} (h : k < l.length) : (l.map g).take (k + 1) = (l.map g).take k ++ [g l[k]] := by
 rw [List.take_succ_eq_append_getElem (by simpa using h)]
 simp
theorem zlH {Z : Nat → Prop} {h : Heap} {v : Value} {l : List Int} (H : SlI Z h v l) (h64 : ∀ x ∈ l, I64 x) (hl : l.length < 4611686018427387904) :
  FCall prog zfr #[v] h fun r h' => ∃ u, r = .tuple #[u, .int .i64 (userC l)] ∧ New (Rp.int .i64) h h' u (userW l) := by
 apply ok_taps_User
 unfold zlW
 refine (zn6 H h64 hl).mono fun v1 h1 ⟨e1, w1⟩ => ?_
 subst e1 w1
 obtain ⟨a, cap, e⟩ := H.isSl
 have e2 : zaf v = some (.int .i64 (l.length : Int)) := by rw [e]; rfl
 simp only [go_sem, e2]
 rw [zaJ _ _ _ _ (by omega), zaa, Int.tmod_eq_emod_of_nonneg (by omega)]
 simp only [go_sem, e2]
 unfold userC userW
 have hs := zoU l
 refine zab (fun h0 => ?_) (fun h0 => ?_)
 ·have : zcY l := by unfold zcY; omega
  rw [if_pos this, if_pos this]
  exact ⟨_, rfl, New.nil (Ext.refl _)⟩
 ·have hn : ¬ zcY l := by unfold zcY; omega
  rw [if_neg hn, if_neg hn]
  refine zaz l.length 0 (fun k u => [u, .int .i64 (k : Int)]) (fun k u h' => New (Rp.int .i64) h1 h' u ((l.map fun x => zaL x 1073741824 (ze3 l)).take k)) (.slice none 0 0) rfl (Nat.zero_le _) (New.nil (Ext.refl _)) fun k u h2 again ρj _ hk hI Hag => ?_
  simp only [go_sem]
  refine zab (fun h0 => ?_) (fun h0 => ?_)
  ·have hk' : k < l.length := by omega
   obtain ⟨p, e3, e4⟩ := (H.ext hI.2.1).int_at (k' := .i64) hk'
   simp only [go_sem, e3, e4]
   refine (zeN (h64 _ (List.getElem_mem _)) (by unfold I64; omega) hs).mono fun v2 h3 ⟨e5, w5⟩ => ?_
   subst e5 w5
   have hlen : ((l.map fun x => zaL x 1073741824 (ze3 l)).take k).length = k := by rw [List.length_take, List.length_map]; omega
   unfold zcY at hn
   refine hI.push_int rfl (by rw [hlen]; omega) (by rw [hlen]; omega) fun s' h' H' => ?_
   try rw [za9, zaa]
   rw [w64 (by omega) (by omega)]
   have := Hag s' h' hk' (by rw [zkS _ _ hk']; exact H')
   exact this
  ·rw [List.take_of_length_le (by rw [List.length_map]; omega)] at hI
   exact ⟨u, rfl, hI⟩
theorem zm3 (l : List Int) : ∀ x ∈ userW l, I64 x := by
 unfold userW
 split
 ·simp
 ·intro x hx
  obtain ⟨y, _, rfl⟩ := List.mem_map.1 hx
  exact zbB _ _ _
def zeK (s : Int) : Prop := s < 1 ∨ 4194304 < s
instance (s : Int) : Decidable (zeK s) := by unfold zeK; infer_instance
def zcc (s : Int) : Int := (3 * s + 65535) / 65536
def zn0 (s : Int) : Int := if zeK s then 7 else 0
def zgz (s : Int) : List Int := if zeK s then [] else (List.range (2 * zcc s + 1).toNat).map fun k : Nat => zml ((k : Int) - zcc s) s
theorem zpk (s : Int) : ∀ x ∈ zgz s, I64 x := by
 unfold zgz
 split
 ·simp
 ·intro x hx
  obtain ⟨y, _, rfl⟩ := List.mem_map.1 hx
  exact gaussZ_I64 _ _
theorem zpA {h : Heap} {s : Int} (hs : I64 s) : FCall prog zdw #[.int .i64 s] h fun r h' => ∃ u, r = .tuple #[u, .int .i64 (zn0 s)] ∧ New (Rp.int .i64) h h' u (zgz s) := by
 apply zmx
 unfold zhj
 simp only [go_sem]
 unfold zn0 zgz
 refine zab (fun h0 => ?_) (fun h0 => ?_)
 ·have : zeK s := h0
  rw [if_pos this, if_pos this]
  exact ⟨_, rfl, New.nil (Ext.refl _)⟩
 ·have hn : ¬ zeK s := h0
  rw [if_neg hn, if_neg hn]
  rw [w64 (n := 3 * s) (by omega) (by omega), w64 (n := 3 * s + 65536) (by omega) (by omega), w64 (n := 3 * s + 65536 - 1) (by omega) (by omega)]
  have e1 : binV .i .shr (.int .i64 (3 * s + 65536 - 1)) (.int .u64 16) = some (.int .i64 (zcc s)) := by
   show (if (16 : Int) < 0 then none else some (Value.int .i64 ((3 * s + 65536 - 1).fdiv (2 ^ (min (16 : Int).toNat 64))))) = _
   rw [if_neg (by omega), Int.fdiv_eq_ediv_of_nonneg _ (by decide)]
   unfold zcc
   congr 2
   rw [show 3 * s + 65536 - 1 = 3 * s + 65535 by omega]; rfl
  rw [e1, zaa]
  have hr : 0 ≤ zcc s ∧ zcc s ≤ 193 := by unfold zcc; omega
  generalize zcc s = q at *
  simp only [go_sem]
  rw [w64 (n := 0 - q) (by omega) (by omega)]
  obtain ⟨N, hN⟩ : ∃ N, N = (2 * q + 1).toNat := ⟨_, rfl⟩
  rw [← hN]
  refine zaz N 0 (fun k u => [u, .int .i64 ((k : Int) - q)]) (fun k u h' => New (Rp.int .i64) h h' u (((List.range N).map fun k : Nat => zml ((k : Int) - q) s).take k)) (.slice none 0 0) rfl (Nat.zero_le _) (New.nil (Ext.refl _)) fun k u h2 again ρj _ hk hI Hag => ?_
  simp only [go_sem]
  refine zab (fun h3 => ?_) (fun h3 => ?_)
  ·have hk' : k < N := by omega
   refine (c_Gauss (by unfold I64; omega) hs).mono fun v2 h3 ⟨e5, w5⟩ => ?_
   subst e5 w5
   have hlen : (((List.range N).map fun k : Nat => zml ((k : Int) - q) s).take k).length = k := by rw [List.length_take, List.length_map, List.length_range]; omega
   refine hI.push_int rfl (by rw [hlen]; omega) (by rw [hlen]; omega) fun s' h' H' => ?_
   try rw [za9, zaa]
   rw [w64 (by omega) (by omega)]
   have := Hag s' h' hk' (by rw [zdX _ _ _ hk']; exact H')
   rw [show ((k + 1 : Nat) : Int) - q = (k : Int) - q + 1 by omega] at this
   exact this
  ·rw [List.take_of_length_le (by rw [List.length_map, List.length_range]; omega)] at hI
   exact ⟨u, rfl, hI⟩
end Go.Proofs.YtojmncnelbnceaaGreatDoor
namespace Go.Crisp
section
section
variable {α : Type} {lt : α → α → Prop}
theorem zjW (tr : ∀ {a b c}, lt a b → lt b c → lt a c) {L : List α} (h : L.Pairwise lt) {x : α} {i j : Nat} (hij : i ≤ j) (hj : j < L.length) (hx : lt L[j] x) : lt (L[i]'(by omega)) x := by
 rcases Nat.lt_or_ge i j with h1 | h1
 ·exact tr (List.pairwise_iff_getElem.1 h i j (by omega) hj h1) hx
 ·have : i = j := by omega
  subst this; exact hx
theorem zjX (tr : ∀ {a b c}, lt a b → lt b c → lt a c) {L : List α} (h : L.Pairwise lt) {x : α} {i j : Nat} (hij : i ≤ j) (hj : j < L.length) (hx : lt x (L[i]'(by omega))) : lt x L[j] := by
 rcases Nat.lt_or_ge i j with h1 | h1
 ·exact tr hx (List.pairwise_iff_getElem.1 h i j (by omega) hj h1)
 ·have : i = j := by omega
  subst this; exact hx
theorem cross (tr : ∀ {a b c}, lt a b → lt b c → lt a c) {L R : List α} (hL : L.Pairwise lt) (hR : R.Pairwise lt) {i j : Nat} (hi : i ≤ L.length) (hj : j ≤ R.length)
  (h1 : ∀ (a : 0 < i) (b : j < R.length), lt (L[i - 1]'(by omega)) R[j]) (h2 : ∀ (a : 0 < j) (b : i < L.length), lt (R[j - 1]'(by omega)) L[i]) :
  ∀ x ∈ L.take i ++ R.take j, ∀ y ∈ L.drop i ++ R.drop j, lt x y := by
 intro x hx y hy
 rcases List.mem_append.1 hx with hx | hx <;> rcases List.mem_append.1 hy with hy | hy <;>
  obtain ⟨p, hp, rfl⟩ := List.mem_iff_getElem.1 hx <;> obtain ⟨q, hq, rfl⟩ := List.mem_iff_getElem.1 hy <;>
  rw [List.length_take] at hp <;> rw [List.length_drop] at hq <;> rw [List.getElem_take, List.getElem_drop]
 ·exact List.pairwise_iff_getElem.1 hL p (i + q) (by omega) (by omega) (by omega)
 ·exact zjW (lt := lt) tr (L := L) hL (i := p) (j := i - 1) (by omega) (by omega) (zjX (lt := lt) tr (x := L[i - 1]) (L := R) hR (i := j) (j := j + q) (by omega) (by omega) (h1 (by omega) (by omega)))
 ·exact zjW (lt := lt) tr (L := R) hR (i := p) (j := j - 1) (by omega) (by omega) (zjX (lt := lt) tr (x := R[j - 1]) (L := L) hL (i := i) (j := i + q) (by omega) (by omega) (h2 (by omega) (by omega)))
 ·exact List.pairwise_iff_getElem.1 hR p (j + q) (by omega) (by omega) (by omega)
theorem merged {L R S1 S2 : List α} {i j : Nat} (hc : ∀ x ∈ L.take i ++ R.take j, ∀ y ∈ L.drop i ++ R.drop j, lt x y)
  (p1 : S1.Perm (L.take i ++ R.take j)) (p2 : S2.Perm (L.drop i ++ R.drop j)) (s1 : S1.Pairwise lt) (s2 : S2.Pairwise lt) : (S1 ++ S2).Perm (L ++ R) ∧ (S1 ++ S2).Pairwise lt := by
 refine ⟨?_, List.pairwise_append.2 ⟨s1, s2, fun x hx y hy => hc x (p1.mem_iff.1 hx) y (p2.mem_iff.1 hy)⟩⟩
 refine (p1.append p2).trans ?_
 have e : (L.take i ++ R.take j ++ (L.drop i ++ R.drop j)).Perm ((L.take i ++ L.drop i) ++ (R.take j ++ R.drop j)) := by
  rw [List.append_assoc, List.append_assoc]
  refine List.Perm.append_left _ ?_
  rw [← List.append_assoc, ← List.append_assoc]
  exact List.Perm.append_right _ List.perm_append_comm
 rwa [List.take_append_drop, List.take_append_drop] at e
end
end
end Go.Crisp
namespace Go.Proofs.YtojmncnelbnceaaGreatDoor
open Go Go.Crisp
attribute [local irreducible] FCall rowK newK stK iteK vK qK drawK gK joinK loopK mkK appK cpyK zqt znp bsK clK
open _root_.Go.Proofs.Tryz
section
abbrev iv (i : Nat) : Value := .int .i64 (i : Int)
structure CmpOK (v f : Value) (P : Heap → Prop) (r : Nat → Int) (n : Nat) : Prop where
 call : ∀ {h : Heap} {a b : Nat} {K : Value → Heap → Prop}, P h → a < n → b < n → (∀ c : Int, (c < 0 ↔ r b < r a) → K (.int .i64 c) h) → clK prog f #[iv a, iv b] h K
 fr : ∀ {h h' : Heap}, P h → Fr (blk v) h h' → P h'
structure IxRow (v : Value) (P : Heap → Prop) (n : Nat) (h : Heap) (l : List Nat) : Prop where
 own : Own 1 h v l.length (l.map iv)
 ok : P h
 small : l.length < 4611686018427387904
 below : ∀ x ∈ l, x < n
section
variable {v f : Value} {P : Heap → Prop} {r : Nat → Int} {n : Nat}
theorem IxRow.at {h : Heap} {l : List Nat} (H : IxRow v P n h l) {i : Nat} (hi : i < l.length) : ∃ p, idxV 1 v (iv i) = some p ∧ ldV h p = some (iv l[i]) := by
 obtain ⟨p, h1, h2, _⟩ := H.own.at1 (k := .i64) hi
 exact ⟨p, h1, by rw [h2, List.getElem_map]⟩
theorem IxRow.swap (C : CmpOK v f P r n) {h : Heap} {A B D : List Nat} {x y : Nat} (H : IxRow v P n h (A ++ x :: (B ++ y :: D))) {i j : Nat} (hi : i = A.length) (hj : j = A.length + 1 + B.length) :
  ∃ p q, idxV 1 v (iv i) = some p ∧ idxV 1 v (iv j) = some q ∧ ldV h p = some (iv x) ∧ ldV h q = some (iv y) ∧ ∀ K : Value → Heap → Prop,
   (∀ h', IxRow v P n h' (A ++ y :: (B ++ x :: D)) → Fr (blk v) h h' → K undef h') →
    (stK 1 p (iv y) h fun _ h2 => stK 1 q (iv x) h2 K) ∧ (stK 1 q (iv x) h fun _ h2 => stK 1 p (iv y) h2 K) := by
 subst hi hj
 have l1 : A.length < (A ++ x :: (B ++ y :: D)).length := by simp
 have l2 : A.length + 1 + B.length < (A ++ x :: (B ++ y :: D)).length := by simp; omega
 obtain ⟨p, h1, h2, h3⟩ := H.own.at1 (k := .i64) l1
 obtain ⟨q, g1, g2, g3⟩ := H.own.at1 (k := .i64) l2
 have e1 : (A ++ x :: (B ++ y :: D))[A.length] = x := by simp
 have e2 : (A ++ x :: (B ++ y :: D))[A.length + 1 + B.length] = y := by
  apply Option.some.inj
  rw [← List.getElem?_eq_getElem, List.getElem?_append_right (by omega), show A.length + 1 + B.length - A.length = B.length + 1 by omega, List.getElem?_cons_succ, List.getElem?_append_right (by omega)]
  simp
 rw [List.getElem_map, e1] at h2
 rw [List.getElem_map, e2] at g2
 have fin : ∀ h', Own 1 h' v (A ++ x :: (B ++ y :: D)).length ((A ++ y :: (B ++ x :: D)).map iv) → Fr (blk v) h h' → IxRow v P n h' (A ++ y :: (B ++ x :: D)) := fun h' o f' =>
  ⟨by rw [show (A ++ y :: (B ++ x :: D)).length = (A ++ x :: (B ++ y :: D)).length by simp]; exact o, C.fr H.ok f', by have := H.small; simpa using this, fun z hz => H.below z (by
   simp only [List.mem_append, List.mem_cons] at hz ⊢
   rcases hz with h | h | h | h | h <;> simp [h])⟩
 have s1 : ((A ++ x :: (B ++ y :: D)).map iv).set A.length (iv y) = (A ++ y :: (B ++ y :: D)).map iv := by simp
 have s2 : ((A ++ y :: (B ++ y :: D)).map iv).set (A.length + 1 + B.length) (iv x) = (A ++ y :: (B ++ x :: D)).map iv := by
  rw [← List.map_set]
  congr 1
  rw [List.set_append_right _ _ (by omega), show A.length + 1 + B.length - A.length = B.length + 1 by omega, List.set_cons_succ, List.set_append_right _ _ (by omega)]
  simp
 have s3 : ((A ++ x :: (B ++ y :: D)).map iv).set (A.length + 1 + B.length) (iv x) = (A ++ x :: (B ++ x :: D)).map iv := by
  rw [← List.map_set]
  congr 1
  rw [List.set_append_right _ _ (by omega), show A.length + 1 + B.length - A.length = B.length + 1 by omega, List.set_cons_succ, List.set_append_right _ _ (by omega)]
  simp
 have s4 : ((A ++ x :: (B ++ x :: D)).map iv).set A.length (iv y) = (A ++ y :: (B ++ x :: D)).map iv := by simp
 refine ⟨p, q, h1, g1, h2, g2, fun K HK => ⟨?_, ?_⟩⟩
 ·refine h3 _ _ rfl fun h2 o2 f2 z2 => ?_
  rw [s1] at o2
  obtain ⟨q', g1', _, g3'⟩ := o2.at1 (k := .i64) l2
  rw [g1] at g1'
  cases g1'
  refine g3' _ _ rfl fun h3 o3 f3 z3 => ?_
  rw [s2] at o3
  exact HK h3 (fin h3 o3 (f2.trans f3)) (f2.trans f3)
 ·refine g3 _ _ rfl fun h2 o2 f2 z2 => ?_
  rw [s3] at o2
  obtain ⟨p', h1', _, h3'⟩ := o2.at1 (k := .i64) l1
  rw [h1] at h1'
  cases h1'
  refine h3' _ _ rfl fun h3 o3 f3 z3 => ?_
  rw [s4] at o3
  exact HK h3 (fin h3 o3 (f2.trans f3)) (f2.trans f3)
theorem zgN (a b : Nat) (h : a + b ≤ 9223372036854775807) : IntKind.i64.wrap ((a : Int) + (b : Int)) = ((a + b : Nat) : Int) := by rw [w64 (by omega) (by omega)]; omega
theorem zdJ (a b : Nat) (h : b ≤ a) (h2 : a ≤ 9223372036854775807) : IntKind.i64.wrap ((a : Int) - (b : Int)) = ((a - b : Nat) : Int) := by rw [w64 (by omega) (by omega)]; omega
theorem zfV (a : Nat) (h : a + 1 ≤ 9223372036854775807) : IntKind.i64.wrap ((a : Int) + 1) = ((a + 1 : Nat) : Int) := by rw [w64 (by omega) (by omega)]; omega
theorem zmM (a : Nat) (h : 1 ≤ a) (h2 : a ≤ 9223372036854775807) : IntKind.i64.wrap ((a : Int) - 1) = ((a - 1 : Nat) : Int) := by rw [w64 (by omega) (by omega)]; omega
theorem zjE (C : CmpOK v f P r n) {h : Heap} {A U M V D : List Nat} (H : IxRow v P n h (A ++ U ++ M ++ V ++ D)) {a b k : Nat} (ha : a = A.length) (hb : b = A.length + U.length + M.length) (hU : U.length = k) (hV : V.length = k) :
  FCall prog zaE #[v, iv a, iv b, iv k, f] h fun _ h' => IxRow v P n h' (A ++ V ++ M ++ U ++ D) ∧ Fr (blk v) h h' := by
 apply zec
 unfold zb4
 have hsm := H.small
 simp only [List.length_append] at hsm
 refine zaz k 0 (fun i (_ : Unit) => [iv i]) (fun i _ h' => IxRow v P n h' (A ++ V.take i ++ (U.drop i ++ M ++ U.take i ++ (V.drop i ++ D))) ∧ Fr (blk v) h h') () rfl (Nat.zero_le _) ⟨by simpa using H, Fr.refl _ _⟩ fun i _ h1 again ρj _ hi ⟨H1, F1⟩ Hag => ?_
 try simp only [go_sem]
 refine zab (fun h0 => ?_) (fun h0 => ?_)
 ·have hi' : i < k := by omega
  have dU : U.drop i = U[i] :: U.drop (i + 1) := List.drop_eq_getElem_cons (by omega)
  have dV : V.drop i = V[i] :: V.drop (i + 1) := List.drop_eq_getElem_cons (by omega)
  have tU : U.take (i + 1) = U.take i ++ [U[i]] := List.take_succ_eq_append_getElem (by omega)
  have tV : V.take (i + 1) = V.take i ++ [V[i]] := List.take_succ_eq_append_getElem (by omega)
  have H2 : IxRow v P n h1 ((A ++ V.take i) ++ U[i] :: ((U.drop (i + 1) ++ M ++ U.take i) ++ V[i] :: (V.drop (i + 1) ++ D))) := by
   rw [dU, dV] at H1
   simpa only [List.append_assoc, List.cons_append, List.nil_append] using H1
  obtain ⟨p, q, e1, e2, e3, e4, st⟩ := H2.swap C (i := a + i) (j := b + i) (by rw [List.length_append, List.length_take]; omega) (by simp only [List.length_append, List.length_take, List.length_drop]; omega)
  refine zak (fun h' => h' = h1) rfl ?_
  rw [zgN a i (by omega), zgN b i (by omega)]
  simp only [go_sem, e1, e2]
  refine zae (iv V[i]) (fun h' e => by rw [e]; exact e4) ?_
  refine zae (iv U[i]) (fun h' e => by rw [e]; exact e3) ?_
  refine (st _ fun h3 H3 F3 => ?_).1
  rw [zfV i (by omega)]
  refine Hag () h3 hi' ⟨?_, F1.trans F3⟩
  rw [tU, tV]
  simpa only [List.append_assoc, List.cons_append, List.nil_append] using H3
 ·have : i = k := by omega
  subst this
  rw [List.take_of_length_le (by omega), List.take_of_length_le (by omega), List.drop_eq_nil_of_le (by omega), List.drop_eq_nil_of_le (by omega)] at H1
  exact ⟨by simpa using H1, F1⟩
theorem c_rotate (C : CmpOK v f P r n) {h : Heap} {A U V D : List Nat} (H : IxRow v P n h (A ++ U ++ V ++ D)) {a m b : Nat} (ha : a = A.length) (hm : m = A.length + U.length) (hb : b = A.length + U.length + V.length) (hU : 0 < U.length) (hV : 0 < V.length) :
  FCall prog zbM #[v, iv a, iv m, iv b, f] h fun _ h' => IxRow v P n h' (A ++ V ++ U ++ D) ∧ Fr (blk v) h h' := by
 apply zfg
 unfold zcr
 have hsm := H.small
 simp only [List.length_append] at hsm
 simp only [zcd, zaa]
 rw [zdJ m a (by omega) (by omega), zdJ b m (by omega) (by omega)]
 refine zbh (fun d xs h' => ∃ (P1 U1 V1 Q1 : List Nat), d = U1.length + V1.length ∧ xs = [iv U1.length, iv V1.length] ∧ 0 < U1.length ∧ 0 < V1.length ∧ IxRow v P n h' (P1 ++ U1 ++ V1 ++ Q1) ∧ Fr (blk v) h h' ∧ m = P1.length + U1.length ∧ P1 ++ V1 ++ U1 ++ Q1 = A ++ V ++ U ++ D)
  (U.length + V.length) ⟨A, U, V, D, rfl, by rw [show m - a = U.length by omega, show b - m = V.length by omega], hU, hV, H, Fr.refl _ _, hm, rfl⟩ ?_
 rintro d xs ρj h1 again ⟨P1, U1, V1, Q1, rfl, rfl, u0, v0, H1, F1, hm1, hg⟩ Hag
 have hsm1 := H1.small
 simp only [List.length_append] at hsm1
 simp only [ix_0, ix_1, zqZ, zaa]
 by_cases hne : U1.length = V1.length
 ·have e : ((U1.length : Int) = (V1.length : Int)) = True := eq_true (by omega)
  simp only [go_sem, e]
  rw [zdJ m U1.length (by omega) (by omega)]
  refine (zjE C (A := P1) (U := U1) (M := []) (V := V1) (D := Q1) (k := U1.length) (by simpa using H1) (by omega) (by simp; omega) rfl hne.symm).mono fun w h2 ⟨H2, F2⟩ => ?_
  refine ⟨?_, F1.trans F2⟩
  rw [← hg]
  simpa using H2
 ·have e : ((U1.length : Int) = (V1.length : Int)) = False := eq_false (by omega)
  simp only [go_sem, e]
  refine zab (fun h0 => ?_) (fun h0 => ?_)
  ·rw [zdJ m U1.length (by omega) (by omega)]
   have hsp : U1 = U1.take V1.length ++ U1.drop V1.length := (List.take_append_drop _ _).symm
   have l1 : (U1.take V1.length).length = V1.length := by rw [List.length_take]; omega
   have l2 : (U1.drop V1.length).length = U1.length - V1.length := by rw [List.length_drop]
   refine (zjE C (A := P1) (U := U1.take V1.length) (M := U1.drop V1.length) (V := V1) (D := Q1) (k := V1.length) (by rw [List.append_assoc P1, ← hsp]; exact H1) (by omega) (by omega) l1 rfl).mono fun w h2 ⟨H2, F2⟩ => ?_
   try simp only [go_sem]
   rw [zdJ U1.length V1.length (by omega) (by omega)]
   refine Hag _ _ (U1.length - V1.length + V1.length) (by omega) ⟨P1 ++ V1, U1.drop V1.length, U1.take V1.length, Q1, by rw [l1, l2], by rw [l1, l2], by omega, by omega, by simpa using H2, F1.trans F2, by rw [List.length_append]; omega, ?_⟩
   rw [← hg]
   simp only [List.append_assoc]
   rw [← List.append_assoc (U1.take _), ← hsp]
  ·rw [zdJ m U1.length (by omega) (by omega), zgN m V1.length (by omega), zdJ (m + V1.length) U1.length (by omega) (by omega)]
   have hsp : V1 = V1.take (V1.length - U1.length) ++ V1.drop (V1.length - U1.length) := (List.take_append_drop _ _).symm
   have l1 : (V1.take (V1.length - U1.length)).length = V1.length - U1.length := by rw [List.length_take]; omega
   have l2 : (V1.drop (V1.length - U1.length)).length = U1.length := by rw [List.length_drop]; omega
   refine (zjE C (A := P1) (U := U1) (M := V1.take (V1.length - U1.length)) (V := V1.drop (V1.length - U1.length)) (D := Q1) (k := U1.length) (by
    have e : P1 ++ U1 ++ V1.take (V1.length - U1.length) ++ V1.drop (V1.length - U1.length) ++ Q1 = P1 ++ U1 ++ V1 ++ Q1 := by
     conv => rhs; rw [hsp]
     simp only [List.append_assoc]
    rw [e]; exact H1) (by omega) (by omega) rfl l2).mono fun w h2 ⟨H2, F2⟩ => ?_
   try simp only [go_sem]
   rw [zdJ V1.length U1.length (by omega) (by omega)]
   refine Hag _ _ (U1.length + (V1.length - U1.length)) (by omega) ⟨P1, V1.drop (V1.length - U1.length), V1.take (V1.length - U1.length), U1 ++ Q1, by rw [l1, l2], by rw [l1, l2], by omega, by omega, by simpa using H2, F1.trans F2, by omega, ?_⟩
   rw [← hg]
   simp only [List.append_assoc]
   rw [← List.append_assoc (V1.take _), ← hsp]
end
end
section
theorem zmS {i j : Nat} {K : Value → Prop} (h : i + j < 9223372036854775808) : (vK (binV .i .add (iv i) (iv j)) fun v8 => vK (cviV .u64 v8) fun v9 => vK (binV .i .shr v9 (.int .u64 1)) fun v10 => vK (cviV .i64 v10) K) = K (iv ((i + j) / 2)) := by
 rw [za9, zaa, zgN i j (by omega), zmT, zaa, zbS (by omega), show (1 : Int) = ((1 : Nat) : Int) from rfl, zek _ (by omega), zaa, zmT, zaa, w64 (by omega) (by omega)]
section
variable {v f : Value} {P : Heap → Prop} {r : Nat → Int} {n : Nat}
theorem zfW {x y : Nat} (h : x < y) : lead r y x ↔ r x < r y := by unfold lead; omega
theorem put_in {S1 S2 : List Nat} {x : Nat} (hs : (S1 ++ S2).Pairwise (lead r)) (h1 : ∀ y ∈ S1, lead r y x) (h2 : ∀ y ∈ S2, lead r x y) : (S1 ++ x :: S2).Pairwise (lead r) := by
 rw [List.pairwise_append] at hs ⊢
 refine ⟨hs.1, List.pairwise_cons.2 ⟨h2, hs.2.1⟩, fun y hy z hz => ?_⟩
 rcases List.mem_cons.1 hz with rfl | hz
 ·exact h1 y hy
 ·exact hs.2.2 y hy z hz
theorem last_lead {S1 : List Nat} {y x : Nat} (hs : (S1 ++ [y]).Pairwise (lead r)) (h : lead r y x) : ∀ z ∈ S1 ++ [y], lead r z x := by
 rw [List.pairwise_append] at hs
 intro z hz
 rcases List.mem_append.1 hz with hz | hz
 ·exact zdd (hs.2.2 z hz y (by simp)) h
 ·rw [List.mem_singleton.1 hz]; exact h
theorem zn7 (C : CmpOK v f P r n) {h : Heap} {A M D : List Nat} (H : IxRow v P n h (A ++ M ++ D)) {a b : Nat} (ha : a = A.length) (hb : b = A.length + M.length) (asc : M.Pairwise (· < ·)) :
  FCall prog zaI #[v, iv a, iv b, f] h fun _ h' => ∃ M' : List Nat, M'.Perm M ∧ M'.Pairwise (lead r) ∧ IxRow v P n h' (A ++ M' ++ D) ∧ Fr (blk v) h h' := by
 apply zdh
 unfold zbJ
 have hsm := H.small
 simp only [List.length_append] at hsm
 rw [za9, zaa, zfV a (by omega)]
 refine zaz (M.length - 1) 0 (fun k (_ : Unit) => [iv (a + 1 + k)]) (fun k _ h' => ∃ S : List Nat, S.Perm (M.take (k + 1)) ∧ S.Pairwise (lead r) ∧ IxRow v P n h' (A ++ S ++ M.drop (k + 1) ++ D) ∧ Fr (blk v) h h') () rfl (Nat.zero_le _)
  ⟨M.take 1, List.Perm.refl _, ?_, by rw [List.append_assoc A, List.take_append_drop]; exact H, Fr.refl _ _⟩ fun k _ h1 again ρj _ hk ⟨S, hp, hs, H1, F1⟩ Hag => ?_
 ·cases M with
  | nil => simp
  | cons x M => simp
 simp only [ix_0, zd0, zaa]
 refine zab (fun h0 => ?_) (fun h0 => ?_)
 ·have hk1 : k + 1 < M.length := by omega
  have dM : M.drop (k + 1) = M[k + 1] :: M.drop (k + 1 + 1) := List.drop_eq_getElem_cons hk1
  have tM : M.take (k + 1 + 1) = M.take (k + 1) ++ [M[k + 1]] := List.take_succ_eq_append_getElem hk1
  have hSl : S.length = k + 1 := by rw [hp.length_eq, List.length_take]; omega
  have hlt : ∀ y ∈ S, y < M[k + 1] := fun y hy => by
   have := hp.mem_iff.1 hy
   obtain ⟨i, hi, rfl⟩ := List.mem_iff_getElem.1 this
   rw [List.length_take] at hi
   rw [List.getElem_take]
   exact List.pairwise_iff_getElem.1 asc i (k + 1) (by omega) hk1 (by omega)
  generalize M[k + 1] = x at *
  refine zbh (fun d xs h' => ∃ S1 S2 : List Nat, d = S1.length ∧ xs = [iv (a + S1.length)] ∧ S = S1 ++ S2 ∧ (∀ y ∈ S2, lead r x y) ∧ IxRow v P n h' (A ++ S1 ++ x :: (S2 ++ M.drop (k + 1 + 1) ++ D)) ∧ Fr (blk v) h h') S.length
   ⟨S, [], rfl, by rw [hSl]; congr 2; omega, by simp, by simp, by rw [dM] at H1; simpa only [List.append_assoc, List.cons_append, List.nil_append] using H1, F1⟩ ?_
  rintro d xs ρj2 h2 again2 ⟨S1, S2, rfl, rfl, rfl, hx, H2, F2⟩ Hag2
  simp only [ix_0, zmW, zaa]
  have Done : (∀ y ∈ S1, lead r y x) → IxRow v P n h2 (A ++ S1 ++ x :: (S2 ++ M.drop (k + 1 + 1) ++ D)) → Fr (blk v) h h2 → again [.int .i64 (IntKind.i64.wrap (((a + 1 + k : Nat) : Int) + 1))] h2 := by
   intro g1 g2 g3
   rw [zfV (a + 1 + k) (by omega), show a + 1 + k + 1 = a + 1 + (k + 1) by omega]
   refine Hag () h2 (by omega) ⟨S1 ++ x :: S2, ?_, put_in hs g1 hx, by simpa only [List.append_assoc, List.cons_append, List.nil_append] using g2, g3⟩
   rw [tM]
   exact List.perm_middle.trans ((List.Perm.cons _ hp).trans (List.perm_append_comm (l₁ := [x])))
  refine zak (fun h' => h' = h2) rfl ?_
  rcases List.eq_nil_or_concat S1 with rfl | ⟨S1, y, rfl⟩
  ·have e : ((a : Int) < ((a + ([] : List Nat).length : Nat) : Int)) = False := eq_false (by simp)
   simp only [go_sem, e]
   refine zae undef (fun _ _ => rfl) ?_
   refine zae undef (fun _ _ => rfl) ?_
   try simp only [go_sem]
   exact Done (by simp) H2 F2
  ·have hyl : (S1.concat y).length = S1.length + 1 := by simp
   have hyx : y < x := hlt y (by simp)
   have hsm2 := H2.small
   simp only [List.length_append, List.length_cons, hyl] at hsm2
   have H3 : IxRow v P n h2 ((A ++ S1) ++ y :: ([] ++ x :: (S2 ++ M.drop (k + 1 + 1) ++ D))) := by
    simpa only [List.concat_eq_append, List.append_assoc, List.cons_append, List.nil_append] using H2
   obtain ⟨p, q, e1, e2, e3, e4, st⟩ := H3.swap C (i := a + S1.length) (j := a + (S1.length + 1)) (by rw [List.length_append]; omega) (by rw [List.length_append, List.length_nil]; omega)
   have e : ((a : Int) < ((a + (S1.length + 1) : Nat) : Int)) = True := eq_true (by omega)
   have es : IntKind.i64.wrap (((a + (S1.length + 1) : Nat) : Int) - 1) = ((a + S1.length : Nat) : Int) := by rw [zmM _ (by omega) (by omega)]; congr 1
   simp only [go_sem, e, hyl, es, e1, e2]
   refine zae (iv x) (fun h' e => by rw [e]; exact e4) ?_
   refine zae (iv y) (fun h' e => by rw [e]; exact e3) ?_
   refine C.call H2.ok (H2.below x (by simp)) (H2.below y (by simp)) fun c hc => ?_
   simp only [go_sem]
   have hsS : (S1 ++ [y]).Pairwise (lead r) := by
    have := (List.pairwise_append.1 hs).1
    simpa only [List.concat_eq_append] using this
   refine zab (fun hcl => ?_) (fun hcl => ?_)
   ·refine zak (fun h' => h' = h2) rfl ?_
    try simp only [go_sem, e1, e2]
    refine zae (iv y) (fun h' e => by rw [e]; exact e3) ?_
    refine zae (iv x) (fun h' e => by rw [e]; exact e4) ?_
    refine (st _ fun h3 H4 F3 => ?_).2
    refine Hag2 _ h3 S1.length (by omega) ⟨S1, y :: S2, rfl, rfl, by simp [List.concat_eq_append], fun z hz => ?_, by simpa only [List.append_assoc, List.cons_append, List.nil_append] using H4, F2.trans F3⟩
    rcases List.mem_cons.1 hz with rfl | hz
    ·exact (zfW hyx).2 (hc.1 hcl)
    ·exact hx z hz
   ·refine Done ?_ H2 F2
    have hl : lead r y x := by
     have : ¬ lead r x y := fun g => hcl (hc.2 ((zfW hyx).1 g))
     exact (zde r (show y ≠ x by omega)).resolve_right this
    have := last_lead hsS hl
    simpa only [List.concat_eq_append] using this
 ·have hle : M.length ≤ k + 1 := by omega
  refine ⟨S, ?_, hs, ?_, F1⟩
  ·rw [List.take_of_length_le hle] at hp; exact hp
  ·rw [List.drop_eq_nil_of_le hle] at H1; simpa using H1
theorem zpr (C : CmpOK v f P r n) : ∀ (N : Nat) {h : Heap} {A L R D : List Nat} (H : IxRow v P n h (A ++ L ++ R ++ D)) {a m b : Nat} (ha : a = A.length) (hm : m = A.length + L.length) (hb : b = A.length + L.length + R.length)
  (hL : 0 < L.length) (hR : 0 < R.length) (sL : L.Pairwise (lead r)) (sR : R.Pairwise (lead r)) (hlt : ∀ x ∈ L, ∀ y ∈ R, x < y) (hN : L.length + R.length ≤ N),
  FCall prog zav #[v, iv a, iv m, iv b, f] h fun _ h' => ∃ S : List Nat, S.Perm (L ++ R) ∧ S.Pairwise (lead r) ∧ IxRow v P n h' (A ++ S ++ D) ∧ Fr (blk v) h h' := by
 intro N
 induction N with
 | zero => intro h A L R D H a m b ha hm hb hL hR sL sR hlt hN; omega
 | succ N ih =>
 intro h A L R D H a m b ha hm hb hL hR sL sR hlt hN
 apply zeo
 unfold zcg
 have hsm := H.small
 simp only [List.length_append] at hsm
 -- elements of the two parts
 have hAt : ∀ {h' : Heap}, IxRow v P n h' (A ++ L ++ R ++ D) → ∀ k (hk : k < L.length), ∃ p, idxV 1 v (iv (a + k)) = some p ∧ ldV h' p = some (iv L[k]) ∧ L[k] < n := fun H' k hk => by
  obtain ⟨p, e1, e2⟩ := H'.at (i := a + k) (by simp only [List.length_append]; omega)
  have e : (A ++ L ++ R ++ D)[a + k]'(by simp only [List.length_append]; omega) = L[k] := by
   apply Option.some.inj
   rw [← List.getElem?_eq_getElem, List.append_assoc, List.append_assoc, List.getElem?_append_right (by omega), show a + k - A.length = k by omega, List.getElem?_append_left hk, List.getElem?_eq_getElem hk]
  exact ⟨p, e1, by rw [e2, e], H'.below _ (by simp [List.getElem_mem])⟩
 have hAtR : ∀ {h' : Heap}, IxRow v P n h' (A ++ L ++ R ++ D) → ∀ k (hk : k < R.length), ∃ p, idxV 1 v (iv (m + k)) = some p ∧ ldV h' p = some (iv R[k]) ∧ R[k] < n := fun H' k hk => by
  obtain ⟨p, e1, e2⟩ := H'.at (i := m + k) (by simp only [List.length_append]; omega)
  have e : (A ++ L ++ R ++ D)[m + k]'(by simp only [List.length_append]; omega) = R[k] := by
   apply Option.some.inj
   rw [← List.getElem?_eq_getElem, List.append_assoc, List.getElem?_append_right (by simp only [List.length_append]; omega), List.length_append, show m + k - (A.length + L.length) = k by omega, List.getElem?_append_left hk, List.getElem?_eq_getElem hk]
  exact ⟨p, e1, by rw [e2, e], H'.below _ (by simp [List.getElem_mem])⟩
 simp only [zcd, zmX, zaa]
 rw [zdJ m a (by omega) (by omega), zdJ b m (by omega) (by omega)]
 refine zab (fun h1 => ?_) (fun h1 => ?_)
 ·-- one on the left
  have hL1 : L.length = 1 := by omega
  obtain ⟨x, rfl⟩ := List.length_eq_one_iff.1 hL1
  refine zbh (fun d xs h' => h' = h ∧ ∃ i j : Nat, d = j - i ∧ xs = [iv (m + i), iv (m + j)] ∧ i ≤ j ∧ j ≤ R.length ∧ (∀ h0 : 0 < i, ∀ hi : i - 1 < R.length, lead r R[i - 1] x) ∧ (∀ hj : j < R.length, ¬ lead r R[j] x)) R.length
   ⟨rfl, 0, R.length, rfl, by rw [show b = m + R.length by omega]; rfl, by omega, Nat.le_refl _, by omega, by omega⟩ ?_
  rintro d xs ρj h' again ⟨hh, i, j, rfl, rfl, hij, hj, c1, c2⟩ Hag
  subst hh
  simp only [ix_0, ix_1, zd0, zaa]
  refine zab (fun h2 => ?_) (fun h2 => ?_)
  ·rw [zmS (by omega), show (m + i + (m + j)) / 2 = m + (i + j) / 2 by omega]
   have hk : (i + j) / 2 < R.length := by omega
   obtain ⟨p, e1, e2, b1⟩ := hAtR H ((i + j) / 2) hk
   obtain ⟨q, g1, g2, b2⟩ := hAt H 0 (by omega)
   simp only [Nat.add_zero, List.getElem_cons_zero] at g1 g2 b2
   refine zak (fun h2 => h2 = h') rfl ?_
   simp only [e1, g1, zaa]
   refine zae _ (fun h2 e => by rw [e]; exact e2) ?_
   refine zae _ (fun h2 e => by rw [e]; exact g2) ?_
   refine C.call H.ok b1 b2 fun c hc => ?_
   have hxy : x < R[(i + j) / 2] := hlt x (by simp) _ (List.getElem_mem _)
   try simp only [go_sem]
   refine zab (fun h3 => ?_) (fun h3 => ?_)
   ·rw [zfV _ (by omega)]
    refine Hag _ _ (j - ((i + j) / 2 + 1)) (by omega) ⟨rfl, (i + j) / 2 + 1, j, rfl, rfl, by omega, hj, fun _ _ => ?_, c2⟩
    exact (zfW hxy).2 (hc.1 h3)
   ·refine Hag _ _ ((i + j) / 2 - i) (by omega) ⟨rfl, i, (i + j) / 2, rfl, rfl, by omega, by omega, c1, fun _ g => h3 (hc.2 ((zfW hxy).1 g))⟩
  ·have hij2 : i = j := by omega
   subst hij2
   -- it goes to its place
   refine zaz i 0 (fun c (_ : Unit) => [iv (a + c)]) (fun c _ h2 => IxRow v P n h2 (A ++ R.take c ++ x :: (R.drop c ++ D)) ∧ Fr (blk v) h' h2) () rfl (Nat.zero_le _) ⟨by simpa using H, Fr.refl _ _⟩ fun c _ h2 again2 ρj2 _ hc ⟨H2, F2⟩ Hag2 => ?_
   simp only [ix_0, zcd, zd0, zaa]
   rw [zmM _ (by omega) (by omega)]
   have lA : A.length + [x].length = A.length + 1 := rfl
   refine zab (fun h3 => ?_) (fun h3 => ?_)
   ·have hci : c < i := by omega
    have dR : R.drop c = R[c] :: R.drop (c + 1) := List.drop_eq_getElem_cons (by omega)
    have tR : R.take (c + 1) = R.take c ++ [R[c]] := List.take_succ_eq_append_getElem (by omega)
    have H3 : IxRow v P n h2 ((A ++ R.take c) ++ x :: ([] ++ R[c] :: (R.drop (c + 1) ++ D))) := by
     rw [dR] at H2
     simpa only [List.append_assoc, List.cons_append, List.nil_append] using H2
    obtain ⟨p, q, e1, e2, e3, e4, st⟩ := H3.swap C (i := a + c) (j := a + c + 1) (by rw [List.length_append, List.length_take]; omega) (by rw [List.length_append, List.length_take, List.length_nil]; omega)
    refine zak (fun h3 => h3 = h2) rfl ?_
    rw [za9, zaa, zfV _ (by omega)]
    simp only [go_sem, e1, e2]
    refine zae _ (fun h3 e => by rw [e]; exact e4) ?_
    refine zae _ (fun h3 e => by rw [e]; exact e3) ?_
    refine (st _ fun h3 H4 F3 => ?_).1
    try rw [zfV _ (by omega)]
    refine Hag2 () h3 hci ⟨?_, F2.trans F3⟩
    rw [tR]
    simpa only [List.append_assoc, List.cons_append, List.nil_append] using H4
   ·have : c = i := by omega
    subst this
    refine ⟨R.take c ++ x :: R.drop c, ?_, ?_, by simpa only [List.append_assoc, List.cons_append, List.nil_append] using H2, F2⟩
    ·refine List.perm_middle.trans ?_
     rw [List.take_append_drop]
     exact List.Perm.refl _
    ·refine put_in (by rw [List.take_append_drop]; exact sR) (fun y hy => ?_) (fun y hy => ?_)
     ·obtain ⟨k, hk, rfl⟩ := List.mem_iff_getElem.1 hy
      rw [List.length_take] at hk
      rw [List.getElem_take]
      exact zjW (lt := lead r) zdd sR (i := k) (j := c - 1) (by omega) (by omega) (c1 (by omega) (by omega))
     ·obtain ⟨k, hk, rfl⟩ := List.mem_iff_getElem.1 hy
      rw [List.length_drop] at hk
      rw [List.getElem_drop]
      have hx : lead r x R[c] := (zde r (show x ≠ R[c] by have := hlt x (by simp) _ (List.getElem_mem (l := R) (n := c) (by omega)); omega)).resolve_right (c2 (by omega))
      exact zjX (lt := lead r) zdd sR (i := c) (j := c + k) (by omega) (by omega) hx
 refine zab (fun h2 => ?_) (fun h2 => ?_)
 ·-- one on the right
  have hR1 : R.length = 1 := by omega
  obtain ⟨y, rfl⟩ := List.length_eq_one_iff.1 hR1
  refine zbh (fun d xs h' => h' = h ∧ ∃ i j : Nat, d = j - i ∧ xs = [iv (a + i), iv (a + j)] ∧ i ≤ j ∧ j ≤ L.length ∧ (∀ h0 : 0 < i, ∀ hi : i - 1 < L.length, lead r L[i - 1] y) ∧ (∀ hj : j < L.length, ¬ lead r L[j] y)) L.length
   ⟨rfl, 0, L.length, rfl, by rw [show m = a + L.length by omega]; rfl, by omega, Nat.le_refl _, by omega, by omega⟩ ?_
  rintro d xs ρj h' again ⟨hh, i, j, rfl, rfl, hij, hj, c1, c2⟩ Hag
  subst hh
  simp only [ix_0, ix_1, zd0, zaa]
  refine zab (fun h3 => ?_) (fun h3 => ?_)
  ·rw [zmS (by omega), show (a + i + (a + j)) / 2 = a + (i + j) / 2 by omega]
   have hk : (i + j) / 2 < L.length := by omega
   obtain ⟨p, e1, e2, b1⟩ := hAt H ((i + j) / 2) hk
   obtain ⟨q, g1, g2, b2⟩ := hAtR H 0 (by simp)
   simp only [Nat.add_zero, List.getElem_cons_zero] at g1 g2 b2
   refine zak (fun h2 => h2 = h') rfl ?_
   simp only [e1, g1, zaa]
   refine zae _ (fun h2 e => by rw [e]; exact g2) ?_
   refine zae _ (fun h2 e => by rw [e]; exact e2) ?_
   refine C.call H.ok b2 b1 fun c hc => ?_
   have hxy : L[(i + j) / 2] < y := hlt _ (List.getElem_mem _) y (by simp)
   simp only [go_sem]
   refine zab (fun h4 => ?_) (fun h4 => ?_)
   ·rw [zfV _ (by omega)]
    refine Hag _ _ (j - ((i + j) / 2 + 1)) (by omega) ⟨rfl, (i + j) / 2 + 1, j, rfl, rfl, by omega, hj, fun _ _ => ?_, c2⟩
    have e : (i + j) / 2 + 1 - 1 = (i + j) / 2 := by omega
    simp only [e]
    exact (zde r (by omega)).resolve_right fun g => h4 (hc.2 ((zfW hxy).1 g))
   ·refine Hag _ _ ((i + j) / 2 - i) (by omega) ⟨rfl, i, (i + j) / 2, rfl, rfl, by omega, by omega, c1, fun _ g => ?_⟩
    exact zpf g ((zfW hxy).2 (hc.1 (Decidable.of_not_not h4)))
  ·have hij2 : i = j := by omega
   subst hij2
   refine zbh (fun d xs h2 => ∃ c : Nat, d = c ∧ xs = [iv (a + c)] ∧ i ≤ c ∧ c ≤ L.length ∧ IxRow v P n h2 (A ++ L.take c ++ y :: (L.drop c ++ D)) ∧ Fr (blk v) h' h2) L.length
    ⟨L.length, rfl, by rw [show m = a + L.length by omega], hj, Nat.le_refl _, by rw [List.take_of_length_le (Nat.le_refl _), List.drop_eq_nil_of_le (Nat.le_refl _)]; simpa using H, Fr.refl _ _⟩ ?_
   rintro d xs ρj2 h2 again2 ⟨c, hdc, rfl, hic, hcL, H2, F2⟩ Hag2
   have hdc := hdc.symm
   subst hdc
   simp only [ix_0, zmW, zaa]
   refine zab (fun h4 => ?_) (fun h4 => ?_)
   ·obtain ⟨c, rfl⟩ : ∃ e, c = e + 1 := ⟨c - 1, by omega⟩
    have dL : L.drop c = L[c] :: L.drop (c + 1) := List.drop_eq_getElem_cons (by omega)
    have tL : L.take (c + 1) = L.take c ++ [L[c]] := List.take_succ_eq_append_getElem (by omega)
    have H3 : IxRow v P n h2 ((A ++ L.take c) ++ L[c] :: ([] ++ y :: (L.drop (c + 1) ++ D))) := by
     rw [tL] at H2
     simpa only [List.append_assoc, List.cons_append, List.nil_append] using H2
    obtain ⟨p, q, e1, e2, e3, e4, st⟩ := H3.swap C (i := a + c) (j := a + (c + 1)) (by rw [List.length_append, List.length_take]; omega) (by rw [List.length_append, List.length_take, List.length_nil]; omega)
    have es : IntKind.i64.wrap (((a + (c + 1) : Nat) : Int) - 1) = ((a + c : Nat) : Int) := by rw [zmM _ (by omega) (by omega)]; congr 1
    refine zak (fun h3 => h3 = h2) rfl ?_
    simp only [go_sem, es, e1, e2]
    refine zae _ (fun h3 e => by rw [e]; exact e3) ?_
    refine zae _ (fun h3 e => by rw [e]; exact e4) ?_
    refine (st _ fun h3 H4 F3 => ?_).2
    refine Hag2 _ h3 c (by omega) ⟨c, rfl, rfl, by omega, by omega, ?_, F2.trans F3⟩
    rw [dL]
    simpa only [List.append_assoc, List.cons_append, List.nil_append] using H4
   ·have : c = i := by omega
    subst this
    refine ⟨L.take c ++ y :: L.drop c, ?_, ?_, by simpa only [List.append_assoc, List.cons_append, List.nil_append] using H2, F2⟩
    ·refine List.perm_middle.trans ?_
     rw [List.take_append_drop]
     exact List.perm_append_comm (l₁ := [y])
    ·refine put_in (by rw [List.take_append_drop]; exact sL) (fun z hz => ?_) (fun z hz => ?_)
     ·obtain ⟨k, hk, rfl⟩ := List.mem_iff_getElem.1 hz
      rw [List.length_take] at hk
      rw [List.getElem_take]
      exact zjW (lt := lead r) zdd sL (i := k) (j := c - 1) (by omega) (by omega) (c1 (by omega) (by omega))
     ·obtain ⟨k, hk, rfl⟩ := List.mem_iff_getElem.1 hz
      rw [List.length_drop] at hk
      rw [List.getElem_drop]
      have hx : lead r y L[c] := (zde r (show y ≠ L[c] by have := hlt _ (List.getElem_mem (l := L) (n := c) (by omega)) y (by simp); omega)).resolve_right (c2 (by omega))
      exact zjX (lt := lead r) zdd sL (i := c) (j := c + k) (by omega) (by omega) hx
 -- cut in the middle
 rw [zmS (by omega)]
 obtain ⟨mid, hmid⟩ : ∃ mid, mid = (a + b) / 2 := ⟨_, rfl⟩
 rw [← hmid, za9, zaa, zgN mid m (by omega)]
 obtain ⟨s0, hs0⟩ : ∃ s0, s0 = if mid < m then mid + m - b else a := ⟨_, rfl⟩
 obtain ⟨r0, hr0⟩ : ∃ r0, r0 = if mid < m then mid else m := ⟨_, rfl⟩
 have hs0' : (mid < m → s0 = mid + m - b) ∧ (¬ mid < m → s0 = a) := ⟨fun h => by rw [hs0, if_pos h], fun h => by rw [hs0, if_neg h]⟩
 have hr0' : (mid < m → r0 = mid) ∧ (¬ mid < m → r0 = m) := ⟨fun h => by rw [hr0, if_pos h], fun h => by rw [hr0, if_neg h]⟩
 clear hs0 hr0
 refine zat (fun xs h' => h' = h ∧ xs = [iv s0, iv r0]) ?_ ?_
 ·rw [zmW, zaa]
  refine zab (fun h3 => ?_) (fun h3 => ?_)
  ·rw [zcd, zaa, zdJ (mid + m) b (by omega) (by omega)]
   exact ⟨rfl, by rw [hs0'.1 (by omega), hr0'.1 (by omega)]⟩
  ·exact ⟨rfl, by rw [hs0'.2 (by omega), hr0'.2 (by omega)]⟩
 rintro xs ρj h' ⟨hh, rfl⟩
 subst hh
 simp only [ix_0, ix_1]
 rw [zcd, zaa, zmM (mid + m) (by omega) (by omega)]
 have hb0 : a ≤ s0 ∧ s0 ≤ r0 ∧ r0 ≤ m ∧ r0 ≤ mid ∧ mid + m - b ≤ s0 := by
  by_cases h3 : mid < m
  ·have e1 := hs0'.1 h3
   have e2 := hr0'.1 h3
   omega
  ·have e1 := hs0'.2 h3
   have e2 := hr0'.2 h3
   omega
 -- which ones come ahead
 have cmpAt : ∀ c : Nat, s0 ≤ c → c < r0 → ∃ (h1 : c - a < L.length) (h2 : mid - 1 - c < R.length), ∃ p q, idxV 1 v (iv c) = some p ∧ ldV h' p = some (iv L[c - a]) ∧ idxV 1 v (iv (mid + m - 1 - c)) = some q ∧ ldV h' q = some (iv R[mid - 1 - c]) ∧ L[c - a] < n ∧ R[mid - 1 - c] < n := by
  intro c h1 h2
  have l1 : c - a < L.length := by omega
  have l2 : mid - 1 - c < R.length := by omega
  obtain ⟨p, e1, e2, b1⟩ := hAt H (c - a) l1
  obtain ⟨q, g1, g2, b2⟩ := hAtR H (mid - 1 - c) l2
  rw [show a + (c - a) = c by omega] at e1
  rw [show m + (mid - 1 - c) = mid + m - 1 - c by omega] at g1
  exact ⟨l1, l2, p, q, e1, e2, g1, g2, b1, b2⟩
 refine zbh (fun d xs h2 => h2 = h' ∧ ∃ i j : Nat, d = j - i ∧ xs = [iv i, iv j] ∧ s0 ≤ i ∧ i ≤ j ∧ j ≤ r0 ∧ (∀ h0 : s0 < i, ∀ (g1 : i - 1 - a < L.length) (g2 : mid - i < R.length), lead r L[i - 1 - a] R[mid - i]) ∧ (j < r0 → ∀ (g1 : j - a < L.length) (g2 : mid - 1 - j < R.length), lead r R[mid - 1 - j] L[j - a])) (r0 - s0)
  ⟨rfl, s0, r0, rfl, rfl, Nat.le_refl _, hb0.2.1, Nat.le_refl _, by omega, by omega⟩ ?_
 rintro d xs ρj2 h2 again ⟨hh, i, j, rfl, rfl, hsi, hij, hjr, c1, c2⟩ Hag
 subst hh
 simp only [ix_0, ix_1, zd0, zaa]
 refine zab (fun h3 => ?_) (fun h3 => ?_)
 ·rw [zmS (by omega)]
  obtain ⟨l1, l2, p, q, e1, e2, g1, g2, b1, b2⟩ := cmpAt ((i + j) / 2) (by omega) (by omega)
  obtain ⟨c, hc⟩ : ∃ c, c = (i + j) / 2 := ⟨_, rfl⟩
  simp only [← hc] at l1 l2 e1 e2 g1 g2 b1 b2 ⊢
  have hxy : L[c - a] < R[mid - 1 - c] := hlt _ (List.getElem_mem _) _ (List.getElem_mem _)
  refine zak (fun h4 => h4 = h2) rfl ?_
  simp only [zcd, zaa]
  rw [zdJ (mid + m - 1) c (by omega) (by omega)]
  simp only [e1, g1, zaa]
  refine zae _ (fun h3 e => by rw [e]; exact g2) ?_
  refine zae _ (fun h3 e => by rw [e]; exact e2) ?_
  refine C.call H.ok b2 b1 fun w hw => ?_
  simp only [go_sem]
  refine zab (fun h4 => ?_) (fun h4 => ?_)
  ·rw [zfV _ (by omega)]
   refine Hag _ _ (j - (c + 1)) (by omega) ⟨rfl, c + 1, j, rfl, rfl, by omega, by omega, hjr, fun _ _ _ => ?_, c2⟩
   have : lead r L[c - a] R[mid - 1 - c] := (zde r (by omega)).resolve_right fun g => h4 (hw.2 ((zfW hxy).1 g))
   have e : mid - (c + 1) = mid - 1 - c := by omega
   simp only [e, Nat.add_sub_cancel]
   exact this
  ·refine Hag _ _ (c - i) (by omega) ⟨rfl, i, c, rfl, rfl, hsi, by omega, by omega, c1, fun _ _ _ => (zfW hxy).2 (hw.1 (Decidable.of_not_not h4))⟩
 -- turned round
 have hij2 : i = j := by omega
 subst hij2
 obtain ⟨p, hp⟩ : ∃ p, p = i - a := ⟨_, rfl⟩
 obtain ⟨q, hq⟩ : ∃ q, q = mid - i := ⟨_, rfl⟩
 have hpL : p ≤ L.length := by omega
 have hqR : q ≤ R.length := by omega
 have x1 : ∀ (g1 : 0 < p) (g2 : q < R.length), lead r (L[p - 1]'(by omega)) R[q] := fun g1 g2 => by
  have hs : s0 < i := by
   by_cases h4 : mid < m
   ·have := hs0'.1 h4; omega
   ·have := hs0'.2 h4; omega
  have := c1 hs (by omega) (by omega)
  have e1 : i - 1 - a = p - 1 := by omega
  simp only [e1, ← hq] at this
  exact this
 have x2 : ∀ (g1 : 0 < q) (g2 : p < L.length), lead r (R[q - 1]'(by omega)) L[p] := fun g1 g2 => by
  have hs : i < r0 := by
   by_cases h4 : mid < m
   ·have := hr0'.1 h4; omega
   ·have := hr0'.2 h4; omega
  have := c2 hs (by omega) (by omega)
  have e1 : mid - 1 - i = q - 1 := by omega
  simp only [e1, ← hp] at this
  exact this
 have hcr := cross (lt := lead r) zdd sL sR hpL hqR x1 x2
 have lp : (L.take p).length = p := by rw [List.length_take]; omega
 have lq : (R.take q).length = q := by rw [List.length_take]; omega
 have ld : (L.drop p).length = L.length - p := by rw [List.length_drop]
 have lr : (R.drop q).length = R.length - q := by rw [List.length_drop]
 have eL : L = L.take p ++ L.drop p := (List.take_append_drop _ _).symm
 have eR : R = R.take q ++ R.drop q := (List.take_append_drop _ _).symm
 have H0 : IxRow v P n h2 ((A ++ L.take p) ++ L.drop p ++ R.take q ++ (R.drop q ++ D)) := by
  have e : (A ++ L.take p) ++ L.drop p ++ R.take q ++ (R.drop q ++ D) = A ++ L ++ R ++ D := by
   conv => rhs; rw [eL, eR]
   simp only [List.append_assoc]
  rw [e]; exact H
 rw [zcd, zaa, zdJ (mid + m) i (by omega) (by omega)]
 refine zat (fun _ h3 => IxRow v P n h3 (A ++ L.take p ++ R.take q ++ (L.drop p ++ R.drop q ++ D)) ∧ Fr (blk v) h2 h3) ?_ ?_
 ·simp only [go_sem]
  refine zab (fun h4 => ?_) (fun h4 => ?_)
  ·refine (c_rotate C H0 (a := i) (m := m) (b := mid + m - i) (by rw [List.length_append]; omega) (by rw [List.length_append]; omega) (by rw [List.length_append]; omega) (by omega) (by omega)).mono fun w h3 ⟨H3, F3⟩ => ?_
   exact ⟨by simpa only [List.append_assoc] using H3, F3⟩
  ·refine ⟨?_, Fr.refl _ _⟩
   by_cases h5 : p = L.length
   ·rw [List.drop_eq_nil_of_le (show L.length ≤ p by omega)] at H0 ⊢
    simpa only [List.append_assoc, List.append_nil, List.nil_append] using H0
   ·have : q = 0 := by omega
    subst this
    simpa only [List.append_assoc, List.take_zero, List.append_nil, List.nil_append] using H0
 rintro xs ρj3 h3 ⟨H3, F3⟩
 -- the two halves
 have hlt1 : ∀ x ∈ L.take p, ∀ y ∈ R.take q, x < y := fun x hx y hy => hlt x (List.mem_of_mem_take hx) y (List.mem_of_mem_take hy)
 have hlt2 : ∀ x ∈ L.drop p, ∀ y ∈ R.drop q, x < y := fun x hx y hy => hlt x (List.mem_of_mem_drop hx) y (List.mem_of_mem_drop hy)
 have sLt := sL.sublist (List.take_sublist p L)
 have sLd := sL.sublist (List.drop_sublist p L)
 have sRt := sR.sublist (List.take_sublist q R)
 have sRd := sR.sublist (List.drop_sublist q R)
 have second : ∀ (S1 : List Nat) (h4 : Heap), S1.Perm (L.take p ++ R.take q) → S1.Pairwise (lead r) → IxRow v P n h4 (A ++ S1 ++ (L.drop p ++ R.drop q ++ D)) → Fr (blk v) h2 h4 →
   vK (binV .i .lss (iv mid) (iv (mid + m - i))) fun v127 => vK (gV v127 true (some (iv (mid + m - i)))) fun v128 => vK (gV v127 true (some (iv b))) fun v129 => vK (gV v127 true (binV .i .lss v128 v129)) fun v130 => vK (pickV v127 v130 (.bool false)) fun v131 =>
    iteK v131 (FCall prog zav #[v, iv mid, iv (mid + m - i), iv b, f] h4 fun v132 h133 => ∃ S : List Nat, S.Perm (L ++ R) ∧ S.Pairwise (lead r) ∧ IxRow v P n h133 (A ++ S ++ D) ∧ Fr (blk v) h2 h133)
     (∃ S : List Nat, S.Perm (L ++ R) ∧ S.Pairwise (lead r) ∧ IxRow v P n h4 (A ++ S ++ D) ∧ Fr (blk v) h2 h4) := by
  intro S1 h4 hp1 hs1 H4 F4
  have hS1 : S1.length = p + q := by rw [hp1.length_eq, List.length_append]; omega
  have fin : ∀ (S2 : List Nat) (h5 : Heap), S2.Perm (L.drop p ++ R.drop q) → S2.Pairwise (lead r) → IxRow v P n h5 (A ++ S1 ++ S2 ++ D) → Fr (blk v) h2 h5 → ∃ S : List Nat, S.Perm (L ++ R) ∧ S.Pairwise (lead r) ∧ IxRow v P n h5 (A ++ S ++ D) ∧ Fr (blk v) h2 h5 := by
   intro S2 h5 hp2 hs2 H5 F5
   obtain ⟨m1, m2⟩ := merged (lt := lead r) hcr hp1 hp2 hs1 hs2
   exact ⟨S1 ++ S2, m1, m2, by simpa only [List.append_assoc] using H5, F5⟩
  simp only [go_sem]
  refine zab (fun h6 => ?_) (fun h6 => ?_)
  ·refine (ih (A := A ++ S1) (L := L.drop p) (R := R.drop q) (D := D) (by simpa only [List.append_assoc] using H4) (by rw [List.length_append]; omega) (by rw [List.length_append]; omega) (by rw [List.length_append]; omega) (by omega) (by omega) sLd sRd hlt2 (by omega)).mono fun w h5 ⟨S2, g1, g2, g3, g4⟩ => ?_
   exact fin S2 h5 g1 g2 g3 (F4.trans g4)
  ·by_cases h7 : L.length ≤ p
   ·rw [List.drop_eq_nil_of_le h7] at H4 fin
    exact fin (R.drop q) h4 (by simp) sRd (by simpa only [List.append_assoc, List.nil_append] using H4) F4
   ·have h8 : R.length ≤ q := by omega
    rw [List.drop_eq_nil_of_le h8] at H4 fin
    exact fin (L.drop p) h4 (by simp) sLd (by simpa only [List.append_assoc, List.append_nil, List.nil_append] using H4) F4
 simp only [zd0, zaa]
 by_cases h4 : a < i ∧ i < mid
 ·have e1 : ((a : Int) < (i : Int)) = True := eq_true (by omega)
  have e2 : ((i : Int) < (mid : Int)) = True := eq_true (by omega)
  simp only [go_sem, e1, e2]
  refine (ih (A := A) (L := L.take p) (R := R.take q) (D := L.drop p ++ R.drop q ++ D) H3 (by omega) (by omega) (by omega) (by omega) (by omega) sLt sRt hlt1 (by omega)).mono fun w h5 ⟨S1, g1, g2, g3, g4⟩ => ?_
  have := second S1 h5 g1 g2 g3 (F3.trans g4)
  simp only [go_sem] at this ⊢
  exact this
 ·have e1 : ((a : Int) < (i : Int) ∧ (i : Int) < (mid : Int)) = False := eq_false (by omega)
  simp only [go_sem, e1]
  by_cases h5 : p = 0
  ·subst h5
   have := second (R.take q) h3 (by simp) sRt (by simpa only [List.append_assoc, List.take_zero, List.append_nil, List.nil_append] using H3) F3
   simp only [go_sem] at this ⊢
   exact this
  ·have hq0 : q = 0 := by omega
   have hq0' := hq0
   have := second (L.take p) h3 (by rw [hq0]; simp) sLt (by rw [hq0] at H3 ⊢; simpa only [List.append_assoc, List.take_zero, List.append_nil, List.nil_append] using H3) F3
   simp only [go_sem] at this ⊢
   exact this
end
end
section
def Srt (r : Nat → Int) (lo : Nat) (S : List Nat) : Prop := S.Perm (List.range' lo S.length) ∧ S.Pairwise (lead r)
theorem Srt.mem {r : Nat → Int} {lo : Nat} {S : List Nat} (H : Srt r lo S) {x : Nat} (hx : x ∈ S) : lo ≤ x ∧ x < lo + S.length := by
 have := H.1.mem_iff.1 hx
 simpa using this
theorem Srt.join {r : Nat → Int} {lo : Nat} {S1 S2 S : List Nat} (h1 : Srt r lo S1) (h2 : Srt r (lo + S1.length) S2) (hp : S.Perm (S1 ++ S2)) (hs : S.Pairwise (lead r)) : Srt r lo S := by
 refine ⟨?_, hs⟩
 have hl : S.length = S1.length + S2.length := by rw [hp.length_eq, List.length_append]
 refine hp.trans ((h1.1.append h2.1).trans ?_)
 rw [hl, List.range'_append_1]
inductive BS (r : Nat → Int) (B : Nat) : Nat → List Nat → Prop
 | nil (lo : Nat) : BS r B lo []
 | last (lo : Nat) (S : List Nat) : 0 < S.length → S.length ≤ B → Srt r lo S → BS r B lo S
 | cons (lo : Nat) (S T : List Nat) : S.length = B → Srt r lo S → BS r B (lo + B) T → BS r B lo (S ++ T)
theorem BS.one {r : Nat → Int} {B lo : Nat} {Y : List Nat} (hB : 0 < B) (H : BS r B lo Y) (hl : B ≤ Y.length) : ∃ S T, Y = S ++ T ∧ S.length = B ∧ Srt r lo S ∧ BS r B (lo + B) T := by
 cases H
 ·simp at hl; omega
 ·rename_i h0 h1 h2; exact ⟨Y, [], by simp, by omega, h2, .nil _⟩
 ·rename_i S T h0 h1 h2; exact ⟨S, T, rfl, h0, h1, h2⟩
theorem BS.short {r : Nat → Int} {B lo : Nat} {Y : List Nat} (hB : 0 < B) (H : BS r B lo Y) (hl : Y.length ≤ B) (h0 : 0 < Y.length) : Srt r lo Y := by
 cases H
 ·simp at h0
 ·rename_i h0 h1 h2; exact h2
 ·rename_i S T h3 h1 h2
  have : T = [] := List.eq_nil_of_length_eq_zero (by simp at hl; omega)
  subst this
  simpa using h1
section
variable {v f : Value} {P : Heap → Prop} {r : Nat → Int} {n : Nat}
theorem c_stable (C : CmpOK v f P r n) {h : Heap} {N : Nat} (H : IxRow v P n h (List.range' 0 N)) (hN : N ≤ 1048576) :
  FCall prog zbL #[v, iv N, f] h fun _ h' => ∃ S : List Nat, S.Perm (List.range N) ∧ S.Pairwise (lead r) ∧ IxRow v P n h' S ∧ Fr (blk v) h h' := by
 apply zff
 unfold zcq
 refine zbh (fun d xs h' => ∃ (X : List Nat), d = N - X.length ∧ xs = [iv X.length, iv (X.length + 20)] ∧ X.length ≤ N ∧ (∀ T, BS r 20 X.length T → BS r 20 0 (X ++ T)) ∧ IxRow v P n h' (X ++ List.range' X.length (N - X.length)) ∧ Fr (blk v) h h') N
  ⟨[], rfl, rfl, Nat.zero_le _, fun T h => h, by simpa using H, Fr.refl _ _⟩ ?_
 rintro d xs ρj h1 again ⟨X, rfl, rfl, hX, hT, H1, F1⟩ Hag
 simp only [ix_0, ix_1, zq0, zaa]
 refine zab (fun h0 => ?_) (fun h0 => ?_)
 ·have er : List.range' X.length (N - X.length) = List.range' X.length 20 ++ List.range' (X.length + 20) (N - (X.length + 20)) := by
   rw [List.range'_append_1]; congr 1; omega
  have H2 : IxRow v P n h1 (X ++ List.range' X.length 20 ++ List.range' (X.length + 20) (N - (X.length + 20))) := by rw [er] at H1; simpa only [List.append_assoc] using H1
  refine (zn7 C H2 (a := X.length) (b := X.length + 20) rfl (by simp) List.pairwise_lt_range').mono fun w h2 ⟨M', hp, hs, H3, F2⟩ => ?_
  have hM : M'.length = 20 := by rw [hp.length_eq]; simp
  have hl : (X ++ M').length = X.length + 20 := by rw [List.length_append, hM]
  rw [za9, zaa, show (20 : Int) = ((20 : Nat) : Int) from rfl, zgN _ _ (by omega)]
  refine Hag _ h2 (N - (X ++ M').length) (by omega) ⟨X ++ M', rfl, by rw [hl], by omega, fun T hBT => ?_, by rw [hl]; exact H3, F1.trans F2⟩
  rw [hl] at hBT
  rw [List.append_assoc]
  exact hT _ (.cons _ M' T hM ⟨by rw [hM]; exact hp, hs⟩ hBT)
 ·refine (zn7 C (A := X) (M := List.range' X.length (N - X.length)) (D := []) (by simpa using H1) (a := X.length) (b := N) rfl (by simp; omega) List.pairwise_lt_range').mono fun w h2 ⟨M', hp, hs, H3, F2⟩ => ?_
  have hM : M'.length = N - X.length := by rw [hp.length_eq]; simp
  rw [List.append_nil] at H3
  have hBS : BS r 20 0 (X ++ M') := by
   refine hT _ ?_
   rcases Nat.eq_zero_or_pos M'.length with h3 | h3
   ·rw [List.eq_nil_of_length_eq_zero h3]; exact .nil _
   ·exact .last _ _ h3 (by omega) ⟨by rw [hM]; exact hp, hs⟩
  have hlen : (X ++ M').length = N := by rw [List.length_append]; omega
  generalize X ++ M' = Y0 at *
  -- blocks that grow
  refine zbh (fun d xs h' => ∃ (B : Nat) (Y : List Nat), d = N - B ∧ xs = [iv B] ∧ 0 < B ∧ B ≤ 2097152 ∧ Y.length = N ∧ BS r B 0 Y ∧ IxRow v P n h' Y ∧ Fr (blk v) h h') (N - 20)
   ⟨20, Y0, rfl, rfl, by omega, by omega, hlen, hBS, H3, F1.trans F2⟩ ?_
  rintro d xs ρj2 h3 again2 ⟨B, Y, rfl, rfl, hB, hB2, hYN, hY, H4, F3⟩ Hag2
  simp only [ix_0, zd0, zaa]
  refine zab (fun h4 => ?_) (fun h4 => ?_)
  ·rw [zdZ, zaa, show (2 : Int) * (B : Int) = ((2 * B : Nat) : Int) by omega, w64 (n := ((2 * B : Nat) : Int)) (by omega) (by omega)]
   refine zbh (fun d xs h' => ∃ (X Z : List Nat), d = Z.length ∧ xs = [iv X.length, iv (X.length + 2 * B)] ∧ X.length + Z.length = N ∧ (∀ T, BS r (2 * B) X.length T → BS r (2 * B) 0 (X ++ T)) ∧ BS r B X.length Z ∧ IxRow v P n h' (X ++ Z) ∧ Fr (blk v) h h') N
    ⟨[], Y, hYN.symm, by simp, by simpa using hYN, fun T h => h, hY, H4, F3⟩ ?_
   rintro d xs ρj3 h5 again3 ⟨X, Z, rfl, rfl, hXZ, hT2, hZ, H5, F5⟩ Hag3
   simp only [ix_0, ix_1, zq0, zaa]
   refine zab (fun h6 => ?_) (fun h6 => ?_)
   ·obtain ⟨S1, T1, rfl, l1, s1, b1⟩ := hZ.one hB (by omega)
    rw [List.length_append] at hXZ
    obtain ⟨S2, T2, rfl, l2, s2, b2⟩ := b1.one hB (by omega)
    rw [List.length_append] at hXZ
    rw [za9, zaa, zgN _ _ (by omega)]
    refine (zpr C (S1.length + S2.length) (A := X) (L := S1) (R := S2) (D := T2) (by simpa only [List.append_assoc] using H5) (a := X.length) (m := X.length + B) (b := X.length + 2 * B) rfl (by omega) (by omega) (by omega) (by omega) s1.2 s2.2 (fun x hx y hy => by
     have := s1.mem hx; have := s2.mem hy; omega) (Nat.le_refl _)).mono fun w h7 ⟨S, hp2, hs2, H7, F7⟩ => ?_
    have hS : S.length = 2 * B := by rw [hp2.length_eq, List.length_append]; omega
    have hl : (X ++ S).length = X.length + 2 * B := by rw [List.length_append, hS]
    rw [za9, zaa, zgN _ _ (by omega)]
    refine Hag3 _ h7 T2.length (by simp; omega) ⟨X ++ S, T2, rfl, by rw [hl], by rw [hl]; omega, fun T hBT => ?_, by rw [hl, show X.length + 2 * B = X.length + B + B by omega]; exact b2, H7, F5.trans F7⟩
    rw [hl] at hBT
    rw [List.append_assoc]
    exact hT2 _ (.cons _ S T hS (Srt.join s1 (by rw [l1]; exact s2) hp2 hs2) hBT)
   ·rw [za9, zaa, zgN _ _ (by omega), zd0, zaa]
    have go : ∀ (Y' : List Nat) (h8 : Heap), Y'.length = N → BS r (2 * B) 0 Y' → IxRow v P n h8 Y' → Fr (blk v) h h8 → vK (binV .i .mul (iv B) (.int .i64 2)) fun v31 => again2 [v31] h8 := by
     intro Y' h8 g1 g2 g3 g4
     rw [zdZ, zaa, show (B : Int) * 2 = ((2 * B : Nat) : Int) by omega, w64 (n := ((2 * B : Nat) : Int)) (by omega) (by omega)]
     exact Hag2 _ h8 (N - 2 * B) (by omega) ⟨2 * B, Y', rfl, rfl, by omega, by omega, g1, g2, g3, g4⟩
    refine zab (fun h8 => ?_) (fun h8 => ?_)
    ·obtain ⟨S1, T1, rfl, l1, s1, b1⟩ := hZ.one hB (by omega)
     rw [List.length_append] at hXZ
     have s2 := b1.short hB (by omega) (by omega)
     refine (zpr C (S1.length + T1.length) (A := X) (L := S1) (R := T1) (D := []) (by simpa only [List.append_assoc, List.append_nil] using H5) (a := X.length) (m := X.length + B) (b := N) rfl (by omega) (by omega) (by omega) (by omega) s1.2 s2.2 (fun x hx y hy => by
      have := s1.mem hx; have := s2.mem hy; omega) (Nat.le_refl _)).mono fun w h9 ⟨S, hp2, hs2, H7, F7⟩ => ?_
     have hS : S.length = S1.length + T1.length := by rw [hp2.length_eq, List.length_append]
     rw [List.append_nil] at H7
     exact go (X ++ S) h9 (by rw [List.length_append]; omega) (hT2 _ (.last _ S (by omega) (by omega) (Srt.join s1 (by rw [l1]; exact s2) hp2 hs2))) H7 (F5.trans F7)
    ·refine go (X ++ Z) h5 (by rw [List.length_append]; omega) (hT2 _ ?_) H5 F5
     rcases Nat.eq_zero_or_pos Z.length with h9 | h9
     ·rw [List.eq_nil_of_length_eq_zero h9]; exact .nil _
     ·exact .last _ _ h9 (by omega) (hZ.short hB (by omega) h9)
  ·have : Srt r 0 Y := by
    rcases Nat.eq_zero_or_pos Y.length with h9 | h9
    ·have : Y = [] := List.eq_nil_of_length_eq_zero h9
     subst this
     exact ⟨by simp, List.Pairwise.nil⟩
    ·exact hY.short hB (by omega) h9
   refine ⟨Y, ?_, this.2, H4, F3⟩
   have hp := this.1
   rw [hYN] at hp
   rw [List.range_eq_range']
   exact hp
theorem c_sortStable (C : CmpOK v f P r n) {h : Heap} {N : Nat} (H : IxRow v P n h (List.range' 0 N)) (hN : N ≤ 1048576) :
  FCall prog za3 #[v, f] h fun _ h' => ∃ S : List Nat, S.Perm (List.range N) ∧ S.Pairwise (lead r) ∧ IxRow v P n h' S ∧ Fr (blk v) h h' := by
 apply zcZ
 unfold zbx
 have ho := H.own
 rw [List.length_range'] at ho
 obtain ⟨a, cap, e⟩ := ho.isSl
 have e2 : zaf v = some (iv N) := by rw [e]; rfl
 rw [e2, zaa]
 exact c_stable C H hN
end
end
abbrev zeroI : Value := .int .i64 0
structure Mk3 (n : Nat) (h0 : Heap) (rows : List Value) (vr : Option (Nat × TypeId × Value)) (h : Heap) : Prop where
 ext : Ext h0 h
 own : ∀ r ∈ rows, Own 1 h r n (List.replicate n zeroI) ∧ ∀ b, blk r b → h0.size ≤ b
 dis : rows.Pairwise fun r s => ∀ b, blk r b → ¬ blk s b
 var : ∀ p, vr = some p → h[p.1]? = some (.cells #[p.2.2] p.2.1 (0, 0)) ∧ h0.size ≤ p.1 ∧ ∀ r ∈ rows, ¬ blk r p.1
theorem Mk3.start (n : Nat) (h : Heap) : Mk3 n h [] none h := ⟨Ext.refl _, by simp, List.Pairwise.nil, by simp⟩
theorem Mk3.mkr {n : Nat} {h0 h : Heap} {rows : List Value} {vr : Option (Nat × TypeId × Value)} {t : TypeId} {K : Value → Heap → Prop} (M : Mk3 n h0 rows vr h) (hn : n ≤ 1048576)
  (H : ∀ v h', Mk3 n h0 (rows ++ [v]) vr h' → K v h') : mkK zeroI t 1 8 (.int .i64 (n : Int)) (.int .i64 (n : Int)) h K := by
 refine zly rfl (by omega) (by omega) fun v h' o e f => H v h' ⟨M.ext.trans e, ?_, ?_, ?_⟩
 ·intro r hr
  rcases List.mem_append.1 hr with hr | hr
  ·exact ⟨(M.own r hr).1.fr (M := fun _ => False) e.fr fun _ _ => id, (M.own r hr).2⟩
  ·rw [List.mem_singleton.1 hr]
   exact ⟨o, fun b hb => Nat.le_trans M.ext.1 (f b hb)⟩
 ·rw [List.pairwise_append]
  refine ⟨M.dis, by simp, fun r hr s hs b hb hb2 => ?_⟩
  rw [List.mem_singleton.1 hs] at hb2
  have h1 := (M.own r hr).1.lt hb
  have h2 := f b hb2
  omega
 ·intro p hp
  obtain ⟨h1, h2, h3⟩ := M.var p hp
  refine ⟨e.row h1, h2, fun r hr => ?_⟩
  rcases List.mem_append.1 hr with hr | hr
  ·exact h3 r hr
  ·rw [List.mem_singleton.1 hr]
   intro hb
   have := f _ hb
   have := zaB h1
   omega
theorem Mk3.nw {n : Nat} {h0 h : Heap} {rows : List Value} {t : TypeId} {c : Value} {K : Value → Heap → Prop} (M : Mk3 n h0 rows none h)
  (H : ∀ b h', Mk3 n h0 rows (some (b, t, c)) h' → K (.pointer (some ⟨b, 0, none⟩)) h') : newK #[c] t h K := by
 refine zag fun b h' r e f => H b h' ⟨M.ext.trans e, fun s hs => ⟨(M.own s hs).1.fr (M := fun _ => False) e.fr fun _ _ => id, (M.own s hs).2⟩, M.dis, ?_⟩
 rintro p hp
 cases hp
 refine ⟨r, Nat.le_trans M.ext.1 f, fun s hs hb => ?_⟩
 have := (M.own s hs).1.lt hb
 simp only at this
 omega
theorem Mk3.st {n : Nat} {h0 h : Heap} {rows : List Value} {t : TypeId} {b : Nat} {c v : Value} {K : Value → Heap → Prop} (M : Mk3 n h0 rows (some (b, t, c)) h) (hv : v ∈ rows)
  (H : ∀ h', Mk3 n h0 rows (some (b, t, v)) h' → K undef h') : stK 1 (.pointer (some ⟨b, 0, none⟩)) v h K := by
 obtain ⟨h1, h2, h3⟩ := M.var _ rfl
 simp only at h1 h2 h3
 obtain ⟨a, cap, e⟩ := (M.own v hv).1.isSl
 refine zbl h1 (by simp) (by rw [e]; rfl) fun h' r u => H h' ⟨M.ext.upd h2 u, ?_, M.dis, ?_⟩
 ·intro s hs
  exact ⟨(M.own s hs).1.fr u.fr fun k hk he => h3 s hs (he ▸ hk), (M.own s hs).2⟩
 ·rintro p hp
  cases hp
  exact ⟨by simpa using r, h2, h3⟩
def Made3 (n : Nat) (h0 : Heap) (xs : List Value) (h : Heap) : Prop :=
 ∃ (x y z : Value) (b : Nat) (t : TypeId), xs = [x, y, .pointer (some ⟨b, 0, none⟩)] ∧ Ext h0 h ∧ (Own 1 h x n (List.replicate n zeroI) ∧ ∀ b, blk x b → h0.size ≤ b) ∧ (Own 1 h y n (List.replicate n zeroI) ∧ ∀ b, blk y b → h0.size ≤ b) ∧
  (Own 1 h z n (List.replicate n zeroI) ∧ ∀ b, blk z b → h0.size ≤ b) ∧ (∀ b, blk x b → ¬ blk y b) ∧ (∀ b, blk x b → ¬ blk z b) ∧ (∀ b, blk y b → ¬ blk z b) ∧
  h[b]? = some (.cells #[z] t (0, 0)) ∧ h0.size ≤ b ∧ ¬ blk x b ∧ ¬ blk y b ∧ ¬ blk z b
theorem Mk3.made {n : Nat} {h0 h : Heap} {rows : List Value} {t : TypeId} {b : Nat} {z : Value} (M : Mk3 n h0 rows (some (b, t, z)) h) (i j k : Nat) {x y : Value} (hx : rows[i]? = some x) (hy : rows[j]? = some y) (hz : rows[k]? = some z) (h1 : i ≠ j) (h2 : i ≠ k) (h3 : j ≠ k) :
  Made3 n h0 [x, y, .pointer (some ⟨b, 0, none⟩)] h := by
 obtain ⟨v1, v2, v3⟩ := M.var _ rfl
 simp only at v1 v2 v3
 have dis : ∀ (i j : Nat) (x y : Value), rows[i]? = some x → rows[j]? = some y → i ≠ j → ∀ b, blk x b → ¬ blk y b := by
  intro i j x y hx hy hij b hb hb2
  obtain ⟨li, ei⟩ := List.getElem?_eq_some_iff.1 hx
  obtain ⟨lj, ej⟩ := List.getElem?_eq_some_iff.1 hy
  rcases Nat.lt_or_ge i j with h | h
  ·have := List.pairwise_iff_getElem.1 M.dis i j li lj h b (by rw [ei]; exact hb)
   rw [ej] at this
   exact this hb2
  ·have := List.pairwise_iff_getElem.1 M.dis j i lj li (by omega) b (by rw [ej]; exact hb2)
   rw [ei] at this
   exact this hb
 exact ⟨x, y, z, b, t, rfl, M.ext, M.own x (List.mem_of_getElem? hx), M.own y (List.mem_of_getElem? hy), M.own z (List.mem_of_getElem? hz), dis i j x y hx hy h1, dis i k x z hx hz h2, dis j k y z hy hz h3, v1, v2, v3 x (List.mem_of_getElem? hx), v3 y (List.mem_of_getElem? hy), v3 z (List.mem_of_getElem? hz)⟩
theorem Own.at_map {h : Heap} {v : Value} {n : Nat} {g : Nat → Int} (H : Own 1 h v n ((List.range n).map fun i => Value.int .i64 (g i))) {k : IntKind} {i : Nat} (hi : i < n) :
  ∃ p, idxV 1 v (.int k (i : Int)) = some p ∧ ldV h p = some (.int .i64 (g i)) ∧ ∀ (x : Int) (K : Value → Heap → Prop),
   (∀ h', Own 1 h' v n ((List.range n).map fun j => Value.int .i64 (if j = i then x else g j)) → Fr (blk v) h h' → K undef h') → stK 1 p (.int .i64 x) h K := by
 obtain ⟨p, h1, h2, h3⟩ := Own.at1 H (k := k) hi
 refine ⟨p, h1, by rw [h2]; simp, fun x K HK => h3 _ _ rfl fun h' o f _ => HK h' ?_ f⟩
 rw [zku _ _ _ _ hi] at o
 have e : (fun j => if j = i then Value.int .i64 x else Value.int .i64 (g j)) = fun j => Value.int .i64 (if j = i then x else g j) := by
  funext j; split <;> rfl
 rw [e] at o
 exact o
theorem zpS (n : Nat) : List.replicate n zeroI = (List.range n).map fun i => Value.int .i64 ((fun _ => 0 : Nat → Int) i) := by
 apply List.ext_getElem <;> simp
theorem c_compare {h : Heap} {a b : Int} : FCall prog zc9 #[.int .i64 a, .int .i64 b] h fun r h' => (∃ c : Int, r = .int .i64 c ∧ (c < 0 ↔ a < b)) ∧ h' = h := by
 have nan : ∀ {x : Int} {h : Heap}, FCall prog zcM #[.int .i64 x] h fun r h' => r = .bool false ∧ h' = h := by
  intro x h
  apply zkR
  unfold zfQ
  try simp only [go_sem]
  exact ⟨by simp, by simp⟩
 apply ziR
 unfold zeG
 refine nan.mono fun v1 h1 ⟨e1, w1⟩ => ?_
 subst e1 w1
 refine nan.mono fun v1 h1 ⟨e1, w1⟩ => ?_
 subst e1 w1
 try simp only [go_sem]
 refine zab (fun h0 => ⟨⟨-1, rfl, by omega⟩, by first | rfl | trivial⟩) (fun h0 => ?_)
 refine zab (fun h0 => ⟨⟨1, rfl, by omega⟩, by first | rfl | trivial⟩) (fun h0 => ⟨⟨0, rfl, by omega⟩, by first | rfl | trivial⟩)
def RestP (b : Nat) (t : TypeId) (z : Value) (n : Nat) (r : Nat → Int) (h : Heap) : Prop := h[b]? = some (.cells #[z] t (0, 0)) ∧ Own 1 h z n ((List.range n).map fun i => Value.int .i64 (r i))
theorem cmp_rest {v z : Value} {b n : Nat} {t : TypeId} {r : Nat → Int} (h1 : ¬ blk v b) (h2 : ∀ b, blk v b → ¬ blk z b) : CmpOK v (.func (.func zc4) #[] #[.pointer (some ⟨b, 0, none⟩)]) (RestP b t z n r) r n where
 call := fun {h a c K} ⟨p1, p2⟩ ha hc H => by
  rw [clK_2]
  apply ziJ
  unfold zey
  obtain ⟨p, e1, e2, _⟩ := Own.at_map p2 (k := .i64) ha
  obtain ⟨q, e3, e4, _⟩ := Own.at_map p2 (k := .i64) hc
  have ez : ldV h (.pointer (some ⟨b, 0, none⟩)) = some z := by rw [zqE, zac p1]; rfl
  refine zak (fun h' => h' = h) rfl ?_
  refine zae z (fun h' e => by rw [e]; exact ez) ?_
  simp only [go_sem, e3]
  refine zae _ (fun h' e => by rw [e]; exact e4) ?_
  refine zae z (fun h' e => by rw [e]; exact ez) ?_
  simp only [go_sem, e1]
  refine zae _ (fun h' e => by rw [e]; exact e2) ?_
  refine c_compare.mono fun w h' ⟨⟨m, e, hm⟩, hh⟩ => ?_
  subst e hh
  exact H m hm
 fr := fun {h h'} ⟨p1, p2⟩ f => ⟨f.row p1 h1, p2.fr f fun k hk hb => h2 k hb hk⟩
theorem rank_at {l : List Int} {S : List Nat} (hp : S.Perm (List.range l.length)) (hs : S.Pairwise (lead (restT l))) {k i : Nat} (hk : k < S.length) (hi : i < l.length) : (if (rank (restT l) l.length i : Int) < ((k + 1 : Nat) : Int) then (1 : Int) else 0) = if i = S[k] then (if (rank (restT l) l.length i : Int) < (k : Int) then (1 : Int) else 0) + 1 else if (rank (restT l) l.length i : Int) < (k : Int) then 1 else 0 := by
 have hr := znn hp hs hk
 have hkl : S[k] < l.length := by have := hp.mem_iff.1 (List.getElem_mem hk); simpa using this
 by_cases he : i = S[k]
 ·rw [if_pos he, he, hr, if_pos (by omega), if_neg (by omega)]; rfl
 ·rw [if_neg he]
  have : rank (restT l) l.length i ≠ k := fun e => he (zmJ hi hkl (e.trans hr.symm))
  by_cases h : rank (restT l) l.length i < k
  ·rw [if_pos (by omega), if_pos (by omega)]
  ·rw [if_neg (by omega), if_neg (by omega)]
theorem zjF {Z : Nat → Prop} {h : Heap} {v : Value} {l : List Int} (H : SlI Z h v l) (h64 : ∀ x ∈ l, I64 x) (hl : l.length < 4611686018427387904) :
  FCall prog zci #[v] h fun r h' => ∃ u, r = .tuple #[u, .int .i64 (zaS l)] ∧ New (Rp.int .i64) h h' u (zaC l) := by
 apply zlp
 unfold zgm
 refine (c_tapsCheck H h64 hl).mono fun v1 h1 ⟨e1, w1⟩ => ?_
 subst e1 w1
 obtain ⟨a, cap, e⟩ := H.isSl
 have e2 : zaf v = some (.int .i64 (l.length : Int)) := by rw [e]; rfl
 simp only [zqZ, zaa]
 unfold zaC
 by_cases hc : ¬ zaS l = 0
 ·have q : (zaS l = 0) = False := eq_false hc
  rw [if_neg hc]
  simp only [go_sem, q]
  exact ⟨_, rfl, New.nil (Ext.refl _)⟩
 have hc : zaS l = 0 := Decidable.of_not_not hc
 have G := goodW h64 hc
 have q : (zaS l = 0) = True := eq_true hc
 rw [if_pos hc]
 simp only [go_sem, q]
 refine (c_tapsSum H h64 hl).mono fun v1 h1 ⟨e1, w1⟩ => ?_
 subst e1 w1
 have hn := G.len
 refine zat (Made3 l.length h1) ?_ ?_
 ·refine zak (Ext h1) (Ext.refl _) ?_
  refine zae _ (fun h' _ => e2) ?_
  refine zae _ (fun h' _ => e2) ?_
  refine zae _ (fun h' _ => e2) ?_
  have M0 := Mk3.start l.length h1
  repeat' first
   | exact Mk3.ext ‹Mk3 _ _ _ _ _›
   | exact Mk3.made ‹Mk3 _ _ _ _ _› 0 1 2 rfl rfl rfl (by decide) (by decide) (by decide)
   | exact Mk3.made ‹Mk3 _ _ _ _ _› 0 2 1 rfl rfl rfl (by decide) (by decide) (by decide)
   | exact Mk3.made ‹Mk3 _ _ _ _ _› 1 0 2 rfl rfl rfl (by decide) (by decide) (by decide)
   | exact Mk3.made ‹Mk3 _ _ _ _ _› 1 2 0 rfl rfl rfl (by decide) (by decide) (by decide)
   | exact Mk3.made ‹Mk3 _ _ _ _ _› 2 0 1 rfl rfl rfl (by decide) (by decide) (by decide)
   | exact Mk3.made ‹Mk3 _ _ _ _ _› 2 1 0 rfl rfl rfl (by decide) (by decide) (by decide)
   | refine And.intro ?_ ?_
   | refine Mk3.mkr ‹Mk3 _ _ _ _ _› hn fun v' h' M => ?_
   | refine Mk3.nw ‹Mk3 _ _ _ _ _› fun b' h' M => ?_
   | refine Mk3.st ‹Mk3 _ _ _ _ _› (by simp) fun h' M => ?_
 rintro xs ρj h2 ⟨x, y, z, b, t, rfl, E2, ⟨ox, fx⟩, ⟨oy, fy⟩, ⟨oz, fz⟩, dxy, dxz, dyz, hb, hb0, nx, ny, nz⟩
 simp only [ix_0, ix_1, ix_2, e2, zaa]
 have s1 := G.sum
 have s64 := sumZ_I64 l
 -- quotients and rests
 refine zaz l.length 0 (fun k (_ : Unit) => [.int .i64 (leftK l k), .int .i64 (k : Int)]) (fun k _ h' => Ext h1 h' ∧ Own 1 h' x l.length ((List.range l.length).map fun i => Value.int .i64 (if i < k then baseT l i else 0)) ∧
   Own 1 h' y l.length ((List.range l.length).map fun i => Value.int .i64 (if i < k then (i : Int) else 0)) ∧ Own 1 h' z l.length ((List.range l.length).map fun i => Value.int .i64 (if i < k then restT l i else 0)) ∧ h'[b]? = some (.cells #[z] t (0, 0))) () rfl (Nat.zero_le _)
  ⟨E2, by rw [zpS] at ox; simpa using ox, by rw [zpS] at oy; simpa using oy, by rw [zpS] at oz; simpa using oz, hb⟩ fun k _ h3 again ρj2 _ hk ⟨E3, o1, o2, o3, hb3⟩ Hag => ?_
 try simp only [go_sem]
 refine zab (fun h0 => ?_) (fun h0 => ?_)
 ·have hk' : k < l.length := by omega
  have H3 := H.ext E3
  obtain ⟨p, e3, e4⟩ := H3.int_at (k' := .i64) hk'
  simp only [go_sem, e3, e4]
  have eg : l.getD k 0 = l[k] := by simp [List.getD_eq_getElem?_getD, hk']
  have hx := G.small k
  rw [eg] at hx
  refine zak (fun h' => h'[b]? = some (.cells #[z] t (0, 0))) hb3 ?_
  refine zae z (fun h' e => by rw [zac e]; rfl) ?_
  rw [w64 (n := l[k] * 16384) (by omega) (by omega)]
  refine (zqY (by unfold I64; omega) s64).mono fun v1 h4 ⟨e5, w5⟩ => ?_
  subst e5 w5
  refine ⟨hb3, ?_⟩
  rw [zeY (by unfold I64; omega) (by omega)]
  refine (c_Mod (by unfold I64; omega) s64 (by omega)).mono fun v1 h4 ⟨e5, w5⟩ => ?_
  subst e5 w5
  refine ⟨hb3, ?_⟩
  have eb : l[k] * 16384 / sumZ l = baseT l k := by unfold baseT; rw [eg]
  have er : l[k] * 16384 % sumZ l = restT l k := by unfold restT; rw [eg]
  rw [eb, er]
  obtain ⟨px, x1, x2, x3⟩ := Own.at_map o1 (k := .i64) hk'
  simp only [go_sem, x1]
  refine x3 _ _ fun h5 o1a f5 => ?_
  have o3a := o3.fr f5 fun c hc hx => dxz c hx hc
  have o2a := o2.fr f5 fun c hc hx => dxy c hx hc
  have hb5 := f5.row hb3 nx
  refine ⟨hb5, ?_⟩
  obtain ⟨pz, z1, z2, z3⟩ := Own.at_map o3a (k := .i64) hk'
  simp only [go_sem, z1]
  refine z3 _ _ fun h6 o3b f6 => ?_
  have o2b := o2a.fr f6 fun c hc hz => dyz c hc hz
  have o1b := o1a.fr f6 fun c hc hz => dxz c hc hz
  have hb6 := f6.row hb5 nz
  obtain ⟨py, y1, y2, y3⟩ := Own.at_map o2b (k := .i64) hk'
  simp only [go_sem, y1]
  refine y3 _ _ fun h7 o2c f7 => ?_
  have o1c := o1b.fr f7 fun c hc hy => dxy c hc hy
  have o3c := o3b.fr f7 fun c hc hy => dyz c hy hc
  have hb7 := f7.row hb6 ny
  obtain ⟨px2, x1', x2', _⟩ := Own.at_map o1c (k := .i64) hk'
  rw [x1] at x1'
  cases x1'
  simp only [if_true] at x2'
  have hbt := ziz G k
  have hlk := zqD G k
  simp only [go_sem, x1, x2']
  rw [w64 (n := leftK l k - baseT l k) (by omega) (by omega), w64 (n := (k : Int) + 1) (by omega) (by omega)]
  have E7 : Ext h1 h7 := ((E3.then_fr f5 fx).then_fr f6 fz).then_fr f7 fy
  refine Hag () h7 hk' ⟨E7, ?_, ?_, ?_, hb7⟩
  ·have e : (List.range l.length).map (fun j => Value.int .i64 (if j = k then baseT l k else if j < k then baseT l j else 0)) = (List.range l.length).map fun i => Value.int .i64 (if i < k + 1 then baseT l i else 0) := zau fun i _ => by
    congr 1
    by_cases h1 : i = k
    ·subst h1; simp
    ·rw [if_neg h1]
     by_cases h2 : i < k
     ·rw [if_pos h2, if_pos (by omega)]
     ·rw [if_neg h2, if_neg (by omega)]
   rw [← e]; exact o1c
  ·have e : (List.range l.length).map (fun j => Value.int .i64 (if j = k then (k : Int) else if j < k then (j : Int) else 0)) = (List.range l.length).map fun i => Value.int .i64 (if i < k + 1 then (i : Int) else 0) := zau fun i _ => by
    congr 1
    by_cases h1 : i = k
    ·subst h1; simp
    ·rw [if_neg h1]
     by_cases h2 : i < k
     ·rw [if_pos h2, if_pos (by omega)]
     ·rw [if_neg h2, if_neg (by omega)]
   rw [← e]; exact o2c
  ·have e : (List.range l.length).map (fun j => Value.int .i64 (if j = k then restT l k else if j < k then restT l j else 0)) = (List.range l.length).map fun i => Value.int .i64 (if i < k + 1 then restT l i else 0) := zau fun i _ => by
    congr 1
    by_cases h1 : i = k
    ·subst h1; simp
    ·rw [if_neg h1]
     by_cases h2 : i < k
     ·rw [if_pos h2, if_pos (by omega)]
     ·rw [if_neg h2, if_neg (by omega)]
   rw [← e]; exact o3c
 ·have hkn : k = l.length := by omega
  subst hkn
  have o1 : Own 1 h3 x l.length ((List.range l.length).map fun i => Value.int .i64 (baseT l i)) := by
   rw [← zau (g := fun i => Value.int .i64 (if i < l.length then baseT l i else 0)) (fun i hi => by rw [if_pos hi])]; exact o1
  have o3 : Own 1 h3 z l.length ((List.range l.length).map fun i => Value.int .i64 (restT l i)) := by
   rw [← zau (g := fun i => Value.int .i64 (if i < l.length then restT l i else 0)) (fun i hi => by rw [if_pos hi])]; exact o3
  have o2 : Own 1 h3 y (List.range' 0 l.length).length ((List.range' 0 l.length).map iv) := by
   rw [List.length_range', ← List.range_eq_range', ← zau (g := fun i => Value.int .i64 (if i < l.length then (i : Int) else 0)) (fun i hi => by rw [if_pos hi])]; exact o2
  have IX : IxRow y (RestP b t z l.length (restT l)) l.length h3 (List.range' 0 l.length) := ⟨o2, ⟨hb3, o3⟩, by simpa using hl, fun i hi => by simpa using hi⟩
  refine (c_sortStable (cmp_rest ny dyz) IX hn).mono fun w h4 ⟨S, hp, hs, IX2, f4⟩ => ?_
  obtain ⟨L0, L1⟩ := left_bd G
  obtain ⟨m, hm⟩ : ∃ m : Nat, leftT l = (m : Int) := ⟨(leftT l).toNat, by omega⟩
  have hSl : S.length = l.length := by rw [hp.length_eq]; simp
  obtain ⟨v', q1, q2, q3⟩ := slc_front 1 IX2.own (k := .i64) (hi := m) (by omega)
  have o1 := o1.fr f4 fun c hc hy => dxy c hc hy
  have hlm : leftK l l.length = (m : Int) := hm
  rw [hlm, q1, zaa]
  obtain ⟨a', cap', e'⟩ := q2.isSl
  have e'2 : zaf v' = some (.int .i64 (m : Int)) := by rw [e']; rfl
  rw [e'2, zaa]
  refine zaz m 0 (fun k (_ : Unit) => [.int .i64 (k : Int)]) (fun k _ h' => Ext h1 h' ∧ Own 1 h' x l.length ((List.range l.length).map fun i => Value.int .i64 (baseT l i + (if (rank (restT l) l.length i : Int) < (k : Int) then 1 else 0))) ∧ Fr (blk x) h4 h') () rfl (Nat.zero_le _)
   ⟨E3.then_fr f4 fy, by
    rw [zau (f := fun i => Value.int .i64 (baseT l i)) (fun i hi => by rw [if_neg (by omega), Int.add_zero])]; exact o1, Fr.refl _ _⟩ fun k _ h5 again5 ρj5 _ hk ⟨E5, o5, f5⟩ Hag5 => ?_
  try simp only [go_sem]
  refine zab (fun h6 => ?_) (fun h6 => ?_)
  ·have hk' : k < m := by omega
   have q5 := q2.fr f5 fun c _ hc hx => dxy c hx (q3 c hc)
   obtain ⟨p, p1, p2⟩ := q5.at1 (k := .i64) hk'
   have hkS : k < S.length := by omega
   have p2 : ldV h5 p = some (iv S[k]) := by
    rw [p2]; simp
   have hSk : S[k] < l.length := by have := hp.mem_iff.1 (List.getElem_mem hkS); simpa using this
   obtain ⟨px, x1, x2, x3⟩ := Own.at_map o5 (k := .i64) hSk
   simp only [go_sem, p1, p2, x1, x2]
   have hbt := ziz G S[k]
   rw [w64 (n := baseT l S[k] + (if (rank (restT l) l.length S[k] : Int) < (k : Int) then 1 else 0) + 1) (by split <;> omega) (by split <;> omega)]
   refine x3 _ _ fun h7 o7 f7 => ?_
   rw [w64 (n := (k : Int) + 1) (by omega) (by omega)]
   refine Hag5 () h7 hk' ⟨E5.then_fr f7 fx, ?_, f5.trans f7⟩
   rw [zau (f := fun j => Value.int .i64 (if j = S[k] then baseT l S[k] + (if (rank (restT l) l.length S[k] : Int) < (k : Int) then 1 else 0) + 1 else baseT l j + if (rank (restT l) l.length j : Int) < (k : Int) then 1 else 0)) (fun i hi => by
    rw [rank_at hp hs hkS hi]
    congr 1
    by_cases he : i = S[k]
    ·rw [if_pos he, if_pos he, ← he]; omega
    ·rw [if_neg he, if_neg he])]
   exact o7
  ·have : k = m := by omega
   subst this
   refine ⟨x, by rw [hc], ⟨(ze1 l).map fun n => Value.int .i64 n, ?_, fun c _ => id, fun i hi => ?_⟩, E5, fx⟩
   ·rw [zeW]
    unfold ze1
    rw [List.map_map]
    simp only [← hm] at o5
    exact o5
   ·have e : Rp.el (Rp.int .i64).w ((ze1 l).map fun n => Value.int .i64 n) i = [Value.int .i64 (ze1 l)[i]] := by
     have := Rp.el_one (ds := (ze1 l).map fun n => Value.int .i64 n) (i := i) (by simpa using hi)
     rw [List.getElem_map] at this
     exact this
    exact e
theorem c_bitsMul {h : Heap} {x y : Nat} (hx : x < 18446744073709551616) (hy : y < 18446744073709551616) :
  FCall prog zfy #[.int .u64 (x : Int), .int .u64 (y : Int)] h fun r h' => r = .tuple #[.int .u64 ((x * y / 18446744073709551616 : Nat) : Int), .int .u64 ((x * y % 18446744073709551616 : Nat) : Int)] ∧ h' = h := by
 apply zmF
 unfold zhr
 rw [zcj]
 refine (c_Mul64 hx hy).mono fun v h1 ⟨e, w⟩ => ?_
 subst e w
 try simp only [go_sem]
 exact ⟨by simp, by simp⟩
theorem rep_ints (n : Nat) (x : Int) : List.replicate n (Value.int .i64 x) = (List.replicate n x).map fun n => Value.int .i64 n := by simp
theorem ow_ints {k : IntKind} {h : Heap} {v : Value} {l : List Int} (H : Own 1 h v l.length (l.map fun n => Value.int k n)) : Rp.Ow (Rp.int k) (fun _ => False) h v l :=
 ⟨l.map fun n => Value.int k n, H, fun c _ => id, fun i hi => by
  have := Rp.el_one (ds := l.map fun n => Value.int k n) (i := i) (by simpa using hi)
  rw [List.getElem_map] at this
  exact this⟩
theorem c_Repeat1 {Z : Nat → Prop} {h : Heap} {v : Value} {x : Int} {n : Nat} (H : SlI Z h v [x]) (hn : 1 ≤ n) (hn2 : n ≤ 4096) :
  FCall prog zbi #[v, .int .i64 (n : Int)] h fun r h' => New (Rp.int .i64) h h' r (List.replicate n x) := by
 apply zdI
 unfold zb1
 have hneg : ((n : Int) < 0) = False := eq_false (by omega)
 simp only [go_sem, hneg]
 refine zat (fun _ h' => h' = h) rfl fun xs ρj h' e => ?_
 subst e
 obtain ⟨ds, hs, hz, he⟩ := H
 have hdl := hs.1
 have hd : ds = [Value.int .i64 x] := by
  have h1 := he 0 (by simp)
  have hl1 : ds.length = 1 := by simpa [Rp.int] using hdl
  obtain ⟨d, rfl⟩ := List.length_eq_one_iff.1 hl1
  exact h1
 subst hd
 obtain ⟨a, cap, ev⟩ := hs.isSl
 have e2 : zaf v = some (.int .i64 ((1 : Nat) : Int)) := by rw [ev]; rfl
 simp only [go_sem, e2]
 rw [zbS (by omega), zbS (m := n) (by omega)]
 refine (c_bitsMul (x := 1) (y := n) (by omega) (by omega)).mono fun w h1 ⟨e, hh⟩ => ?_
 subst e hh
 try simp only [go_sem]
 rw [show 1 * n / 18446744073709551616 = 0 by omega, show 1 * n % 18446744073709551616 = n by omega]
 refine zat (fun _ h' => h' = h1) ?_ fun xs ρj2 h2 e => ?_
 ·refine zab (fun h0 => absurd h0 (by omega)) (fun _ => rfl)
 subst e
 try simp only [go_sem]
 rw [w64 (n := (n : Int)) (by omega) (by omega)]
 refine zly rfl (by omega) (by omega) fun u h3 o e f => ?_
 have hs3 : SlC 1 h3 v 1 [Value.int .i64 x] := hs.ext e
 refine zqN o hs3 (by simp [zam]) fun h4 o4 f4 z4 => ?_
 have E4 : Ext h2 h4 := e.then_fr f4 f
 have hmin : Nat.min 1 n = 1 := Nat.min_eq_left hn
 rw [hmin]
 obtain ⟨a2, cap2, eu⟩ := o4.isSl
 have e3 : zaf u = some (.int .i64 (n : Int)) := by rw [eu]; rfl
 have st : Own 1 h4 u n (List.replicate 1 (Value.int .i64 x) ++ List.replicate (n - 1) (.int .i64 0)) := by
  have e : [Value.int .i64 x].take n ++ (List.replicate n (Value.int .i64 0)).drop 1 = List.replicate 1 (Value.int .i64 x) ++ List.replicate (n - 1) (.int .i64 0) := by
   rw [List.take_of_length_le (by simpa using hn), List.drop_replicate]; rfl
  rw [← e]; exact o4
 refine zbh (fun d xs h' => ∃ m : Nat, d = n - m ∧ xs = [.int .i64 (m : Int)] ∧ 1 ≤ m ∧ m ≤ n ∧ Ext h2 h' ∧ Own 1 h' u n (List.replicate m (Value.int .i64 x) ++ List.replicate (n - m) (.int .i64 0))) (n - 1) ⟨1, rfl, rfl, Nat.le_refl _, hn, E4, st⟩ ?_
 rintro d xs ρj3 h5 again ⟨m, rfl, rfl, h1m, hmn, E5, o5⟩ Hag
 simp only [ix_0, e3, zaa, zd0]
 refine zab (fun h0 => ?_) (fun h0 => ?_)
 ·refine zak (fun h' => h' = h5) rfl ?_
  obtain ⟨w, w1, w2, w3⟩ := slc_front 1 o5 (k := .i64) (hi := m) hmn
  have w2 : SlC 1 h5 w m (List.replicate m (Value.int .i64 x)) := by
   have e : (List.replicate m (Value.int .i64 x) ++ List.replicate (n - m) (Value.int .i64 0)).take (m * 1) = List.replicate m (Value.int .i64 x) := by
    rw [Nat.mul_one, List.take_append_of_le_length (by simp), List.take_of_length_le (by simp)]
   rw [e] at w2; exact w2
  obtain ⟨d, d1, d2⟩ := cpy_tail o5 (show m < n by omega) w2 (fun y hy => by rw [(List.mem_replicate.1 hy).2]; rfl) (kk := .i64)
  rw [d1, zaa, w1, zaa]
  refine d2 _ fun h6 o6 f6 => ?_
  have hmin2 : Nat.min m (n - m) = min m (n - m) := rfl
  rw [hmin2, za9, zaa, w64 (by omega) (by omega), show (m : Int) + ((min m (n - m) : Nat) : Int) = ((m + min m (n - m) : Nat) : Int) by omega]
  refine Hag _ h6 (n - (m + min m (n - m))) (by omega) ⟨m + min m (n - m), rfl, rfl, by omega, by omega, E5.then_fr f6 f, ?_⟩
  have e : (List.replicate m (Value.int .i64 x) ++ List.replicate (n - m) (Value.int .i64 0)).take m ++ (List.replicate m (Value.int .i64 x)).take (n - m) ++ (List.replicate m (Value.int .i64 x) ++ List.replicate (n - m) (Value.int .i64 0)).drop (m + m)
    = List.replicate (m + min m (n - m)) (Value.int .i64 x) ++ List.replicate (n - (m + min m (n - m))) (.int .i64 0) := by
   rw [List.take_append_of_le_length (by simp), List.take_of_length_le (by simp), List.take_replicate, List.drop_append, List.drop_eq_nil_of_le (by simp), List.nil_append, List.drop_replicate, List.length_replicate, List.replicate_append_replicate, Nat.min_comm]
   congr 2; omega
  rw [← e]; exact o6
 ·have : m = n := by omega
  subst this
  refine ⟨ow_ints ?_, E5, f⟩
  rw [List.length_replicate, ← rep_ints]
  simpa using o5
def zh8 (r : Int) : Prop := r < 0 ∨ 511 < r
instance (r : Int) : Decidable (zh8 r) := by unfold zh8; infer_instance
def blurC (r : Int) : Int := if zh8 r then 7 else userC (List.replicate (2 * r + 1).toNat 1)
def blurW (r : Int) : List Int := if zh8 r then [] else userW (List.replicate (2 * r + 1).toNat 1)
theorem blurW_I64 (r : Int) : ∀ x ∈ blurW r, I64 x := by
 unfold blurW
 split
 ·simp
 ·exact zm3 _
theorem c_Blur {h : Heap} {r : Int} (hr : I64 r) : FCall prog zjH #[.int .i64 r] h fun w h' => ∃ u, w = .tuple #[u, .int .i64 (blurC r)] ∧ New (Rp.int .i64) h h' u (blurW r) := by
 apply ok_taps_Blur
 unfold zlY
 try simp only [go_sem]
 unfold blurC blurW
 refine zab (fun h0 => ?_) (fun h0 => ?_)
 ·have : zh8 r := h0
  rw [if_pos this, if_pos this]
  exact ⟨_, rfl, New.nil (Ext.refl _)⟩
 ·have hn : ¬ zh8 r := h0
  rw [if_neg hn, if_neg hn]
  refine zbZ (Rp.fill_one rfl) fun b h1 r1 e1 n1 => ?_
  rw [w64 (n := 2 * r) (by omega) (by omega)]
  try simp only [go_sem]
  rw [w64 (n := 2 * r + 1) (by omega) (by omega)]
  have hs : SlI (fun _ => True) h1 (.slice (some ⟨b, 0, none⟩) 1 1) [1] := ⟨[Value.int .i64 1], Rp.SlC.single (cs := [Value.int .i64 1]) r1, fun _ _ _ => trivial, fun i hi => by
   have : i = 0 := by simpa using hi
   subst this
   rfl⟩
  obtain ⟨N, hN⟩ : ∃ N : Nat, N = (2 * r + 1).toNat := ⟨_, rfl⟩
  rw [← hN, show 2 * r + 1 = (N : Int) by omega]
  refine (c_Repeat1 hs (n := N) (by omega) (by omega)).mono fun v h2 H2 => ?_
  refine (zlH H2.sl (fun x hx => by rw [(List.mem_replicate.1 hx).2]; unfold I64; omega) (by rw [List.length_replicate]; omega)).mono fun w h3 ⟨u, e, H3⟩ => ?_
  subst e
  try simp only [go_sem]
  exact ⟨u, rfl, H3.before (e1.trans H2.2.1)⟩
end Go.Proofs.YtojmncnelbnceaaGreatDoor
namespace Go.Crisp
open Go
theorem zb7 (c : Array Value) : fillL c [] = some c := rfl
theorem zk2 {a b x y : Value} (ha : zam a = true) (hb : zam b = true) : fillL #[x, y] [(0, 1, a), (1, 1, b)] = some #[a, b] := by
 simp only [fillL, zaT ha, zaT hb]
 rfl
theorem fill_41 {a x y z w : Value} (ha : zam a = true) : fillL #[x, y, z, w] [(0, 1, a)] = some #[a, y, z, w] := by
 simp only [fillL, zaT ha]
 rfl
def mostL (ls : List (Int × List Int)) : Int := ls.foldl (fun m x => max m (x.2.length : Int)) 0
def sizeL (ls : List (Int × List Int)) : Int := ls.foldl (fun m x => max m (ze3 x.2)) 0
theorem zpb (ls : List (Int × List Int)) (x : Int × List Int) : mostL (ls ++ [x]) = max (mostL ls) (x.2.length : Int) := by unfold mostL; rw [List.foldl_append]; rfl
theorem sizeL_snoc (ls : List (Int × List Int)) (x : Int × List Int) : sizeL (ls ++ [x]) = max (sizeL ls) (ze3 x.2) := by unfold sizeL; rw [List.foldl_append]; rfl
def rLine : Rp (Int × List Int) where
 w := 2
 R := fun Z h cs x => ∃ v, cs = [.int .i64 x.1, v] ∧ Rp.Sl (Rp.int .i64) Z h v x.2
 len := by rintro _ _ _ _ ⟨v, rfl, _⟩; rfl
 one := by
  rintro _ _ _ _ ⟨v, rfl, H⟩ u hu
  rcases List.mem_cons.1 hu with rfl | hu
  ·rfl
  ·rw [List.mem_singleton.1 hu]; exact H.one
 fr := by rintro _ _ _ _ _ _ ⟨v, rfl, H⟩ f q; exact ⟨v, rfl, H.fr f q⟩
 mono := by rintro _ _ _ _ _ ⟨v, rfl, H⟩ q; exact ⟨v, rfl, H.mono q⟩
def CapOk (v : Value) : Prop := ∃ a n c, v = .slice a n c ∧ n ≤ c
theorem Rp.Ow.cap {α : Type} {e : Rp α} {Z : Nat → Prop} {h : Heap} {v : Value} {l : List α} (H : Rp.Ow e Z h v l) : CapOk v := by
 obtain ⟨ds, o, _⟩ := H
 rcases o with ⟨rfl, _, _⟩ | ⟨b, cap, r, e, rfl, hc, _⟩
 ·exact ⟨_, _, _, rfl, Nat.le_refl _⟩
 ·exact ⟨_, _, _, rfl, hc⟩
structure Tbl where
 n : Int
 lines : List (Int × List Int)
def rTbl : Rp Tbl where
 w := 4
 R := fun Z h cs t => ∃ lv, cs = [.int .i64 t.n, lv, .int .i64 (mostL t.lines), .int .i64 (sizeL t.lines)] ∧ Rp.Sl rLine Z h lv t.lines ∧ CapOk lv
 len := by rintro _ _ _ _ ⟨v, rfl, _⟩; rfl
 one := by
  rintro _ _ _ _ ⟨v, rfl, H, _⟩
  exact zad rfl (zad H.one (zad rfl (zad rfl zaq)))
 fr := by rintro _ _ _ _ _ _ ⟨v, rfl, H, c⟩ f q; exact ⟨v, rfl, H.fr f q, c⟩
 mono := by rintro _ _ _ _ _ ⟨v, rfl, H, c⟩ q; exact ⟨v, rfl, H.mono q, c⟩
abbrev IsTbl (Z : Nat → Prop) (h : Heap) (p : Value) (t : Tbl) : Prop := Rp.Pt rTbl Z h p t
theorem IsTbl.open {Z : Nat → Prop} {h : Heap} {p : Value} {t : Tbl} (H : IsTbl Z h p t) : ∃ b lv, p = .pointer (some ⟨b, 0, none⟩) ∧ zah h ⟨b, 0, none⟩ = some (.int .i64 t.n) ∧ zah h ⟨b, 1, none⟩ = some lv ∧ zah h ⟨b, 2, none⟩ = some (.int .i64 (mostL t.lines)) ∧
  zah h ⟨b, 3, none⟩ = some (.int .i64 (sizeL t.lines)) ∧ Rp.Sl rLine Z h lv t.lines ∧ Z b ∧ b < h.size ∧ CapOk lv := by
 obtain ⟨b, ds, ty, rfl, r, hz, lv, rfl, hl, hc⟩ := H
 exact ⟨b, lv, rfl, zac r, zac r, zac r, zac r, hl, hz, zaB r, hc⟩
structure TblAt (h0 : Heap) (Z : Nat → Prop) (h : Heap) (b : Nat) (ty : TypeId) (lv : Value) (n : Int) (ls : List (Int × List Int)) : Prop where
 ext : Ext h0 h
 row : h[b]? = some (.cells #[.int .i64 n, lv, .int .i64 (mostL ls), .int .i64 (sizeL ls)] ty (0, 0))
 ow : Rp.Ow rLine Z h lv ls
 nb : h0.size ≤ b
 nl : ∀ c, blk lv c → h0.size ≤ c
 zb : ¬ Z b
 lb : ¬ blk lv b
 zf : ∀ c, Z c → h0.size ≤ c ∧ c < h.size
theorem TblAt.more {h0 h : Heap} {Z Z' : Nat → Prop} {b : Nat} {ty : TypeId} {lv : Value} {n : Int} {ls : List (Int × List Int)} {h' : Heap} (T : TblAt h0 Z h b ty lv n ls) (e : Ext h h') (q : ∀ c, Z c → Z' c) (q1 : ∀ c, Z' c → ¬ Z c → h.size ≤ c ∧ c < h'.size) : TblAt h0 Z' h' b ty lv n ls where
 ext := T.ext.trans e
 row := e.row T.row
 ow := (T.ow.ext e).mono (fun c _ hz => q c hz) fun c hc hz => by
  by_cases h1 : Z c
  ·obtain ⟨ds, _, h2, _⟩ := T.ow
   exact h2 c hc h1
  ·have := q1 c hz h1
   have := T.ow.lt hc
   omega
 nb := T.nb
 nl := T.nl
 zb := fun hz => by
  by_cases h1 : Z b
  ·exact T.zb h1
  ·have := q1 b hz h1
   have := zaB T.row
   omega
 lb := T.lb
 zf := fun c hz => by
  by_cases h1 : Z c
  ·have := T.zf c h1
   have := e.1
   omega
  ·have := q1 c hz h1
   have := T.ext.1
   omega
theorem TblAt.done {h0 h : Heap} {Z : Nat → Prop} {b : Nat} {ty : TypeId} {lv : Value} {n : Int} {ls : List (Int × List Int)} (T : TblAt h0 Z h b ty lv n ls) : IsTbl (fun c => h0.size ≤ c ∧ c < h.size) h (.pointer (some ⟨b, 0, none⟩)) ⟨n, ls⟩ :=
 ⟨b, [_, _, _, _], ty, rfl, T.row, ⟨T.nb, zaB T.row⟩, lv, rfl, T.ow.sl.mono fun c _ hc => by
  rcases hc with hc | hc
  ·exact T.zf c hc
  ·exact ⟨T.nl c hc, T.ow.lt hc⟩, T.ow.cap⟩
end Go.Crisp
namespace Go.Proofs.YtojmncnelbnceaaGreatDoor
open Go Go.Crisp
attribute [local irreducible] FCall rowK newK stK iteK vK qK drawK gK joinK loopK mkK appK cpyK zqt znp bsK clK
open _root_.Go.Proofs.Tryz
theorem zjD {h : Heap} {n : Int} : FCall prog zeh #[.int .i64 n] h fun r h' => r = .bool (decide (1 ≤ n ∧ n ≤ 65536)) ∧ h' = h := by
 apply zp0
 unfold zj1
 try simp only [go_sem]
 exact ⟨by simp, by simp⟩
theorem zpq {h0 h : Heap} {Z : Nat → Prop} {b : Nat} {ty : TypeId} {lv u : Value} {n first : Int} {ls : List (Int × List Int)} {l : List Int} (T : TblAt h0 Z h b ty lv n ls) (H : SlI Z h u l) (h64 : ∀ x ∈ l, I64 x) (hl : l.length < 1048577) (hls : ls.length ≤ 65536) :
  FCall prog zcG #[.pointer (some ⟨b, 0, none⟩), .int .i64 first, u] h fun _ h' => ∃ lv', TblAt h0 Z h' b ty lv' n (ls ++ [(first, l)]) ∧ Fr (fun c => c = b ∨ blk lv c) h h' := by
 apply zkH
 unfold zfG
 have c1 : zah h ⟨b, 1, none⟩ = some lv := zac T.row
 obtain ⟨au, cu, eu⟩ := H.isSl
 have eu2 : zaf u = some (.int .i64 (l.length : Int)) := by rw [eu]; rfl
 simp only [go_sem, c1, zk2 (a := .int .i64 first) (b := u) rfl H.one, Option.map_some]
 refine Rp.push_ow (e := rLine) (cs := [.int .i64 first, u]) (x := (first, l)) T.ow ⟨u, rfl, H⟩ rfl rfl (by omega) (by omega) (fun c hc => (T.zf c hc).2) fun lv' h1 o1 f1 n1 => ?_
 have r1 := f1.row T.row T.lb
 have lb1 : ¬ blk lv' b := fun hb => by
  rcases n1 b hb with h2 | h2
  ·exact T.lb h2
  ·have := zaB T.row; omega
 obtain ⟨al, cl, el⟩ := o1.isSl
 try simp only [go_sem]
 refine zbl r1 (by simp) (by rw [el]; rfl) fun h2 r2 u2 => ?_
 have c2 : zah h2 ⟨b, 2, none⟩ = some (.int .i64 (mostL ls)) := zac r2
 simp only [go_sem, c2, eu2]
 refine zbl r2 (by simp) rfl fun h3 r3 u3 => ?_
 have c3 : zah h3 ⟨b, 3, none⟩ = some (.int .i64 (sizeL ls)) := zac r3
 refine zak (fun h' => h' = h3) rfl ?_
 try simp only [go_sem]
 refine zae _ (fun h' e => by rw [e]; exact c3) ?_
 have F3 : Fr (fun c => c = b ∨ blk lv c) h h3 := ((f1.mono fun c _ hc => .inr hc).trans (u2.fr.mono fun c _ hc => .inl hc)).trans (u3.fr.mono fun c _ hc => .inl hc)
 have H3 : SlI Z h3 u l := H.fr F3 fun c hc hz hm => by
  rcases hm with rfl | hm
  ·exact T.zb hz
  ·obtain ⟨ds, _, h2, _⟩ := T.ow
   exact h2 c hm hz
 refine (zn6 H3 h64 (by omega)).mono fun w h4 ⟨e4, w4⟩ => ?_
 subst e4 w4
 refine ⟨rfl, ?_⟩
 refine zae _ (fun h' _ => maxV_int _ _ _) ?_
 refine zbl r3 (by simp) rfl fun h5 r5 u5 => ?_
 have F5 := F3.trans (u5.fr.mono (M' := fun c => c = b ∨ blk lv c) fun c _ hc => .inl hc)
 refine ⟨lv', ⟨?_, ?_, ?_, T.nb, ?_, T.zb, lb1, ?_⟩, F5⟩
 ·exact T.ext.then_fr F5 fun c hc => by
   rcases hc with rfl | hc
   ·exact T.nb
   ·exact T.nl c hc
 ·rw [zpb, sizeL_snoc]
  simpa using r5
 ·have g : Fr (fun c => c = b) h1 h5 := (u2.fr.trans u3.fr).trans u5.fr
  exact o1.fr g (fun c _ hz he => T.zb (he ▸ hz)) fun c hc he => lb1 (he ▸ hc)
 ·intro c hc
  rcases n1 c hc with h2 | h2
  ·exact T.nl c h2
  ·exact Nat.le_trans T.ext.1 h2
 ·intro c hz
  have := T.zf c hz
  have := F5.1
  omega
end Go.Proofs.YtojmncnelbnceaaGreatDoor
namespace Go.Proofs.YtojmncnelbnceaaGreatDoor
open Go Go.Crisp
attribute [local irreducible] FCall rowK newK stK iteK vK qK drawK gK joinK loopK mkK appK cpyK zqt znp bsK
open _root_.Go.Proofs.Tryz
abbrev Two (h : Heap) (b : Nat) (t : TypeId) (x y : Value) : Prop := h[b]? = some (.cells #[x, y] t (0, 0))
theorem Two.a {h : Heap} {b : Nat} {t : TypeId} {x y : Value} (r : Two h b t x y) : zah h ⟨b, 0, none⟩ = some x := zac r
theorem Two.b {h : Heap} {b : Nat} {t : TypeId} {x y : Value} (r : Two h b t x y) : zah h ⟨b, 1, none⟩ = some y := zac r
theorem Two.all {h : Heap} {b : Nat} {t : TypeId} {x y : Value} (r : Two h b t x y) : ldsV 2 h (.pointer (some ⟨b, 0, none⟩)) = some (.agg #[x, y]) := zal (l := [x, y]) r 2 rfl
abbrev Big (h : Heap) (b : Nat) (t : TypeId) (n : Nat) : Prop := Two h b t (.int .u64 ((n / 18446744073709551616 : Nat) : Int)) (.int .u64 ((n % 18446744073709551616 : Nat) : Int))
theorem Big.all {h : Heap} {b : Nat} {t : TypeId} {n : Nat} (r : Big h b t n) : ldsV 2 h (.pointer (some ⟨b, 0, none⟩)) = some (bigV n) := Two.all r
theorem zb2 (n : Nat) : Value.cells (bigV n) = #[.int .u64 ((n / 18446744073709551616 : Nat) : Int), .int .u64 ((n % 18446744073709551616 : Nat) : Int)] := rfl
theorem zln {n : Nat} (h : n < 18446744073709551616) : bigV n = .agg #[.int .u64 0, .int .u64 (n : Int)] := by
 unfold bigV
 rw [Nat.div_eq_of_lt h, Nat.mod_eq_of_lt h]; rfl
theorem zjS : bigV 0 = .agg #[.int .u64 0, .int .u64 0] := rfl
theorem ziu : bigV 1 = .agg #[.int .u64 0, .int .u64 1] := rfl
theorem zcT {t : TypeId} {b : Nat} {h : Heap} {x y : Value} {n : Nat} {K : Value → Heap → Prop} (r : Two h b t x y) (hK : ∀ h', Big h' b t n → Upd b h h' → K undef h') : stK 2 (.pointer (some ⟨b, 0, none⟩)) (bigV n) h K :=
 zbt (l := [.int .u64 ((n / 18446744073709551616 : Nat) : Int), .int .u64 ((n % 18446744073709551616 : Nat) : Int)]) r rfl (zad rfl (zad rfl zaq)) rfl hK
theorem zdp {t : TypeId} {h : Heap} {n : Nat} {K : Value → Heap → Prop} (H : ∀ b h', Big h' b t n → Ext h h' → h.size ≤ b → K (.pointer (some ⟨b, 0, none⟩)) h') : newK #[.int .u64 0, .int .u64 0] t h fun v h2 => stK 2 v (bigV n) h2 fun _ h3 => K v h3 :=
 zaR (cs := [.int .u64 ((n / 18446744073709551616 : Nat) : Int), .int .u64 ((n % 18446744073709551616 : Nat) : Int)]) rfl (zad rfl (zad rfl zaq)) rfl H
theorem zdr {a b x y : Int} : fillL #[(.int .u64 x), (.int .u64 y)] [(0, 1, (.int .u64 a)), (1, 1, (.int .u64 b))] = some #[.int .u64 a, .int .u64 b] := zk2 rfl rfl
theorem fill_2l {b x y : Int} : fillL #[(.int .u64 x), (.int .u64 y)] [(1, 1, (.int .u64 b))] = some #[.int .u64 x, .int .u64 b] := by
 simp only [fillL, zaT (v := .int .u64 b) rfl]
 rfl
theorem zaA (c : Array Value) : (some c).map Value.agg = some (.agg c) := rfl
theorem zob {n : Nat} {x y : Int} (hx : x = ((n / 18446744073709551616 : Nat) : Int)) (hy : y = ((n % 18446744073709551616 : Nat) : Int)) : (Value.agg #[.int .u64 x, .int .u64 y]) = bigV n := by rw [hx, hy]; rfl
theorem zef {h : Heap} {n bit : Nat} (hb : bit ≤ 1) (hn : 2 * n + bit < 340282366920938463463374607431768211456) :
  FCall prog zbf #[bigV n, .int .u64 (bit : Int)] h fun r h' => r = bigV (2 * n + bit) ∧ Ext h h' := by
 apply zos
 unfold zi2
 rw [zb2]
 refine zag fun b1 h1 r1 e1 n1 => ?_
 refine zag fun b2 h2 r2 e2 n2 => ?_
 have r1 := e2.row r1
 simp only [go_sem, Two.a r1, Two.b r1]
 rw [show (1 : Int) = ((1 : Nat) : Int) from rfl, show (63 : Int) = ((63 : Nat) : Int) from rfl, zhC _ (by omega), zaa, zek _ (by omega), zaa, za9, zaa, zhC _ (by omega), zaa, za9, zaa, zdr, zaA, zaa]
 rw [zob (n := 2 * n + bit) (by rw [zbs]; omega) (by rw [zbs]; omega)]
 refine zcT r2 fun h3 r3 u3 => ?_
 rw [r3.all, zaa]
 exact ⟨rfl, (e1.trans e2).upd (Nat.le_trans e1.1 n2) u3⟩
theorem zk8 {h : Heap} {m n : Nat} (hn : m + n < 340282366920938463463374607431768211456) :
  FCall prog zb8 #[bigV m, bigV n] h fun r h' => r = bigV (m + n) ∧ Ext h h' := by
 apply zqe
 unfold zkf
 rw [zb2, zb2]
 refine zag fun b1 h1 r1 e1 n1 => ?_
 refine zag fun b2 h2 r2 e2 n2 => ?_
 refine zag fun b3 h3 r3 e3 n3 => ?_
 have r1 := (e2.trans e3).row r1
 have r2 := e3.row r2
 have l3 := zaB r3
 simp only [go_sem, Two.a r1, Two.b r1, Two.a r2, Two.b r2]
 rw [zdr, zaA, zaa]
 refine zag fun b4 h4 r4 e4 n4 => ?_
 refine zbt (l := [_, _]) r4 rfl (zad rfl (zad rfl zaq)) rfl fun h5 r5 u5 => ?_
 have e5 := e4.upd n4 u5
 have r1 := e5.row r1
 have r3 := e5.row r3
 simp only [zbs] at r5
 simp only [go_sem, Two.a r5, Two.b r5, Two.b r1, zbs]
 have e0 := e1.trans (e2.trans (e3.trans e5))
 have k3 : h.size ≤ b3 := Nat.le_trans (e1.trans e2).1 n3
 have k4 : h.size ≤ b4 := Nat.le_trans (e1.trans (e2.trans e3)).1 n4
 have k34 : b3 ≠ b4 := by omega
 refine zab (fun hc => ?_) (fun hc => ?_)
 ·refine zbl r5 (by simp) rfl fun h6 r6 u6 => ?_
  have r3 := u6.row k34 r3
  have r6 : Two h6 b4 _ (.int .u64 _) (.int .u64 _) := r6
  rw [Two.all r6, zaa]
  rw [zob (n := m + n) (by omega) (by omega)]
  refine zcT r3 fun h7 r7 u7 => ?_
  rw [r7.all, zaa]
  exact ⟨rfl, (e0.upd k4 u6).upd k3 u7⟩
 ·rw [Two.all r5, zaa]
  rw [zob (n := m + n) (by omega) (by omega)]
  refine zcT r3 fun h7 r7 u7 => ?_
  rw [r7.all, zaa]
  exact ⟨rfl, e0.upd k3 u7⟩
theorem c_r1Minus {h : Heap} {m n : Nat} (hm : m < 340282366920938463463374607431768211456) (hn : n ≤ m) :
  FCall prog zeQ #[bigV m, bigV n] h fun r h' => r = bigV (m - n) ∧ Ext h h' := by
 apply zov
 unfold zi5
 rw [zb2, zb2]
 refine zag fun b1 h1 r1 e1 n1 => ?_
 refine zag fun b2 h2 r2 e2 n2 => ?_
 refine zag fun b3 h3 r3 e3 n3 => ?_
 have r1 := (e2.trans e3).row r1
 have r2 := e3.row r2
 have l3 := zaB r3
 simp only [go_sem, Two.a r1, Two.b r1, Two.a r2, Two.b r2]
 rw [zdr, zaA, zaa]
 refine zag fun b4 h4 r4 e4 n4 => ?_
 refine zbt (l := [_, _]) r4 rfl (zad rfl (zad rfl zaq)) rfl fun h5 r5 u5 => ?_
 have e5 := e4.upd n4 u5
 have r1 := e5.row r1
 have r2 := e5.row r2
 have r3 := e5.row r3
 simp only [zbs] at r5
 simp only [go_sem, Two.a r5, Two.b r5, Two.b r1, Two.b r2, zbs]
 have e0 := e1.trans (e2.trans (e3.trans e5))
 have k3 : h.size ≤ b3 := Nat.le_trans (e1.trans e2).1 n3
 have k4 : h.size ≤ b4 := Nat.le_trans (e1.trans (e2.trans e3)).1 n4
 have k34 : b3 ≠ b4 := by omega
 refine zab (fun hc => ?_) (fun hc => ?_)
 ·refine zbl r5 (by simp) rfl fun h6 r6 u6 => ?_
  have r3 := u6.row k34 r3
  have r6 : Two h6 b4 _ (.int .u64 _) (.int .u64 _) := r6
  rw [Two.all r6, zaa]
  rw [zob (n := m - n) (by omega) (by omega)]
  refine zcT r3 fun h7 r7 u7 => ?_
  rw [r7.all, zaa]
  exact ⟨rfl, (e0.upd k4 u6).upd k3 u7⟩
 ·rw [Two.all r5, zaa]
  rw [zob (n := m - n) (by omega) (by omega)]
  refine zcT r3 fun h7 r7 u7 => ?_
  rw [r7.all, zaa]
  exact ⟨rfl, e0.upd k3 u7⟩
theorem zk9 {h : Heap} {m n : Nat} : FCall prog zcz #[bigV m, bigV n] h fun r h' => r = .bool (decide (m < n)) ∧ Ext h h' := by
 apply zqg
 unfold zkh
 rw [zb2, zb2]
 refine zag fun b1 h1 r1 e1 n1 => ?_
 refine zag fun b2 h2 r2 e2 n2 => ?_
 have r1 := e2.row r1
 simp only [go_sem, Two.a r1, Two.b r1, Two.a r2, Two.b r2]
 refine zab (fun hc => ?_) (fun hc => ?_)
 ·exact ⟨by congr 1; exact decide_eq_decide.2 (by omega), e1.trans e2⟩
 ·exact ⟨by congr 1; exact decide_eq_decide.2 (by omega), e1.trans e2⟩
theorem zod {a : Nat} (ha : a < 18446744073709551616) : binV .i .and (.int .u64 (a : Int)) (.int .u64 1) = some (.int .u64 ((a % 2 : Nat) : Int)) := by
 have := and_u64 ha (b := 1) (by omega)
 rw [Nat.and_one_is_mod] at this
 exact this
theorem zlJ {h : Heap} {m i : Nat} (hm : m < 340282366920938463463374607431768211456) (hi : i < 128) : FCall prog zcf #[bigV m, .int .i64 (i : Int)] h fun r h' => r = .int .u64 ((m / 2 ^ i % 2 : Nat) : Int) ∧ Ext h h' := by
 apply ok_ref01_Bit
 unfold zl7
 rw [zb2]
 refine zag fun b1 h1 r1 e1 n1 => ?_
 simp only [go_sem, Two.a r1, Two.b r1]
 refine zab (fun hc => ?_) (fun hc => ?_)
 ·rw [w64 (n := (i : Int) - 64) (by omega) (by omega), show (i : Int) - 64 = ((i - 64 : Nat) : Int) by omega, zek _ (by omega), zaa]
  rw [zod (Nat.lt_of_le_of_lt (Nat.div_le_self _ _) (by omega)), zaa]
  refine ⟨?_, e1⟩
  have e : m / 2 ^ i = m / 18446744073709551616 / 2 ^ (i - 64) := by
   rw [Nat.div_div_eq_div_mul, show (18446744073709551616 : Nat) = 2 ^ 64 from rfl, ← Nat.pow_add, show 64 + (i - 64) = i by omega]
  rw [e]
 ·rw [zek _ (by omega), zaa]
  rw [zod (Nat.lt_of_le_of_lt (Nat.div_le_self _ _) (Nat.mod_lt _ (by omega))), zaa]
  refine ⟨?_, e1⟩
  have hp : (0 : Nat) < 2 ^ i := Nat.pow_pos (by omega)
  have hp64 : (18446744073709551616 : Nat) = 2 ^ i * (2 * 2 ^ (63 - i)) := by rw [← Nat.pow_succ', ← Nat.pow_add, show i + (63 - i + 1) = 64 by omega]
  have e1 : m / 2 ^ i = m / 18446744073709551616 * (2 * 2 ^ (63 - i)) + m % 18446744073709551616 / 2 ^ i := by
   have e := Nat.div_add_mod m 18446744073709551616
   have e2 : m = m % 18446744073709551616 + 2 ^ i * (m / 18446744073709551616 * (2 * 2 ^ (63 - i))) := by
    have : 2 ^ i * (m / 18446744073709551616 * (2 * 2 ^ (63 - i))) = 18446744073709551616 * (m / 18446744073709551616) := by
     conv => rhs; rw [hp64]
     rw [Nat.mul_left_comm, Nat.mul_comm, ← hp64]
    rw [this]; omega
   conv => lhs; rw [e2]
   rw [Nat.add_mul_div_left _ _ hp, Nat.add_comm]
  rw [e1, Nat.mul_left_comm, Nat.mul_add_mod]
theorem zfZ {h : Heap} {x : Int} (hx : I64 x) : FCall prog zbu #[.int .i64 x] h fun r h' => r = .int .u64 (x.natAbs : Int) ∧ h' = h := by
 apply zqd
 unfold zke
 simp only [go_sem, zbs, zcQ]
 unfold I64 at hx
 refine zab (fun h0 => ?_) (fun h0 => ?_)
 ·exact ⟨by congr 1; omega, trivial⟩
 ·exact ⟨by congr 1; omega, trivial⟩
theorem zeM {h : Heap} {m : Nat} {b : Bool} (hm : m < 340282366920938463463374607431768211456) : FCall prog za0 #[bigV m, .bool b] h fun r h' => r = .int .i64 (holdZ m b) ∧ Ext h h' := by
 apply zqh
 unfold zki
 rw [zb2]
 refine zag fun b1 h1 r1 e1 n1 => ?_
 unfold holdZ
 cases b
 ·simp only [go_sem, Two.a r1, Two.b r1, Bool.false_eq_true, if_false]
  refine zab (fun h0 => ?_) (fun h0 => ?_)
  ·rw [if_pos (by omega)]; exact ⟨rfl, e1⟩
  ·rw [if_neg (by omega), w64 (by omega) (by omega)]; exact ⟨by congr 1; omega, e1⟩
 ·simp only [go_sem, Two.a r1, Two.b r1, if_true]
  refine zab (fun h0 => ?_) (fun h0 => ?_)
  ·rw [if_pos (by omega)]; exact ⟨rfl, e1⟩
  ·rw [w64 (n := ((m % 18446744073709551616 : Nat) : Int)) (by omega) (by omega), w64 (by omega) (by omega)]
   refine ⟨?_, e1⟩
   congr 1
   split <;> omega
theorem zmN {a b : Nat} (ha : a < 18446744073709551616) (hb : b < 18446744073709551616) : a * b < 340282366920938463463374607431768211456 := by
 have := Nat.mul_lt_mul'' ha hb
 exact this
theorem c_r1Times {h : Heap} {a b : Nat} (ha : a < 18446744073709551616) (hb : b < 18446744073709551616) :
  FCall prog zeP #[.int .u64 (a : Int), .int .u64 (b : Int)] h fun r h' => r = bigV (a * b) ∧ Ext h h' := by
 apply zot
 unfold zi3
 refine zag fun b1 h1 r1 e1 n1 => ?_
 have l1 := zaB r1
 rw [fillL, zaA, zaa, ← zjS]
 refine zdp (n := 0) fun b2 h2 r2 e2 n2 => ?_
 refine zaz (α := Unit) 64 0 (fun i _ => [.int .i64 (63 - (i : Int))]) (fun i _ h' => Big h' b2 178 (a * (b / 2 ^ (64 - i))) ∧ Ext h1 h') () rfl (by omega) ⟨by rw [Nat.div_eq_of_lt hb]; exact r2, e2⟩ fun i _ h3 again ρj _ hi ⟨r3, e3⟩ H => ?_
 simp only [go_sem]
 have hbb : b / 2 ^ (64 - i) ≤ b := Nat.div_le_self _ _
 have hm := zmN ha (Nat.lt_of_le_of_lt hbb hb)
 refine zab (fun h0 => ?_) (fun h0 => ?_)
 ·have hi : i < 64 := by omega
  have hv := halve b (63 - i)
  rw [show 63 - i + 1 = 64 - i by omega] at hv
  have hmm : a * (b / 2 ^ (63 - i)) = 2 * (a * (b / 2 ^ (64 - i))) + a * (b / 2 ^ (63 - i) % 2) := by
   conv => lhs; rw [hv]
   rw [Nat.mul_add, Nat.mul_left_comm]
  have hlt := zmN ha (Nat.lt_of_le_of_lt (Nat.div_le_self b (2 ^ (63 - i))) hb)
  have H := fun h' => H () h' hi
  rw [show 64 - (i + 1) = 63 - i by omega, hmm] at H
  rw [hmm] at hlt
  generalize a * (b / 2 ^ (64 - i)) = p at *
  rw [r3.all, zaa]
  refine (zef (n := p) (bit := 0) (by omega) (by omega)).mono fun v h4 ⟨e, e4⟩ => ?_
  subst e
  have r3 := e4.row r3
  refine zcT r3 fun h5 r5 u5 => ?_
  have e5 : Ext h1 h5 := (e3.trans e4).upd n2 u5
  rw [show (63 : Int) - (i : Int) = ((63 - i : Nat) : Int) by omega, zek _ (by omega), zaa]
  rw [zod (Nat.lt_of_le_of_lt (Nat.div_le_self _ _) hb), zaa, zmX, zaa]
  refine zab (fun h6 => ?_) (fun h6 => ?_)
  ·have h6 : b / 2 ^ (63 - i) % 2 = 1 := by omega
   rw [h6, Nat.mul_one] at hlt H
   rw [r5.all, zaa, zdr, zaA, zaa, ← zln ha]
   refine (zk8 (m := 2 * p + 0) (n := a) (by omega)).mono fun v h6 ⟨e, e6⟩ => ?_
   subst e
   refine zcT (e6.row r5) fun h7 r7 u7 => ?_
   rw [w64 (by omega) (by omega)]
   have := H h7 ⟨r7, (e5.trans e6).upd n2 u7⟩
   rw [show (63 : Int) - ((i + 1 : Nat) : Int) = ((63 - i : Nat) : Int) - 1 by omega] at this
   exact this
  ·have h6 : b / 2 ^ (63 - i) % 2 = 0 := by omega
   rw [h6, Nat.mul_zero] at H
   rw [w64 (by omega) (by omega)]
   have := H h5 ⟨r5, e5⟩
   rw [show (63 : Int) - ((i + 1 : Nat) : Int) = ((63 - i : Nat) : Int) - 1 by omega] at this
   exact this
 ·have : i = 64 := by omega
  subst this
  rw [show b / 2 ^ (64 - 64) = b by simp] at r3
  rw [r3.all, zaa]
  refine zcT (e3.row r1) fun h4 r4 u4 => ?_
  rw [r4.all, zaa]
  exact ⟨rfl, (e1.trans e3).upd n1 u4⟩
theorem c_r1Over {h : Heap} {m d : Nat} (hm : m < 340282366920938463463374607431768211456) (hd : d < 18446744073709551616) (hd0 : 0 < d) :
  FCall prog zf7 #[bigV m, .int .u64 (d : Int)] h fun r h' => r = .tuple #[bigV (m / d), .int .u64 ((m % d : Nat) : Int)] ∧ Ext h h' := by
 apply zqf
 unfold zkg
 rw [zb2]
 refine zag fun b1 h1 r1 e1 n1 => ?_
 refine zag fun b2 h2 r2 e2 n2 => ?_
 have r1 := e2.row r1
 have l1 := zaB r1
 have l2 := zaB r2
 rw [fillL, zaA, zaa, ← zjS]
 refine zdp (n := 0) fun b3 h3 r3 e3 n3 => ?_
 have l3 := zaB r3
 rw [zaa]
 refine zdp (n := 0) fun b4 h4 r4 e4 n4 => ?_
 rw [zmX, zaa, show decide ((d : Int) = 0) = false from decide_eq_false (by omega), zcj]
 have e04 : Ext h h4 := e1.trans (e2.trans (e3.trans e4))
 have k2 : h.size ≤ b2 := Nat.le_trans e1.1 n2
 have k3 : h.size ≤ b3 := Nat.le_trans (e1.trans e2).1 n3
 have k4 : h.size ≤ b4 := Nat.le_trans (e1.trans (e2.trans e3)).1 n4
 refine zaz (α := Unit) 128 0 (fun i _ => [.int .i64 (127 - (i : Int))]) (fun i _ h' => Big h' b1 178 m ∧ Two h' b2 178 (.int .u64 0) (.int .u64 0) ∧ Big h' b3 178 (m / 2 ^ (128 - i) / d) ∧ Big h' b4 178 (m / 2 ^ (128 - i) % d) ∧ Ext h h')
  () rfl (by omega) ?_ fun i _ h5 again ρj _ hi ⟨r1, r2, r3, r4, e5⟩ H => ?_
 ·have q : m / 2 ^ (128 - 0) = 0 := Nat.div_eq_of_lt (Nat.lt_of_lt_of_le hm (by decide))
  rw [q, Nat.zero_div, Nat.zero_mod]
  exact ⟨(e3.trans e4).row r1, (e3.trans e4).row r2, e4.row r3, r4, e04⟩
 simp only [go_sem]
 have hr : m / 2 ^ (128 - i) % d < d := Nat.mod_lt _ hd0
 refine zab (fun h0 => ?_) (fun h0 => ?_)
 ·have hi : i < 128 := by omega
  have H := fun h' => H () h' hi
  have hv := halve m (127 - i)
  rw [show 127 - i + 1 = 128 - i by omega] at hv
  rw [show 128 - (i + 1) = 127 - i by omega] at H
  have hb : m / 2 ^ (127 - i) % 2 ≤ 1 := by omega
  have hs := over_step (n := m / 2 ^ (128 - i)) hd0 rfl rfl hb
  rw [← hv] at hs
  rw [hs.1, hs.2] at H
  have hq : 2 * (m / 2 ^ (128 - i) / d) + (if d ≤ 2 * (m / 2 ^ (128 - i) % d) + m / 2 ^ (127 - i) % 2 then 1 else 0) < 340282366920938463463374607431768211456 := by
   rw [← hs.1]
   exact Nat.lt_of_le_of_lt (Nat.le_trans (Nat.div_le_self _ _) (Nat.div_le_self _ _)) hm
  rw [show (127 : Int) - ((i + 1 : Nat) : Int) = ((127 - i : Nat) : Int) - 1 by omega] at H
  rw [show (127 : Int) - (i : Int) = ((127 - i : Nat) : Int) by omega]
  have hbit : ∀ h', FCall prog zcf #[bigV m, .int .i64 ((127 - i : Nat) : Int)] h' fun r h'' => r = .int .u64 ((m / 2 ^ (127 - i) % 2 : Nat) : Int) ∧ Ext h' h'' := fun h' => zlJ hm (by omega)
  generalize m / 2 ^ (127 - i) % 2 = bit at *
  generalize m / 2 ^ (128 - i) / d = q at *
  generalize m / 2 ^ (128 - i) % d = r at *
  refine zak (Ext h5) (Ext.refl _) ?_
  refine zae _ (fun h' e => Big.all (e.row r4)) ?_
  refine zae _ (fun h' e => Big.all (e.row r1)) ?_
  refine (hbit h5).mono fun v h6 ⟨e, e6⟩ => ?_
  subst e
  refine ⟨e6, ?_⟩
  refine (zef (n := r) (bit := bit) hb (by omega)).mono fun v h7 ⟨e, e7⟩ => ?_
  subst e
  have e67 := e6.trans e7
  refine zcT (e67.row r4) fun h8 r4 u8 => ?_
  have r1 := u8.row (by omega) (e67.row r1)
  have r2 := u8.row (by omega) (e67.row r2)
  have r3 := u8.row (by omega) (e67.row r3)
  have e8 := (e5.trans e67).upd k4 u8
  rw [Big.all r3, zaa]
  refine (zef (n := q) (bit := 0) (by omega) (by omega)).mono fun v h9 ⟨e, e9⟩ => ?_
  subst e
  refine zcT (e9.row r3) fun h10 r3 u10 => ?_
  have r1 := u10.row (by omega) (e9.row r1)
  have r2 := u10.row (by omega) (e9.row r2)
  have r4 := u10.row (by omega) (e9.row r4)
  have e10 := (e8.trans e9).upd k3 u10
  rw [Big.all r4, zaa, zdr, zaA, zaa, ← zln hd]
  refine zk9.mono fun v h11 ⟨e, e11⟩ => ?_
  subst e
  have r1 := e11.row r1
  have r2 := e11.row r2
  have r3 := e11.row r3
  have r4 := e11.row r4
  have e12 := e10.trans e11
  rw [unV_not, zaa, dec_not]
  refine zab (fun hc => ?_) (fun hc => ?_)
  ·rw [if_pos (by omega), if_pos (by omega)] at H
   rw [if_pos (by omega)] at hq
   rw [Big.all r4, zaa, zaa]
   refine (c_r1Minus (m := 2 * r + bit) (n := d) (by omega) (by omega)).mono fun v h13 ⟨e, e13⟩ => ?_
   subst e
   refine zcT (e13.row r4) fun h14 r4 u14 => ?_
   have r1 := u14.row (by omega) (e13.row r1)
   have r2 := u14.row (by omega) (e13.row r2)
   have r3 := u14.row (by omega) (e13.row r3)
   have e14 := (e12.trans e13).upd k4 u14
   simp only [go_sem, Two.b r3]
   refine zbl r3 (by simp) rfl fun h15 r3 u15 => ?_
   have r3 : Two h15 b3 _ (.int .u64 _) (.int .u64 _) := r3
   have r1 := u15.row (by omega) r1
   have r2 := u15.row (by omega) r2
   have r4 := u15.row (by omega) r4
   rw [w64 (by omega) (by omega)]
   refine H h15 ⟨r1, r2, ?_, r4, e14.upd k3 u15⟩
   have a1 : (((2 * q + 0) / 18446744073709551616 : Nat) : Int) = (((2 * q + 1) / 18446744073709551616 : Nat) : Int) := by omega
   have a2 : IntKind.u64.wrap ((((2 * q + 0) % 18446744073709551616 : Nat) : Int) + 1) = (((2 * q + 1) % 18446744073709551616 : Nat) : Int) := by rw [zbs]; omega
   rw [a1, a2] at r3
   exact r3
  ·rw [if_neg (by omega), if_neg (by omega)] at H
   rw [w64 (by omega) (by omega)]
   exact H h11 ⟨r1, r2, r3, r4, e12⟩
 ·have : i = 128 := by omega
  subst this
  rw [show m / 2 ^ (128 - 128) = m by simp] at r3 r4 hr
  refine zak (fun h' => Two h' b4 178 (.int .u64 ((m % d / 18446744073709551616 : Nat) : Int)) (.int .u64 ((m % d % 18446744073709551616 : Nat) : Int)) ∧ (Big h' b3 178 (m / d))) ⟨r4, r3⟩ ?_
  refine zae _ (fun h' e => Big.all e.2) ?_
  simp only [go_sem]
  refine zae _ (fun h' e => Two.b e.1) ?_
  refine zcT r2 fun h6 r6 u6 => ?_
  refine ⟨⟨u6.row (by omega) r4, u6.row (by omega) r3⟩, ?_⟩
  rw [r6.all, zaa]
  refine ⟨?_, e5.upd k2 u6⟩
  rw [Nat.mod_eq_of_lt (Nat.lt_trans hr hd)]
end Go.Proofs.YtojmncnelbnceaaGreatDoor
namespace Go.Crisp
def upS (m n : Nat) (below : Bool) : Bool := if below then decide (2 ^ (n - 1) < m % 2 ^ n) else decide (2 ^ (n - 1) ≤ m % 2 ^ n)
theorem shift_ref {x : Int} {n : Nat} (hx : I64 x) (h1 : 1 ≤ n) (h2 : n ≤ 64) :
  holdZ (x.natAbs / 2 ^ n + (if upS x.natAbs n (decide (x < 0)) then 1 else 0)) (decide (x < 0)) = ze4 x n := by
 obtain ⟨b1, b2⟩ := hx
 have hp0 : (0 : Nat) < 2 ^ (n - 1) := Nat.pow_pos (by omega)
 have hp : 2 ^ n = 2 * 2 ^ (n - 1) := by
  obtain ⟨j, rfl⟩ : ∃ j, n = j + 1 := ⟨n - 1, by omega⟩
  rw [Nat.add_sub_cancel, Nat.pow_succ, Nat.mul_comm]
 have hpi : (2 : Int) ^ n = 2 * ((2 ^ (n - 1) : Nat) : Int) := by
  rw [show (2 : Int) ^ n = ((2 ^ n : Nat) : Int) by simp, hp]; simp
 have hpi1 : (2 : Int) ^ (n - 1) = ((2 ^ (n - 1) : Nat) : Int) := by simp
 have hbig : 64 ≤ n → 9223372036854775808 ≤ 2 ^ (n - 1) := fun h => by rw [show n = 64 by omega]; decide
 have hq : x.natAbs / 2 ^ n ≤ 4611686018427387904 := by
  rw [hp]
  refine Nat.le_trans (Nat.div_le_div_left (c := 2) (by omega) (by omega)) ?_
  omega
 have hs : ze4 x n = if (64 : Int) ≤ n then 0 else x / 2 ^ n + x / 2 ^ (n - 1) % 2 := by
  unfold ze4
  rw [if_neg (by omega), Int.toNat_natCast]
 rw [hs, hpi, hpi1]
 unfold upS
 have hm := Nat.div_add_mod x.natAbs (2 ^ n)
 have hr := Nat.mod_lt x.natAbs (show 0 < 2 ^ n by omega)
 rw [hp] at hm hr hq ⊢
 generalize hq' : x.natAbs / (2 * 2 ^ (n - 1)) = q at *
 generalize hr' : x.natAbs % (2 * 2 ^ (n - 1)) = r at *
 generalize 2 ^ (n - 1) = p at *
 have hpq : (2 * p) * q = 2 * (p * q) := Nat.mul_assoc _ _ _
 rw [hpq] at hm
 have ci : ((p * q : Nat) : Int) = (p : Int) * q := Int.natCast_mul _ _
 by_cases hneg : x < 0
 ·rw [decide_eq_true hneg]
  simp only [if_true, decide_eq_true_eq]
  unfold holdZ
  try simp only [if_true]
  by_cases h64 : (64 : Int) ≤ n
  ·rw [if_pos h64]
   have := hbig (by omega)
   have hq0 : q = 0 := by
    rcases Nat.eq_zero_or_pos q with h | h
    ·exact h
    ·have := Nat.le_mul_of_pos_right p h; omega
   subst hq0
   rw [if_neg (show ¬ p < r by omega), if_neg (by omega)]; rfl
  ·rw [if_neg h64, if_neg (by split <;> omega)]
   by_cases hr0 : r = 0
   ·have e : x = 0 + 2 * (p : Int) * (-(q : Int)) := by rw [Int.mul_assoc, Int.mul_neg]; omega
    have e2 : x = 0 + (p : Int) * (-(2 * (q : Int))) := by rw [Int.mul_neg, Int.mul_left_comm]; omega
    have d1 : x / (2 * (p : Int)) = -(q : Int) := by
     conv => lhs; rw [e]
     rw [Int.add_mul_ediv_left _ _ (by omega)]; simp
    have d2 : x / (p : Int) = -(2 * (q : Int)) := by
     conv => lhs; rw [e2]
     rw [Int.add_mul_ediv_left _ _ (by omega)]; simp
    rw [d1, d2]
    rw [if_neg (by omega)]; omega
   ·have e : x = (2 * p - r : Int) + 2 * (p : Int) * (-(q : Int) - 1) := by rw [Int.mul_assoc, Int.mul_sub, Int.mul_neg]; omega
    have d1 : x / (2 * (p : Int)) = -(q : Int) - 1 := by
     conv => lhs; rw [e]
     rw [Int.add_mul_ediv_left _ _ (by omega), Int.ediv_eq_zero_of_lt (by omega) (by omega)]; simp
    by_cases hrp : p < r
    ·have e2 : x = (2 * p - r : Int) + (p : Int) * (2 * (-(q : Int) - 1)) := by rw [Int.mul_left_comm, Int.mul_sub, Int.mul_neg]; omega
     have d2 : x / (p : Int) = 2 * (-(q : Int) - 1) := by
      conv => lhs; rw [e2]
      rw [Int.add_mul_ediv_left _ _ (by omega), Int.ediv_eq_zero_of_lt (by omega) (by omega)]; simp
     rw [d1, d2, if_pos hrp]; omega
    ·have e2 : x = (p - r : Int) + (p : Int) * (2 * (-(q : Int) - 1) + 1) := by rw [Int.mul_add, Int.mul_left_comm, Int.mul_sub, Int.mul_neg]; omega
     have d2 : x / (p : Int) = 2 * (-(q : Int) - 1) + 1 := by
      conv => lhs; rw [e2]
      rw [Int.add_mul_ediv_left _ _ (by omega), Int.ediv_eq_zero_of_lt (by omega) (by omega)]; simp
     rw [d1, d2, if_neg hrp]; omega
 ·rw [decide_eq_false hneg]
  simp only [Bool.false_eq_true, if_false, decide_eq_true_eq]
  unfold holdZ
  try simp only [Bool.false_eq_true, if_false]
  rw [if_neg (by split <;> omega)]
  by_cases h64 : (64 : Int) ≤ n
  ·rw [if_pos h64]
   have := hbig (by omega)
   have hq0 : q = 0 := by
    rcases Nat.eq_zero_or_pos q with h | h
    ·exact h
    ·have := Nat.le_mul_of_pos_right p h; omega
   subst hq0
   rw [if_neg (by omega)]; rfl
  ·rw [if_neg h64]
   have e : x = (r : Int) + 2 * (p : Int) * (q : Int) := by rw [Int.mul_assoc]; omega
   have d1 : x / (2 * (p : Int)) = (q : Int) := by
    conv => lhs; rw [e]
    rw [Int.add_mul_ediv_left _ _ (by omega), Int.ediv_eq_zero_of_lt (by omega) (by omega)]; simp
   by_cases hrp : p ≤ r
   ·have e2 : x = (r - p : Int) + (p : Int) * (2 * (q : Int) + 1) := by rw [Int.mul_add, Int.mul_left_comm]; omega
    have d2 : x / (p : Int) = 2 * (q : Int) + 1 := by
     conv => lhs; rw [e2]
     rw [Int.add_mul_ediv_left _ _ (by omega), Int.ediv_eq_zero_of_lt (by omega) (by omega)]; simp
    rw [d1, d2, if_pos hrp]; omega
   ·have e2 : x = (r : Int) + (p : Int) * (2 * (q : Int)) := by rw [Int.mul_left_comm]; omega
    have d2 : x / (p : Int) = 2 * (q : Int) := by
     conv => lhs; rw [e2]
     rw [Int.add_mul_ediv_left _ _ (by omega), Int.ediv_eq_zero_of_lt (by omega) (by omega)]; simp
    rw [d1, d2, if_neg hrp]; omega
theorem rest_step (m n i : Nat) : m % 2 ^ n + m / 2 ^ i * 2 ^ i = m % 2 ^ n + m / 2 ^ (i + 1) * 2 ^ (i + 1) + m / 2 ^ i % 2 * 2 ^ i := by
 have := halve m i
 conv => lhs; rw [this]
 rw [Nat.add_mul, Nat.pow_succ, Nat.mul_assoc 2, Nat.mul_left_comm 2, Nat.mul_comm 2]
 omega
theorem mod_step (m i : Nat) : m % 2 ^ (i + 1) = m % 2 ^ i + m / 2 ^ i % 2 * 2 ^ i := by
 rw [Nat.pow_succ, Nat.mod_mul, Nat.mul_comm]
end Go.Crisp
namespace Go.Proofs.YtojmncnelbnceaaGreatDoor
open Go Go.Crisp
attribute [local irreducible] FCall rowK newK stK iteK vK qK drawK gK joinK loopK mkK appK cpyK zqt znp bsK
open _root_.Go.Proofs.Tryz
theorem c_r1Nearest {h : Heap} {m d : Nat} {bl : Bool} (hm : m < 340282366920938463463374607431768211456) (hd : d < 18446744073709551616) (hd0 : 0 < d) :
  FCall prog zfw #[bigV m, .int .u64 (d : Int), .bool bl] h fun r h' => r = .int .i64 (holdZ (nearN m d bl) bl) ∧ Ext h h' := by
 apply zmD
 unfold zhp
 rw [zb2]
 refine zag fun b1 h1 r1 e1 n1 => ?_
 rw [Big.all r1, zaa]
 refine (c_r1Over hm hd hd0).mono fun v h2 ⟨e, e2⟩ => ?_
 subst e
 simp only [go_sem]
 refine zdp (n := m / d) fun b2 h3 r3 e3 n3 => ?_
 have hr : m % d < d := Nat.mod_lt _ hd0
 rw [zdr, zaA, zaa, ← zln (n := m % d) (by omega)]
 refine (zef (n := m % d) (bit := 0) (by omega) (by omega)).mono fun v h4 ⟨e, e4⟩ => ?_
 subst e
 refine zdp (n := 2 * (m % d) + 0) fun b3 h5 r5 e5 n5 => ?_
 rw [Big.all r5, zaa, zdr, zaA, zaa, ← zln hd]
 refine zk9.mono fun v h6 ⟨e, e6⟩ => ?_
 subst e
 have e06 : Ext h h6 := e1.trans (e2.trans (e3.trans (e4.trans (e5.trans e6))))
 have r2 := (e4.trans (e5.trans e6)).row r3
 have r3 := e6.row r5
 have k2 : h.size ≤ b2 := Nat.le_trans (e1.trans e2).1 n3
 simp only [go_sem]
 have hq : m / d ≤ m := Nat.div_le_self _ _
 have hq1 : d ≤ 2 * (m % d) → m / d + 1 < 340282366920938463463374607431768211456 := fun hh => by
  have := Nat.div_le_div_left (a := m) (c := 2) (b := d) (by omega) (by omega)
  omega
 refine zat (fun xs h' => xs = [.bool (if bl then decide (d < 2 * (m % d)) else decide (d ≤ 2 * (m % d)))] ∧ Ext h h' ∧ Big h' b2 178 (m / d)) ?_ ?_
 ·cases bl
  ·rw [zcj]
   refine ⟨?_, e06, r2⟩
   congr 2
   simp only [Bool.false_eq_true, if_false]
   exact decide_eq_decide.2 (by omega)
  ·rw [zfl]
   rw [Big.all r3]
   simp only [go_sem]
   refine zk9.mono fun v h7 ⟨e, e7⟩ => ?_
   subst e
   exact ⟨by simp only [if_true, Nat.add_zero], e06.trans e7, e7.row r2⟩
 ·rintro xs ρj h7 ⟨rfl, e7, r7⟩
  simp only [go_sem]
  refine zeX (fun hc => ?_) (fun hc => ?_)
  ·have hn : nearN m d bl = m / d + 1 := by
    unfold nearN
    cases bl
    ·simp only [Bool.false_eq_true, if_false, decide_eq_true_eq] at hc ⊢
     rw [if_pos hc]
    ·simp only [if_true, decide_eq_true_eq] at hc ⊢
     rw [if_pos hc]
   have hq1 := hq1 (by
    cases bl
    ·simp only [Bool.false_eq_true, if_false, decide_eq_true_eq] at hc; exact hc
    ·simp only [if_true, decide_eq_true_eq] at hc; omega)
   rw [Big.all r7, zaa, zdr, zaA, zaa, ← ziu]
   refine (zk8 (m := m / d) (n := 1) hq1).mono fun v h8 ⟨e, e8⟩ => ?_
   subst e
   refine zcT (e8.row r7) fun h9 r9 u9 => ?_
   rw [r9.all, zaa]
   refine (zeM (m := m / d + 1) (b := bl) hq1).mono fun v h10 ⟨e, e10⟩ => ?_
   exact ⟨by rw [e, hn], ((e7.trans e8).upd k2 u9).trans e10⟩
  ·have hn : nearN m d bl = m / d := by
    unfold nearN
    cases bl
    ·simp only [Bool.false_eq_true, if_false, decide_eq_false_iff_not] at hc ⊢
     rw [if_neg hc]; rfl
    ·simp only [if_true, decide_eq_false_iff_not] at hc ⊢
     rw [if_neg hc]; rfl
   rw [Big.all r7, zaa]
   refine (zeM (m := m / d) (b := bl) (by omega)).mono fun v h10 ⟨e, e10⟩ => ?_
   exact ⟨by rw [e, hn], e7.trans e10⟩
theorem bne_lt (a b : Int) : (!(decide (a < 0) == decide (b < 0))) = diffS a b := rfl
theorem c_r1Floor {h : Heap} {a b : Int} (ha : I64 a) (hb : I64 b) : FCall prog zeR #[.int .i64 a, .int .i64 b] h fun r h' => r = .int .i64 (zpl a b) ∧ Ext h h' := by
 apply zow
 unfold zi6
 simp only [go_sem]
 unfold zpl
 refine zab (fun h0 => ?_) (fun h0 => ?_)
 ·rw [if_pos h0]; exact ⟨rfl, Ext.refl _⟩
 rw [if_neg h0]
 have ha1 := zfi ha
 have hb1 := zfi hb
 refine (zfZ ha).mono fun v1 h1 ⟨e1, w1⟩ => ?_
 subst e1 w1
 rw [zdr, zaA, zaa, ← zln (n := a.natAbs) (by omega)]
 refine (zfZ hb).mono fun v1 h1 ⟨e1, w1⟩ => ?_
 subst e1 w1
 refine (c_r1Over (m := a.natAbs) (d := b.natAbs) (by omega) (by omega) (by omega)).mono fun v h2 ⟨e, e2⟩ => ?_
 subst e
 simp only [go_sem]
 refine zdp (n := a.natAbs / b.natAbs) fun b2 h3 r3 e3 n3 => ?_
 have hq : a.natAbs / b.natAbs ≤ a.natAbs := Nat.div_le_self _ _
 simp only [go_sem, bne_lt]
 have e03 := e2.trans e3
 have k2 := Nat.le_trans e2.1 n3
 by_cases hd : diffS a b = true ∧ 0 < a.natAbs % b.natAbs
 ·have q : (diffS a b && decide ((0 : Int) < ((a.natAbs % b.natAbs : Nat) : Int))) = true := by rw [hd.1, decide_eq_true (by omega)]; rfl
  rw [q, zfl]
  unfold zn1
  rw [if_pos ⟨hd.1, by omega⟩]
  rw [Big.all r3, zaa, zdr, zaA, zaa, ← ziu]
  refine (zk8 (m := a.natAbs / b.natAbs) (n := 1) (by omega)).mono fun v h8 ⟨e, e8⟩ => ?_
  subst e
  refine zcT (e8.row r3) fun h9 r9 u9 => ?_
  rw [r9.all, zaa]
  refine (zeM (m := a.natAbs / b.natAbs + 1) (b := diffS a b) (by omega)).mono fun v h10 ⟨e, e10⟩ => ?_
  exact ⟨e, ((e03.trans e8).upd k2 u9).trans e10⟩
 ·have q : (diffS a b && decide ((0 : Int) < ((a.natAbs % b.natAbs : Nat) : Int))) = false := by
   rw [← Bool.not_eq_true, Bool.and_eq_true, decide_eq_true_eq]; rintro ⟨x, y⟩; exact hd ⟨x, by omega⟩
  rw [q, zcj]
  unfold zn1
  rw [if_neg (by rintro ⟨x, y⟩; exact hd ⟨x, by omega⟩)]
  rw [Big.all r3, zaa]
  refine (zeM (m := a.natAbs / b.natAbs) (b := diffS a b) (by omega)).mono fun v h10 ⟨e, e10⟩ => ?_
  exact ⟨e, e03.trans e10⟩
theorem zck {h : Heap} {a b d : Int} (ha : I64 a) (hb : I64 b) (hd : I64 d) : FCall prog zaK #[.int .i64 a, .int .i64 b, .int .i64 d] h fun r h' => r = .int .i64 (zaL a b d) ∧ Ext h h' := by
 apply znD
 unfold zhM
 simp only [go_sem]
 unfold zaL
 refine zab (fun h0 => ?_) (fun h0 => ?_)
 ·rw [if_pos h0]; exact ⟨rfl, Ext.refl _⟩
 rw [if_neg h0]
 have ha1 := zcv ha
 have hb1 := zcv hb
 have hd1 := zcv hd
 refine (zfZ ha).mono fun v1 h1 ⟨e1, w1⟩ => ?_
 subst e1 w1
 refine (zfZ hb).mono fun v1 h1 ⟨e1, w1⟩ => ?_
 subst e1 w1
 refine (c_r1Times ha1 hb1).mono fun v h2 ⟨e, e2⟩ => ?_
 subst e
 refine zdp (n := a.natAbs * b.natAbs) fun b2 h3 r3 e3 n3 => ?_
 simp only [go_sem, bne_lt]
 refine zak (Ext h3) (Ext.refl _) ?_
 refine zae _ (fun h' e => Big.all (e.row r3)) ?_
 refine (zfZ hd).mono fun v1 h4 ⟨e4, w4⟩ => ?_
 subst e4 w4
 refine ⟨Ext.refl _, ?_⟩
 refine (c_r1Nearest (bl := !(diffS a b == decide (d < 0))) (zmN ha1 hb1) hd1 (by omega)).mono fun v h10 ⟨e, e10⟩ => ?_
 refine ⟨?_, e2.trans (e3.trans e10)⟩
 rw [e]; rfl
theorem zoR {i : Nat} (h : i < 128) : 2 ^ i < 340282366920938463463374607431768211456 := by
 have := Nat.pow_lt_pow_right (a := 2) (by omega) h
 exact this
theorem zk7 {h : Heap} {x n : Int} (hx : I64 x) (hn : I64 n) : FCall prog zcH #[.int .i64 x, .int .i64 n] h fun r h' => r = .int .i64 (ze4 x n) ∧ Ext h h' := by
 apply zou
 unfold zi4
 simp only [go_sem]
 refine zab (fun h0 => ?_) (fun h0 => ?_)
 ·unfold ze4; rw [if_pos (by omega)]; exact ⟨rfl, Ext.refl _⟩
 refine zab (fun h1 => ?_) (fun h1 => ?_)
 ·unfold ze4; rw [if_neg (by omega), if_pos (by omega)]; exact ⟨rfl, Ext.refl _⟩
 obtain ⟨k, rfl⟩ : ∃ k : Nat, n = (k : Int) := ⟨n.toNat, by omega⟩
 rw [w64 (n := (k : Int) - 1) (by omega) (by omega)]
 rw [zdr, zaA, zaa, ← ziu]
 refine zdp (n := 1) fun b1 h1 r1 e1 n1 => ?_
 -- half
 refine zaz (α := Unit) (k - 1) 0 (fun i _ => [.int .i64 (i : Int)]) (fun i _ h' => Big h' b1 178 (2 ^ i) ∧ Ext h h') () rfl (by omega) ⟨r1, e1⟩ fun i _ h2 again ρj _ hi ⟨r2, e2⟩ H => ?_
 simp only [go_sem]
 refine zab (fun hc => ?_) (fun hc => ?_)
 ·rw [Big.all r2, zaa]
  have hp := zoR (i := i + 1) (by omega)
  have hp2 : 2 ^ (i + 1) = 2 * 2 ^ i := Nat.pow_succ'
  refine (zef (n := 2 ^ i) (bit := 0) (by omega) (by omega)).mono fun v h3 ⟨e, e3⟩ => ?_
  subst e
  refine zcT (e3.row r2) fun h4 r4 u4 => ?_
  rw [w64 (by omega) (by omega)]
  rw [Nat.add_zero, ← hp2] at r4
  exact H () h4 (by omega) ⟨r4, (e2.trans e3).upd n1 u4⟩
 have : i = k - 1 := by omega
 subst this
 have e12 := e2
 refine (zfZ hx).mono fun v1 h3 ⟨e3, w3⟩ => ?_
 subst e3 w3
 have hm1 := zcv hx
 rw [zdr, zaA, zaa, ← zln hm1]
 refine zdp (n := x.natAbs) fun b2 h4 r4 e4 n4 => ?_
 try simp only [go_sem]
 rw [zb7, zaA, zaa, ← zjS]
 refine zdp (n := 0) fun b3 h5 r5 e5 n5 => ?_
 have l1 := zaB r2
 have l2 := zaB r4
 have k2 : h.size ≤ b2 := Nat.le_trans e12.1 n4
 have k3 : h.size ≤ b3 := Nat.le_trans (e12.trans e4).1 n5
 have hmW : x.natAbs < 340282366920938463463374607431768211456 := by omega
 have hshift := shift_ref hx (n := k) (by omega) (by omega)
 have hmb : x.natAbs ≤ 9223372036854775808 := zfi hx
 generalize hmm : x.natAbs = m at *
 -- the quotient
 refine zaz (α := Unit) (128 - k) 0 (fun i _ => [.int .i64 (127 - (i : Int))])
  (fun i _ h' => Big h' b1 178 (2 ^ (k - 1)) ∧ Big h' b2 178 m ∧ Big h' b3 178 (m / 2 ^ (128 - i)) ∧ Ext h h')
  () rfl (by omega) ⟨(e4.trans e5).row r2, e5.row r4, by rw [show m / 2 ^ (128 - 0) = 0 from Nat.div_eq_of_lt (by simpa using hmW)]; exact r5, e12.trans (e4.trans e5)⟩ fun i _ h6 again ρj _ hi ⟨q1, q2, q3, e6⟩ H => ?_
 simp only [go_sem]
 refine zab (fun hc => ?_) (fun hc => ?_)
 ·have H := fun h' => H () h' (by omega)
  have hv := halve m (127 - i)
  rw [show 127 - i + 1 = 128 - i by omega] at hv
  rw [show 128 - (i + 1) = 127 - i by omega, show (127 : Int) - ((i + 1 : Nat) : Int) = ((127 - i : Nat) : Int) - 1 by omega] at H
  have hle : m / 2 ^ (127 - i) ≤ m := Nat.div_le_self _ _
  have hb : m / 2 ^ (127 - i) % 2 ≤ 1 := by omega
  rw [show (127 : Int) - (i : Int) = ((127 - i : Nat) : Int) by omega]
  refine zak (Ext h6) (Ext.refl _) ?_
  refine zae _ (fun h' e => Big.all (e.row q3)) ?_
  refine zae _ (fun h' e => Big.all (e.row q2)) ?_
  refine (zlJ hmW (i := 127 - i) (by omega)).mono fun v h7 ⟨e, e7⟩ => ?_
  subst e
  refine ⟨e7, ?_⟩
  refine (zef (n := m / 2 ^ (128 - i)) (bit := m / 2 ^ (127 - i) % 2) hb (by omega)).mono fun v h8 ⟨e, e8⟩ => ?_
  subst e
  have e78 := e7.trans e8
  refine zcT (e78.row q3) fun h9 r9 u9 => ?_
  rw [w64 (by omega) (by omega)]
  rw [← hv] at r9
  exact H h9 ⟨u9.row (by omega) (e78.row q1), u9.row (by omega) (e78.row q2), r9, (e6.trans e78).upd k3 u9⟩
 have hik : i = 128 - k := by omega
 subst hik
 rw [show 128 - (128 - k) = k by omega] at q3
 rw [Big.all q2, zaa]
 refine zdp (n := m) fun b4 h7 r7 e7 n7 => ?_
 have l3 := zaB q3
 have l1 := zaB q1
 have l2 := zaB q2
 have k4 : h.size ≤ b4 := Nat.le_trans e6.1 n7
 -- the rest
 refine zaz (α := Unit) 128 k (fun i _ => [.int .i64 (i : Int)])
  (fun i _ h' => Big h' b1 178 (2 ^ (k - 1)) ∧ Big h' b2 178 m ∧ Big h' b3 178 (m / 2 ^ k) ∧ Big h' b4 178 (m % 2 ^ k + m / 2 ^ i * 2 ^ i) ∧ Ext h h')
  () rfl (by omega) ⟨e7.row q1, e7.row q2, e7.row q3, by rw [show m % 2 ^ k + m / 2 ^ k * 2 ^ k = m by rw [Nat.mul_comm]; exact Nat.mod_add_div _ _]; exact r7, e6.trans e7⟩ fun i _ h8 again ρj hik hi ⟨q1, q2, q3, q4, e8⟩ H => ?_
 simp only [go_sem]
 refine zab (fun hc => ?_) (fun hc => ?_)
 ·have H := fun h' => H () h' (by omega)
  rw [Big.all q2, zaa]
  have hrs := rest_step m k i
  have hle : m % 2 ^ k + m / 2 ^ i * 2 ^ i ≤ 2 * m := by
   have a1 := Nat.mod_le m (2 ^ k)
   have a2 := Nat.div_mul_le_self m (2 ^ i)
   omega
  refine (zlJ hmW (i := i) (by omega)).mono fun v h9 ⟨e, e9⟩ => ?_
  subst e
  simp only [go_sem]
  have q1 := e9.row q1
  have q2 := e9.row q2
  have q3 := e9.row q3
  have q4 := e9.row q4
  have e9 := e8.trans e9
  have l4 := zaB q4
  refine zab (fun hd => ?_) (fun hd => ?_)
  ·have hd : m / 2 ^ i % 2 = 1 := by omega
   rw [hd, Nat.one_mul] at hrs
   try rw [zdr, zaA, zaa, ← ziu]
   refine zdp (n := 1) fun b5 h10 r10 e10 n10 => ?_
   have k5 : h.size ≤ b5 := Nat.le_trans e9.1 n10
   refine zaz (α := Unit) i 0 (fun j _ => [.int .i64 (j : Int)]) (fun j _ h' => Big h' b1 178 (2 ^ (k - 1)) ∧ Big h' b2 178 m ∧ Big h' b3 178 (m / 2 ^ k) ∧ Big h' b4 178 (m % 2 ^ k + m / 2 ^ i * 2 ^ i) ∧ Big h' b5 178 (2 ^ j) ∧ Ext h h')
    () rfl (by omega) ⟨e10.row q1, e10.row q2, e10.row q3, e10.row q4, r10, e9.trans e10⟩ fun j _ h11 again2 ρj2 _ hj ⟨q1, q2, q3, q4, q5, e11⟩ H2 => ?_
   simp only [go_sem]
   refine zab (fun hc2 => ?_) (fun hc2 => ?_)
   ·rw [Big.all q5, zaa]
    have hp := zoR (i := j + 1) (by omega)
    have hp2 : 2 ^ (j + 1) = 2 * 2 ^ j := Nat.pow_succ'
    refine (zef (n := 2 ^ j) (bit := 0) (by omega) (by omega)).mono fun v h12 ⟨e, e12⟩ => ?_
    subst e
    refine zcT (e12.row q5) fun h13 r13 u13 => ?_
    rw [w64 (by omega) (by omega)]
    rw [Nat.add_zero, ← hp2] at r13
    exact H2 () h13 (by omega) ⟨u13.row (by omega) (e12.row q1), u13.row (by omega) (e12.row q2), u13.row (by omega) (e12.row q3), u13.row (by omega) (e12.row q4), r13, (e11.trans e12).upd k5 u13⟩
   ·have : j = i := by omega
    subst this
    rw [Big.all q4, zaa, Big.all q5, zaa]
    refine (c_r1Minus (m := m % 2 ^ k + m / 2 ^ j * 2 ^ j) (n := 2 ^ j) (by omega) (by omega)).mono fun v h12 ⟨e, e12⟩ => ?_
    subst e
    refine zcT (e12.row q4) fun h13 r13 u13 => ?_
    rw [w64 (by omega) (by omega)]
    rw [hrs, Nat.add_sub_cancel] at r13
    exact H h13 ⟨u13.row (by omega) (e12.row q1), u13.row (by omega) (e12.row q2), u13.row (by omega) (e12.row q3), r13, (e11.trans e12).upd k4 u13⟩
  ·have hd : m / 2 ^ i % 2 = 0 := by omega
   rw [hd, Nat.zero_mul, Nat.add_zero] at hrs
   rw [w64 (by omega) (by omega)]
   exact H h9 ⟨q1, q2, q3, by rw [← hrs]; exact q4, e9⟩
 have : i = 128 := by omega
 subst this
 rw [show m % 2 ^ k + m / 2 ^ 128 * 2 ^ 128 = m % 2 ^ k by rw [Nat.div_eq_of_lt (a := m) (b := 2 ^ 128) (by simpa using hmW)]; simp] at q4
 rw [Big.all q4, zaa, Big.all q1, zaa]
 refine zk9.mono fun v h9 ⟨e, e9⟩ => ?_
 subst e
 have q1 := e9.row q1
 have q3 := e9.row q3
 have q4 := e9.row q4
 have e9 := e8.trans e9
 have k1 := n1
 simp only [go_sem]
 refine zat (fun xs h' => xs = [.bool (upS m k (decide (x < 0)))] ∧ Ext h h' ∧ Big h' b3 178 (m / 2 ^ k)) ?_ ?_
 ·unfold upS
  refine zab (fun hc => ?_) (fun hc => ?_)
  ·rw [Big.all q1, zaa, Big.all q4, zaa]
   refine zk9.mono fun v h10 ⟨e, e10⟩ => ?_
   subst e
   rw [decide_eq_true hc]
   exact ⟨by simp only [if_true], e9.trans e10, e10.row q3⟩
  ·rw [decide_eq_false hc]
   refine ⟨?_, e9, q3⟩
   simp only [Bool.false_eq_true, if_false]
   congr 2
   exact decide_eq_decide.2 (by omega)
 ·rintro xs ρj h10 ⟨rfl, e10, q3⟩
  simp only [go_sem]
  have hle : m / 2 ^ k ≤ m := Nat.div_le_self _ _
  refine zeX (fun hc => ?_) (fun hc => ?_)
  ·rw [hc, if_pos rfl] at hshift
   rw [Big.all q3, zaa]
   try rw [zdr, zaA, zaa, ← ziu]
   try rw [zaa]
   refine (zk8 (m := m / 2 ^ k) (n := 1) (by omega)).mono fun v h11 ⟨e, e11⟩ => ?_
   subst e
   refine zcT (e11.row q3) fun h12 r12 u12 => ?_
   rw [r12.all, zaa]
   refine (zeM (m := m / 2 ^ k + 1) (b := decide (x < 0)) (by omega)).mono fun v h13 ⟨e, e13⟩ => ?_
   exact ⟨by rw [e, hshift], ((e10.trans e11).upd k3 u12).trans e13⟩
  ·rw [hc] at hshift
   simp only [Bool.false_eq_true, if_false, Nat.add_zero] at hshift
   rw [Big.all q3, zaa]
   refine (zeM (m := m / 2 ^ k) (b := decide (x < 0)) (by omega)).mono fun v h13 ⟨e, e13⟩ => ?_
   exact ⟨by rw [e, hshift], e10.trans e13⟩
theorem c_r2MulShift {h : Heap} {a b n : Int} (ha : I64 a) (hb : I64 b) (hn : I64 n) : FCall prog zet #[.int .i64 a, .int .i64 b, .int .i64 n] h fun r h' => r = .int .i64 (zfj a b n) ∧ Ext h h' := by
 apply zlv
 unfold zgs
 simp only [go_sem]
 have ha1 := zcv ha
 have hb1 := zcv hb
 refine zat (fun xs h' => xs = [.int .i64 (n.toNat : Int)] ∧ h' = h) ?_ ?_
 ·refine zab (fun hc => ?_) (fun hc => ?_)
  ·exact ⟨by rw [Int.toNat_of_nonpos (by omega)]; rfl, rfl⟩
  ·exact ⟨by rw [Int.toNat_of_nonneg (by omega)], rfl⟩
 rintro xs ρj h1 ⟨rfl, hh⟩
 have hh := hh.symm
 subst hh
 simp only [go_sem, bne_lt]
 unfold zfj
 refine zab (fun h0 => ?_) (fun h0 => ?_)
 ·rw [if_pos (by omega)]; exact ⟨rfl, Ext.refl _⟩
 rw [if_neg (by omega)]
 generalize n.toNat = k at *
 refine (zfZ ha).mono fun v1 h1 ⟨e1, w1⟩ => ?_
 have w1 := w1.symm
 subst e1 w1
 refine (zfZ hb).mono fun v1 h1 ⟨e1, w1⟩ => ?_
 have w1 := w1.symm
 subst e1 w1
 refine (c_r1Times ha1 hb1).mono fun v h2 ⟨e, e2⟩ => ?_
 subst e
 have hmW := zmN ha1 hb1
 generalize diffS a b = bl at *
 generalize a.natAbs * b.natAbs = m at *
 refine zdp (n := m) fun b2 h3 r3 e3 n3 => ?_
 have e03 := e2.trans e3
 try simp only [go_sem]
 refine zab (fun hk => ?_) (fun hk => ?_)
 ·obtain rfl : k = 0 := by omega
  rw [Big.all r3, zaa]
  refine (zeM (m := m) (b := bl) hmW).mono fun v h4 ⟨e, e4⟩ => ?_
  exact ⟨by rw [e]; rfl, e03.trans e4⟩
 rw [zb7, zaA, zaa, ← zjS]
 refine zdp (n := 0) fun b3 h5 r5 e5 n5 => ?_
 have l2 := zaB r3
 have k2 : h.size ≤ b2 := Nat.le_trans e2.1 n3
 have k3 : h.size ≤ b3 := Nat.le_trans e03.1 n5
 refine zaz (α := Unit) (128 - k) 0 (fun i _ => [.int .i64 (127 - (i : Int))])
  (fun i _ h' => Big h' b2 178 m ∧ Big h' b3 178 (m / 2 ^ (128 - i)) ∧ Ext h h')
  () rfl (by omega) ⟨e5.row r3, by rw [show m / 2 ^ (128 - 0) = 0 from Nat.div_eq_of_lt (by simpa using hmW)]; exact r5, e03.trans e5⟩ fun i _ h6 again ρj _ hi ⟨q2, q3, e6⟩ H => ?_
 simp only [go_sem]
 refine zab (fun hc => ?_) (fun hc => ?_)
 ·have H := fun h' => H () h' (by omega)
  have hv := halve m (127 - i)
  rw [show 127 - i + 1 = 128 - i by omega] at hv
  rw [show 128 - (i + 1) = 127 - i by omega, show (127 : Int) - ((i + 1 : Nat) : Int) = ((127 - i : Nat) : Int) - 1 by omega] at H
  have hle : m / 2 ^ (127 - i) ≤ m := Nat.div_le_self _ _
  have hb : m / 2 ^ (127 - i) % 2 ≤ 1 := by omega
  rw [show (127 : Int) - (i : Int) = ((127 - i : Nat) : Int) by omega]
  refine zak (Ext h6) (Ext.refl _) ?_
  refine zae _ (fun h' e => Big.all (e.row q3)) ?_
  refine zae _ (fun h' e => Big.all (e.row q2)) ?_
  refine (zlJ hmW (i := 127 - i) (by omega)).mono fun v h7 ⟨e, e7⟩ => ?_
  subst e
  refine ⟨e7, ?_⟩
  refine (zef (n := m / 2 ^ (128 - i)) (bit := m / 2 ^ (127 - i) % 2) hb (by omega)).mono fun v h8 ⟨e, e8⟩ => ?_
  subst e
  have e78 := e7.trans e8
  refine zcT (e78.row q3) fun h9 r9 u9 => ?_
  rw [w64 (by omega) (by omega)]
  rw [← hv] at r9
  exact H h9 ⟨u9.row (by omega) (e78.row q2), r9, (e6.trans e78).upd k3 u9⟩
 have hik : i = 128 - k := by omega
 subst hik
 rw [show 128 - (128 - k) = k by omega] at q3
 rw [w64 (n := (k : Int) - 1) (by omega) (by omega)]
 refine zaz (α := Unit) (k - 1) 0 (fun i _ => [.bool (decide (m % 2 ^ i ≠ 0)), .int .i64 (i : Int)])
  (fun i _ h' => Big h' b2 178 m ∧ Big h' b3 178 (m / 2 ^ k) ∧ Ext h h')
  () (by simp [Nat.mod_one]) (by omega) ⟨q2, q3, e6⟩ fun i _ h7 again ρj _ hi ⟨q2, q3, e7⟩ H => ?_
 simp only [go_sem]
 refine zab (fun hc => ?_) (fun hc => ?_)
 ·have H := fun h' => H () h' (by omega)
  have hms := mod_step m i
  have hp : 0 < 2 ^ i := Nat.pow_pos (by omega)
  rw [Big.all q2]
  by_cases hz : m % 2 ^ i = 0
  ·have q : decide (m % 2 ^ i ≠ 0) = false := decide_eq_false (by omega)
   rw [q]
   simp only [go_sem]
   refine (zlJ hmW (i := i) (by omega)).mono fun v h8 ⟨e, e8⟩ => ?_
   subst e
   simp only [go_sem]
   rw [w64 (by omega) (by omega)]
   have qq : decide (m % 2 ^ (i + 1) ≠ 0) = decide (((m / 2 ^ i % 2 : Nat) : Int) = 1) := decide_eq_decide.2 (by
    rw [hms, hz]
    rcases Nat.mod_two_eq_zero_or_one (m / 2 ^ i) with hh | hh
    ·rw [hh]; simp
    ·rw [hh]; simp)
   have H := H h8 ⟨e8.row q2, e8.row q3, e7.trans e8⟩
   rw [qq] at H
   exact H
  ·have q : decide (m % 2 ^ i ≠ 0) = true := decide_eq_true hz
   rw [q]
   simp only [go_sem]
   rw [w64 (by omega) (by omega)]
   have H := H h7 ⟨q2, q3, e7⟩
   rw [show decide (m % 2 ^ (i + 1) ≠ 0) = true from decide_eq_true (by rw [hms]; omega)] at H
   exact H
 have : i = k - 1 := by omega
 subst this
 rw [Big.all q2, zaa, show (k : Int) - 1 = ((k - 1 : Nat) : Int) by omega]
 refine (zlJ hmW (i := k - 1) (by omega)).mono fun v h8 ⟨e, e8⟩ => ?_
 subst e
 have q3 := e8.row q3
 have e8 := e7.trans e8
 have hle : m / 2 ^ k ≤ m / 2 := by
  refine Nat.div_le_div_left ?_ (by omega)
  have := Nat.pow_le_pow_right (n := 2) (by omega) (show 1 ≤ k by omega)
  omega
 have hfin : ∀ c : Bool, (c = true ↔ (m / 2 ^ (k - 1) % 2 = 1 ∧ ¬ (bl = true ∧ m % 2 ^ (k - 1) = 0))) → iteK (.bool c)
   (FCall prog zb8 #[bigV (m / 2 ^ k), bigV 1] h8 fun v70 h71 => stK 2 (.pointer (some ⟨b3, 0, none⟩)) v70 h71 fun v72 h73 => vK (ldsV 2 h73 (.pointer (some ⟨b3, 0, none⟩))) fun v74 =>
    FCall prog za0 #[v74, .bool bl] h73 fun v75 h76 => v75 = .int .i64 (holdZ (shiftN m k bl) bl) ∧ Ext h h76)
   (FCall prog za0 #[bigV (m / 2 ^ k), .bool bl] h8 fun v78 h79 => v78 = .int .i64 (holdZ (shiftN m k bl) bl) ∧ Ext h h79) := by
  intro c hcc
  unfold shiftN
  rw [if_neg (by omega)]
  refine zeX (fun hc => ?_) (fun hc => ?_)
  ·rw [if_pos (hcc.1 hc)]
   refine (zk8 (m := m / 2 ^ k) (n := 1) (by omega)).mono fun v h11 ⟨e, e11⟩ => ?_
   subst e
   refine zcT (e11.row q3) fun h12 r12 u12 => ?_
   rw [r12.all, zaa]
   refine (zeM (m := m / 2 ^ k + 1) (b := bl) (by omega)).mono fun v h13 ⟨e, e13⟩ => ?_
   exact ⟨e, ((e8.trans e11).upd k3 u12).trans e13⟩
  ·rw [if_neg (fun hh => by rw [hcc.2 hh] at hc; cases hc)]
   refine (zeM (m := m / 2 ^ k) (b := bl) (by omega)).mono fun v h13 ⟨e, e13⟩ => ?_
   exact ⟨e, e8.trans e13⟩
 simp only [go_sem, Big.all q3]
 rw [fill_2l, zaA, zaa, ← ziu]
 refine hfin _ ?_
 rw [Bool.and_eq_true, Bool.or_eq_true, decide_eq_true_eq, decide_eq_true_eq]
 constructor
 ·rintro ⟨h1, h2⟩
  refine ⟨by omega, ?_⟩
  rintro ⟨h3, h4⟩
  rcases h2 with h2 | h2
  ·exact h2 h4
  ·rw [h3] at h2; cases h2
 ·rintro ⟨h1, h2⟩
  refine ⟨by omega, ?_⟩
  by_cases h3 : bl = true
  ·exact .inl fun h4 => h2 ⟨h3, h4⟩
  ·exact .inr (by simpa using h3)
theorem sum_less (p m t : Int) : IntKind.i64.wrap (p - IntKind.i64.wrap (m + t)) = IntKind.i64.wrap (IntKind.i64.wrap (p - m) - t) := by
 rw [zle, zip]; congr 1; omega
theorem sum_more (p m t : Int) : IntKind.i64.wrap (IntKind.i64.wrap (p + t) - m) = IntKind.i64.wrap (IntKind.i64.wrap (p - m) + t) := by
 rw [zip, zgi]; congr 1; omega
theorem c_r3Exp {h : Heap} {t : Int} (ht : I64 t) : FCall prog zjN #[.int .i64 t] h fun r h' => r = .int .i64 (expZ t) ∧ Ext h h' := by
 apply ok_ref03_Exp
 unfold zl6
 try simp only [go_sem]
 unfold expZ
 have ht1 : 0 ≤ max 0 t ∧ max 0 t ≤ 9223372036854775807 := by unfold I64 at ht; omega
 refine zat (fun xs h' => xs = [.int .i64 (max 0 t)] ∧ h' = h) ?_ ?_
 ·refine zab (fun hc => ?_) (fun hc => ?_)
  ·exact ⟨by rw [show max 0 t = 0 by omega], rfl⟩
  ·exact ⟨by rw [show max 0 t = t by omega], rfl⟩
 rintro xs ρj h1 ⟨rfl, hh⟩
 have hh := hh.symm
 subst hh
 generalize max 0 t = T at *
 try simp only [go_sem]
 refine (c_r1Floor (by unfold I64; omega) (by unfold I64; omega)).mono fun v1 h1 ⟨e, e1⟩ => ?_
 subst e
 rw [zeY (by unfold I64; omega) (by omega)]
 simp only [go_sem]
 rw [w64 (n := T / 762123384786 * 762123384786) (by omega) (by omega), w64 (n := T - T / 762123384786 * 762123384786) (by omega) (by omega)]
 rw [show T - T / 762123384786 * 762123384786 = T % 762123384786 by omega]
 have hr : 0 ≤ T % 762123384786 ∧ T % 762123384786 < 762123384786 := by omega
 generalize hrr : T % 762123384786 = r at *
 refine zaz (α := Int × Int) 16 0 (fun i a => [.int .i64 a.1, .int .i64 a.2, .int .i64 (zbC r i).2, .int .i64 ((i : Int) + 1)]) (fun i a h' => IntKind.i64.wrap (a.1 - a.2) = (zbC r i).1 ∧ Ext h h') (1099511627776, 0) rfl (by omega) ⟨show IntKind.i64.wrap (1099511627776 - 0) = 1099511627776 from w64 (by omega) (by omega), e1⟩ fun i a h2 again ρj _ hi ⟨s0, e2⟩ H => ?_
 obtain ⟨P, M⟩ := a
 simp only [go_sem]
 obtain ⟨s1, s2⟩ := zjB r i
 refine zab (fun h0 => ?_) (fun h0 => ?_)
 ·rw [w64 (n := ((i : Int) + 1) * 1099511627776) (by omega) (by omega)]
  refine (zck s2 (by unfold I64; omega) (by unfold I64; omega)).mono fun v1 h3 ⟨e, e3⟩ => ?_
  subst e
  rw [zaJ _ _ _ _ (by omega), zaa, Int.tmod_eq_emod_of_nonneg (by omega)]
  simp only [go_sem]
  have hst : (zbC r (i + 1)).1 = IntKind.i64.wrap (if i % 2 = 0 then (zbC r i).1 - (zbC r (i + 1)).2 else (zbC r i).1 + (zbC r (i + 1)).2) := rfl
  have hs2 : (zbC r (i + 1)).2 = zaL (zbC r i).2 r (((i : Int) + 1) * 1099511627776) := rfl
  rw [← hs2]
  rw [w64 (n := (i : Int) + 1 + 1) (by omega) (by omega), show (i : Int) + 1 + 1 = ((i + 1 : Nat) : Int) + 1 by omega]
  refine zab (fun h4 => ?_) (fun h4 => ?_)
  ·refine H (P, _) h3 (by omega) ⟨?_, e2.trans e3⟩
   rw [hst, if_pos (by omega), ← s0]
   exact sum_less _ _ _
  ·refine H (_, M) h3 (by omega) ⟨?_, e2.trans e3⟩
   rw [hst, if_neg (by omega), ← s0]
   exact sum_more _ _ _
 ·have : i = 16 := by omega
  subst this
  rw [s0]
  refine (zk7 s1 (by unfold I64; omega)).mono fun v1 h3 ⟨e, e3⟩ => ?_
  exact ⟨e, e2.trans e3⟩
theorem c_r3Ratio {h : Heap} {d s : Int} (hd : I64 d) (hs : I64 s) : FCall prog zg3 #[.int .i64 d, .int .i64 s] h fun r h' => r = .int .i64 (znm d s) ∧ Ext h h' := by
 apply zoq
 unfold zi0
 simp only [go_sem]
 unfold znm
 refine zab (fun h0 => ?_) (fun h0 => ?_)
 ·rw [if_pos (by omega)]; exact ⟨rfl, Ext.refl _⟩
 ·rw [if_neg (by omega)]
  have h1 := sq_le (d := d) (B := 16384) (by omega) (by omega)
  have h2 := sq_le (d := s) (B := 4194304) (by omega) (by omega)
  rw [w64 (n := d * d) (by omega) (by omega), w64 (n := d * d * 2147483648) (by omega) (by omega), w64 (n := s * s) (by omega) (by omega)]
  exact zck (by unfold I64; omega) (by unfold I64; omega) (by unfold I64; omega)
theorem c_r3Gauss {h : Heap} {d s : Int} (hd : I64 d) (hs : I64 s) : FCall prog zg4 #[.int .i64 d, .int .i64 s] h fun r h' => r = .int .i64 (zml d s) ∧ Ext h h' := by
 apply zor
 unfold zi1
 refine (c_r3Ratio hd hs).mono fun v1 h1 ⟨e, e1⟩ => ?_
 subst e
 refine (c_r3Exp (zo5 _ _)).mono fun v1 h2 ⟨e, e2⟩ => ?_
 subst e
 refine (zk7 (zqK _) (by unfold I64; omega)).mono fun v1 h3 ⟨e, e3⟩ => ?_
 exact ⟨e, e1.trans (e2.trans e3)⟩
theorem c_r4May {h : Heap} {p q : Int} (hp : I64 p) (hq : I64 q) : FCall prog zjM #[.int .i64 p, .int .i64 q] h fun r h' => r = .bool (decide (mayZ p q)) ∧ h' = h := by
 apply ok_ref04_May
 unfold zl5
 simp only [go_sem]
 unfold I64 at *
 refine zab (fun h0 => ?_) (fun h0 => ?_)
 ·exact ⟨by rw [decide_eq_false]; unfold mayZ; omega, trivial⟩
 ·refine ⟨?_, trivial⟩
  congr 1
  rw [decide_eq_decide, w64 (n := -4 * q) (by omega) (by omega), w64 (n := 4 * q) (by omega) (by omega)]
  unfold mayZ
  omega
theorem zpu {h : Heap} {p q : Int} (hp : I64 p) (h0 : p ≠ -9223372036854775808) (hq : I64 q) : FCall prog zd6 #[.int .i64 p, .int .i64 q] h fun r h' => r = .int .i64 (zjr p q) ∧ Ext h h' := by
 apply znC
 unfold zhL
 unfold zjr
 simp only [go_sem]
 unfold I64 at hp
 refine zat (fun xs h' => xs = [.int .i64 (max p (-p))] ∧ h' = h) ?_ ?_
 ·refine zab (fun hc => ?_) (fun hc => ?_)
  ·rw [w64 (by omega) (by omega)]
   exact ⟨by rw [show max p (-p) = 0 - p by omega], rfl⟩
  ·exact ⟨by rw [show max p (-p) = p by omega], rfl⟩
 rintro xs ρj h1 ⟨rfl, hh⟩
 have hh := hh.symm
 subst hh
 have hm : I64 (max p (-p)) := by unfold I64 at *; omega
 simp only [go_sem]
 refine (zck (by unfold I64; omega) hm hq).mono fun v1 h1 ⟨e, e1⟩ => ?_
 subst e
 refine (zck (zbB _ _ _) hm hq).mono fun v1 h2 ⟨e, e2⟩ => ?_
 subst e
 have hu := zbB (zaL 10851744800547 (max p (-p)) q) (max p (-p)) q
 generalize zaL (zaL 10851744800547 (max p (-p)) q) (max p (-p)) q = u at *
 refine zaz (α := Int × Int) 30 0 (fun i a => [.int .i64 a.1, .int .i64 a.2, .int .i64 (zaD u i).2, .int .i64 ((i : Int) + 1)]) (fun i a h' => IntKind.i64.wrap (a.1 - a.2) = (zaD u i).1 ∧ Ext h h') (1099511627776, 0) rfl (by omega) ⟨show IntKind.i64.wrap (1099511627776 - 0) = 1099511627776 from w64 (by omega) (by omega), e1.trans e2⟩ fun i a h3 again ρj _ hi ⟨s0, e3⟩ H => ?_
 obtain ⟨P, M⟩ := a
 simp only [go_sem]
 obtain ⟨s1, s2⟩ := zhB u i
 refine zab (fun h0 => ?_) (fun h0 => ?_)
 ·have hsq := sq_le (d := (i : Int) + 1) (B := 30) (by omega) (by omega)
  have he := twice_sq ((i : Int) + 1)
  rw [w64 (n := 2 * ((i : Int) + 1)) (by omega) (by omega), w64 (n := 2 * ((i : Int) + 1) + 1) (by omega) (by omega), w64 (n := 2 * ((i : Int) + 1) * (2 * ((i : Int) + 1) + 1)) (by omega) (by omega),
   w64 (n := 2 * ((i : Int) + 1) * (2 * ((i : Int) + 1) + 1) * 1099511627776) (by omega) (by omega)]
  refine (zck s2 hu (by unfold I64; omega)).mono fun v1 h4 ⟨e, e4⟩ => ?_
  subst e
  rw [zaJ _ _ _ _ (by omega), zaa, Int.tmod_eq_emod_of_nonneg (by omega)]
  simp only [go_sem]
  have hst : (zaD u (i + 1)).1 = IntKind.i64.wrap (if i % 2 = 0 then (zaD u i).1 - (zaD u (i + 1)).2 else (zaD u i).1 + (zaD u (i + 1)).2) := rfl
  have hs2 : (zaD u (i + 1)).2 = zaL (zaD u i).2 u (2 * ((i : Int) + 1) * (2 * ((i : Int) + 1) + 1) * 1099511627776) := rfl
  rw [← hs2]
  rw [w64 (n := (i : Int) + 1 + 1) (by omega) (by omega), show (i : Int) + 1 + 1 = ((i + 1 : Nat) : Int) + 1 by omega]
  refine zab (fun h5 => ?_) (fun h5 => ?_)
  ·refine H (P, _) h4 (by omega) ⟨?_, e3.trans e4⟩
   rw [hst, if_pos (by omega), ← s0]
   exact sum_less _ _ _
  ·refine H (_, M) h4 (by omega) ⟨?_, e3.trans e4⟩
   rw [hst, if_neg (by omega), ← s0]
   exact sum_more _ _ _
 ·have : i = 30 := by omega
  subst this
  exact ⟨by rw [s0], e3⟩
theorem c_r4Lanczos {h : Heap} {p q : Int} (hp : I64 p) (hq : I64 q) : FCall prog zfv #[.int .i64 p, .int .i64 q] h fun r h' => r = .int .i64 (zgQ p q) ∧ Ext h h' := by
 apply zmC
 unfold zho
 unfold zgQ
 refine (c_r4May hp hq).mono fun v1 h1 ⟨e1, w1⟩ => ?_
 have w1 := w1.symm
 subst e1 w1
 by_cases hm : mayZ p q
 ·have hm' := hm
  unfold mayZ at hm'
  simp only [go_sem, hm]
  rw [w64 (n := 3 * q) (by omega) (by omega), w64 (n := -3 * q) (by omega) (by omega)]
  refine zab (fun h0 => ?_) (fun h0 => ?_)
  ·rw [if_pos (by omega)]
   exact ⟨rfl, Ext.refl _⟩
  ·rw [if_neg (by omega)]
   refine (zpu hp (by omega) hq).mono fun v1 h1 ⟨e, e1⟩ => ?_
   subst e
   refine (zpu hp (by omega) (by unfold I64; omega)).mono fun v1 h2 ⟨e, e2⟩ => ?_
   subst e
   refine (c_r2MulShift (zgI _ _) (zgI _ _) (by unfold I64; omega)).mono fun v1 h3 ⟨e, e3⟩ => ?_
   subst e
   refine (zk7 (zgO _ _ _) (by unfold I64; omega)).mono fun v1 h4 ⟨e, e4⟩ => ?_
   exact ⟨e, e1.trans (e2.trans (e3.trans e4))⟩
 ·simp only [go_sem, hm]
  rw [if_pos trivial]
  exact ⟨rfl, Ext.refl _⟩
end Go.Proofs.YtojmncnelbnceaaGreatDoor
namespace Go.Crisp
def inW (f n m i j : Int) : Prop := if f = 0 then i * n < (j + 1) * m ∧ j * m < (i + 1) * n else
 2 * m * j - (2 * i + 1) * n + m < zaX f * (2 * max n m) ∧ -(zaX f * (2 * max n m)) < 2 * m * j - (2 * i + 1) * n + m
instance (f n m i j : Int) : Decidable (inW f n m i j) := by unfold inW; infer_instance
theorem inW_iff {f n m i j : Int} (h : mayR f n m i) : inW f n m i j ↔ lowW f n m i ≤ j ∧ j < highW f n m i := by
 obtain ⟨f0, f1, n0, n1, m0, m1, i0, i1⟩ := h
 unfold inW lowW highW ceilD
 split
 ·have a1 := @Int.ediv_lt_iff_lt_mul (i * n) (j + 1) m (by omega)
  have a2 := @Int.ediv_lt_iff_lt_mul (-((i + 1) * n)) (-j) m (by omega)
  rw [Int.neg_mul] at a2
  constructor
  ·rintro ⟨h1, h2⟩
   have := a1.2 h1
   have := a2.2 (by omega)
   omega
  ·rintro ⟨h1, h2⟩
   have := a1.1 (by omega)
   have := a2.1 (by omega)
   omega
 ·have a1 := @Int.ediv_lt_iff_lt_mul ((2 * i + 1) * n - m - zaX f * 2 * max n m) j (2 * m) (by omega)
  have a2 := @Int.ediv_lt_iff_lt_mul (-((2 * i + 1) * n - m + zaX f * 2 * max n m)) (-j) (2 * m) (by omega)
  rw [Int.neg_mul] at a2
  rw [Int.mul_comm j] at a1 a2
  rw [Int.mul_assoc (zaX f)] at a1 a2
  rw [Int.mul_assoc (zaX f)]
  constructor
  ·rintro ⟨h1, h2⟩
   have := a1.2 (by omega)
   have := a2.2 (by omega)
   omega
  ·rintro ⟨h1, h2⟩
   have := a1.1 (by omega)
   have := a2.1 (by omega)
   omega
theorem zpK {f n m i : Int} (h : mayR f n m i) : lowW f n m i ≤ i * n / m ∧ i * n / m < highW f n m i := by
 rw [← inW_iff h]
 obtain ⟨f0, f1, n0, n1, m0, m1, i0, i1⟩ := h
 have hq := Int.mul_ediv_add_emod (i * n) m
 have hr := Int.emod_nonneg (i * n) (show m ≠ 0 by omega)
 have hr2 := Int.emod_lt_of_pos (i * n) (show 0 < m by omega)
 generalize i * n / m = j at *
 generalize i * n % m = r at *
 unfold inW
 have e1 : (j + 1) * m = m * j + m := by rw [Int.add_mul, Int.one_mul, Int.mul_comm]
 have e2 : (i + 1) * n = i * n + n := by rw [Int.add_mul, Int.one_mul]
 have e3 : (2 * i + 1) * n = 2 * (i * n) + n := by rw [Int.add_mul, Int.one_mul, Int.mul_assoc]
 have e4 : 2 * m * j = 2 * (m * j) := Int.mul_assoc _ _ _
 have e5 : j * m = m * j := Int.mul_comm _ _
 split
 ·rw [e1, e2, e5]; omega
 ·rw [e3, e4]
  have hre : zaX f = 2 ∨ zaX f = 3 := by unfold zaX; rename_i hf; rw [if_neg hf]; split <;> omega
  rcases hre with hre | hre <;> rw [hre] <;> omega
end Go.Crisp
namespace Go.Proofs.YtojmncnelbnceaaGreatDoor
open Go Go.Crisp
attribute [local irreducible] FCall rowK newK stK iteK vK qK drawK gK joinK loopK mkK appK cpyK zqt znp bsK
open _root_.Go.Proofs.Tryz
theorem c_r5May {h : Heap} {f n m i : Int} : FCall prog zjL #[.int .i64 f, .int .i64 n, .int .i64 m, .int .i64 i] h fun r h' => r = .bool (decide (mayR f n m i)) ∧ h' = h := by
 apply ok_ref05_May
 unfold zl4
 simp only [go_sem]
 refine ⟨?_, trivial⟩
 congr 1
 rw [decide_eq_decide]
 unfold mayR
 omega
abbrev jB (j : Int) : Prop := -137438953472 ≤ j ∧ j ≤ 137438953472
theorem zmp {h : Heap} {f n m i j : Int} (hm : mayR f n m i) (hj : jB j) : FCall prog zcW #[.int .i64 n, .int .i64 m, .int .i64 i, .int .i64 j] h fun r h' =>
  r = .tuple #[.int .i64 (2 * m * j - (2 * i + 1) * n + m), .int .i64 (2 * max n m)] ∧ h' = h := by
 apply zlu
 unfold zgr
 simp only [go_sem]
 have hb := mayB hm
 obtain ⟨b1, b2, b3, b4, b5⟩ := hb
 obtain ⟨f0, f1, n0, n1, m0, m1, i0, i1⟩ := hm
 have hjm := zqv (a := j) (A := 137438953472) (b := m) (B := 65536) (by omega) (by omega) (by omega) (by omega)
 have hj2 : 2 * m * j = 2 * (j * m) := by rw [Int.mul_assoc, Int.mul_comm m j]
 rw [w64 (n := 2 * m) (by omega) (by omega), w64 (n := 2 * n) (by omega) (by omega), w64 (n := 2 * m * j) (by omega) (by omega), w64 (n := 2 * i) (by omega) (by omega), w64 (n := 2 * i + 1) (by omega) (by omega), w64 (n := (2 * i + 1) * n) (by omega) (by omega),
  w64 (n := 2 * m * j - (2 * i + 1) * n) (by omega) (by omega), w64 (n := 2 * m * j - (2 * i + 1) * n + m) (by omega) (by omega)]
 refine zat (fun xs h' => xs = [.int .i64 (2 * max n m)] ∧ h' = h) ?_ ?_
 ·refine zab (fun hc => ?_) (fun hc => ?_)
  ·exact ⟨by rw [show max n m = m by omega], rfl⟩
  ·exact ⟨by rw [show max n m = n by omega], rfl⟩
 rintro xs ρj h1 ⟨rfl, hh⟩
 exact ⟨rfl, hh⟩
theorem c_r5In0 {h : Heap} {f n m i j : Int} (hm : mayR f n m i) (hj : jB j) : FCall prog ze0 #[.int .i64 f, .int .i64 n, .int .i64 m, .int .i64 i, .int .i64 j] h fun r h' =>
  r = .bool (decide (inW f n m i j)) ∧ h' = h := by
 apply ok_ref05_In
 unfold znb
 simp only [go_sem]
 have hm0 := hm
 have hb := mayB hm
 obtain ⟨b1, b2, b3, b4, b5⟩ := hb
 obtain ⟨f0, f1, n0, n1, m0, m1, i0, i1⟩ := hm
 have hjm := zqv (a := j) (A := 137438953472) (b := m) (B := 65536) (by omega) (by omega) (by omega) (by omega)
 have hj1 : (j + 1) * m = j * m + m := by rw [Int.add_mul, Int.one_mul]
 refine zab (fun hf => ?_) (fun hf => ?_)
 ·rw [w64 (n := i + 1) (by omega) (by omega), w64 (n := (i + 1) * n) (by omega) (by omega), w64 (n := j + 1) (by omega) (by omega), w64 (n := (j + 1) * m) (by omega) (by omega), w64 (n := i * n) (by omega) (by omega), w64 (n := j * m) (by omega) (by omega)]
  refine ⟨?_, trivial⟩
  congr 1
  rw [decide_eq_decide]
  unfold inW
  rw [if_pos hf]
 ·refine (zmp hm0 hj).mono fun v1 h1 ⟨e1, w1⟩ => ?_
  have w1 := w1.symm
  subst e1 w1
  simp only [go_sem]
  rw [w64 (n := 2 * (2 * max n m)) (by omega) (by omega), w64 (n := 3 * (2 * max n m)) (by omega) (by omega), w64 (n := 0 - 2 * (2 * max n m)) (by omega) (by omega), w64 (n := 0 - 3 * (2 * max n m)) (by omega) (by omega)]
  refine zab (fun hc => ?_) (fun hc => ?_)
  ·refine ⟨?_, trivial⟩
   congr 1
   rw [decide_eq_decide]
   unfold inW zaX
   rw [if_neg hf, if_neg hf, if_neg (by omega)]
   omega
  ·refine ⟨?_, trivial⟩
   congr 1
   rw [decide_eq_decide]
   unfold inW zaX
   rw [if_neg hf, if_neg hf, if_pos (by omega)]
   omega
theorem c_r5In {h : Heap} {f n m i j : Int} (hm : mayR f n m i) (hj : jB j) : FCall prog ze0 #[.int .i64 f, .int .i64 n, .int .i64 m, .int .i64 i, .int .i64 j] h fun r h' =>
  r = .bool (decide (lowW f n m i ≤ j ∧ j < highW f n m i)) ∧ h' = h :=
 (c_r5In0 hm hj).mono fun v h1 ⟨e, w⟩ => ⟨by rw [e]; congr 1; exact decide_eq_decide.2 (inW_iff hm), w⟩
theorem c_r5Keys {h : Heap} {p q : Int} (hp : -4611686018427387904 ≤ p ∧ p ≤ 4611686018427387904) (hq : I64 q) : FCall prog zih #[.int .i64 p, .int .i64 q] h fun r h' => r = .int .i64 (keysZ p q) ∧ Ext h h' := by
 apply zqc
 unfold zkd
 try simp only [go_sem]
 unfold keysZ
 refine zab (fun h0 => ?_) (fun h0 => ?_)
 ·rw [if_pos (by omega)]; exact ⟨rfl, Ext.refl _⟩
 rw [w64 (n := 2 * q) (by omega) (by omega), w64 (n := -2 * q) (by omega) (by omega)]
 refine zab (fun h1 => ?_) (fun h1 => ?_)
 ·rw [if_pos (by omega)]; exact ⟨rfl, Ext.refl _⟩
 rw [if_neg (by omega)]
 refine zat (fun xs h' => xs = [.int .i64 (max p (-p))] ∧ h' = h) ?_ ?_
 ·refine zab (fun hc => ?_) (fun hc => ?_)
  ·rw [w64 (by omega) (by omega)]
   exact ⟨by rw [show max p (-p) = 0 - p by omega], rfl⟩
  ·exact ⟨by rw [show max p (-p) = p by omega], rfl⟩
 rintro xs ρj h2 ⟨rfl, hh⟩
 have hh := hh.symm
 subst hh
 generalize max p (-p) = a
 try simp only [go_sem]
 simp only [zir, ziq, zgi, zeV, zip, zle]
 unfold cubicZ
 refine zab (fun h1 => ?_) (fun h1 => ?_)
 ·rw [if_neg (by omega)]
  have e3 : 3 * (a * a * a) - 5 * (a * a) * q + 2 * (q * q * q) = 3 * (a * a * a) - 5 * (a * a * q) + 2 * (q * q * q) := by grind
  rw [e3]
  exact zck (zcA _) (by unfold I64; omega) (zcA _)
 ·rw [if_pos (by omega)]
  have e3 : 5 * (a * a) * q - a * a * a - 8 * a * (q * q) + 4 * (q * q * q) = 4 * (q * q * q) + 5 * (a * a * q) - a * a * a - 8 * (a * q * q) := by grind
  rw [e3]
  exact zck (zcA _) (by unfold I64; omega) (zcA _)
theorem c_r5Weight {h : Heap} {f n m i j : Int} (hm : mayR f n m i) (hj : jB j) : FCall prog zge #[.int .i64 f, .int .i64 n, .int .i64 m, .int .i64 i, .int .i64 j] h fun r h' =>
  r = .int .i64 (zjU f n m i j) ∧ Ext h h' := by
 apply znB
 unfold zhK
 try simp only [go_sem]
 have hm0 := hm
 have hb := mayB hm
 obtain ⟨b1, b2, b3, b4, b5⟩ := hb
 obtain ⟨f0, f1, n0, n1, m0, m1, i0, i1⟩ := hm
 unfold zjU
 have hjm := zqv (a := j) (A := 137438953472) (b := m) (B := 65536) (by omega) (by omega) (by omega) (by omega)
 have hj1 : (j + 1) * m = j * m + m := by rw [Int.add_mul, Int.one_mul]
 have hj2 : 2 * m * j = 2 * (j * m) := by rw [Int.mul_assoc, Int.mul_comm m j]
 refine zab (fun hf => ?_) (fun hf => ?_)
 ·rw [if_pos hf]
  rw [w64 (n := i + 1) (by omega) (by omega), w64 (n := (i + 1) * n) (by omega) (by omega), w64 (n := j + 1) (by omega) (by omega), w64 (n := (j + 1) * m) (by omega) (by omega), w64 (n := i * n) (by omega) (by omega), w64 (n := j * m) (by omega) (by omega)]
  refine zat (fun xs h' => xs = [.int .i64 (max (i * n) (j * m))] ∧ h' = h) ?_ ?_
  ·refine zab (fun hc => ?_) (fun hc => ?_)
   ·exact ⟨by rw [show max (i * n) (j * m) = j * m by omega], rfl⟩
   ·exact ⟨by rw [show max (i * n) (j * m) = i * n by omega], rfl⟩
  rintro xs ρj h2 ⟨rfl, hh⟩
  have hh := hh.symm
  subst hh
  simp only [go_sem]
  refine zab (fun hc => ?_) (fun hc => ?_)
  ·rw [w64 (by omega) (by omega), show min ((i + 1) * n) ((j + 1) * m) = (j + 1) * m by omega]
   exact zck (by unfold I64; omega) (by unfold I64; omega) (by unfold I64; omega)
  ·rw [w64 (by omega) (by omega), show min ((i + 1) * n) ((j + 1) * m) = (i + 1) * n by omega]
   exact zck (by unfold I64; omega) (by unfold I64; omega) (by unfold I64; omega)
 rw [if_neg hf]
 refine (zmp hm0 hj).mono fun v1 h1 ⟨e1, w1⟩ => ?_
 have w1 := w1.symm
 subst e1 w1
 simp only [go_sem]
 refine zab (fun hf1 => ?_) (fun hf1 => ?_)
 ·rw [if_pos hf1]
  exact c_r5Keys (by omega) (by unfold I64; omega)
 ·rw [if_neg hf1]
  exact c_r4Lanczos (by unfold I64; omega) (by unfold I64; omega)
theorem c_r5Row {h : Heap} {f n m i : Int} : FCall prog zg2 #[.int .i64 f, .int .i64 n, .int .i64 m, .int .i64 i] h fun r h' =>
  ∃ v, r = .tuple #[.int .i64 (zbj f n m i), v] ∧ New (Rp.int .i64) h h' v (zaW f n m i) := by
 apply ok_ref05_Row
 unfold zl3
 refine c_r5May.mono fun v1 h1 ⟨e1, w1⟩ => ?_
 have w1 := w1.symm
 subst e1 w1
 unfold zbj zaW
 by_cases hm : mayR f n m i
 ·rw [if_pos hm, if_pos hm]
  simp only [go_sem, hm]
  have hlb := low_bd hm
  have hst := zpK hm
  have hbb := mayB hm
  obtain ⟨b1, b2, b3, b4, b5⟩ := hbb
  have hm' := hm
  obtain ⟨f0, f1, n0, n1, m0, m1, i0, i1⟩ := hm'
  have hdb := zfY (a := i * n) (b := m) (L := 0) (U := 4294967296) (by omega) (by omega) (by omega) (by omega) (by omega)
  rw [w64 (n := i * n) (by omega) (by omega), zdY _ _ _ _ (by omega), zaa, Int.tdiv_eq_ediv_of_nonneg b1.1, w64 (by omega) (by omega)]
  generalize hlo : lowW f n m i = lo at *
  generalize hhi : highW f n m i = hi at *
  generalize i * n / m = j0 at *
  refine zc0 (fun k => [.int .i64 (j0 - (k : Int))]) (j0 - lo).toNat 0 (by simp) (Nat.zero_le _) fun k again ρj _ hk H => ?_
  simp only [go_sem]
  rw [w64 (n := j0 - (k : Int) - 1) (by omega) (by omega)]
  refine (c_r5In hm (by omega)).mono fun v1 h1 ⟨e1, w1⟩ => ?_
  have w1 := w1.symm
  subst e1 w1
  rw [hlo, hhi]
  refine zab (fun hc => ?_) (fun hc => ?_)
  ·have H := H (by omega)
   rw [show j0 - ((k + 1 : Nat) : Int) = j0 - (k : Int) - 1 by omega] at H
   exact H
  have hk : j0 - (k : Int) = lo := by omega
  rw [hk]
  refine zc0 (fun k => [.int .i64 lo]) 0 0 rfl (Nat.le_refl _) fun k2 again2 ρj2 _ hk2 _ => ?_
  simp only [go_sem]
  refine (c_r5In hm (by omega)).mono fun v1 h1 ⟨e1, w1⟩ => ?_
  have w1 := w1.symm
  subst e1 w1
  rw [hlo, hhi, decide_eq_true (by omega)]
  simp only [go_sem]
  refine zaz (hi - lo).toNat 0 (fun k v => [.int .i64 (lo + (k : Int)), v]) (fun k v h' => New (Rp.int .i64) h h' v ((rowW f n m i).take k)) (.slice none 0 0) (by simp) (Nat.zero_le _) (New.nil (Ext.refl _)) fun k v h2 again ρj _ hk hI H => ?_
  simp only [go_sem]
  have hl : (rowW f n m i).length = (hi - lo).toNat := by unfold rowW; rw [List.length_map, List.length_range, hlo, hhi]
  refine (c_r5In hm (by omega)).mono fun v1 h3 ⟨e1, w1⟩ => ?_
  have w1 := w1.symm
  subst e1 w1
  rw [hlo, hhi]
  refine zab (fun h0 => ?_) (fun h0 => ?_)
  ·refine (c_r5Weight hm (by omega)).mono fun v2 h3 ⟨e2, w2⟩ => ?_
   subst e2
   have hlen : ((rowW f n m i).take k).length = k := by rw [List.length_take]; omega
   refine (hI.ext w2).push_int rfl (by rw [hlen]; omega) (by rw [hlen]; omega) fun s' h' H' => ?_
   try simp only [go_sem]
   rw [w64 (by omega) (by omega)]
   have := H s' h' (by omega) (by
    have e := zdX (fun k : Nat => zjU f n m i (lowW f n m i + k)) (highW f n m i - lowW f n m i).toNat k (by omega)
    unfold rowW at H' ⊢
    rw [e, hlo]
    rw [hlo] at H'
    exact H')
   rw [show lo + ((k + 1 : Nat) : Int) = lo + (k : Int) + 1 by omega] at this
   exact this
  ·rw [List.take_of_length_le (by omega)] at hI
   exact ⟨v, rfl, hI⟩
 ·rw [if_neg hm, if_neg hm]
  simp only [go_sem, hm]
  exact ⟨_, rfl, New.nil (Ext.refl _)⟩
end Go.Proofs.YtojmncnelbnceaaGreatDoor
namespace Go.Proofs.YtojmncnelbnceaaGreatDoor
open Go Go.Crisp
attribute [local irreducible] FCall rowK newK stK iteK vK qK drawK gK joinK loopK mkK appK cpyK zqt znp bsK clK
open _root_.Go.Proofs.Tryz
theorem c_r6plus {h : Heap} {a b : Int} (ha : I64 a) (hb : I64 b) : FCall prog zf4 #[.int .i64 a, .int .i64 b] h fun r h' => r = .int .i64 (addZ a b) ∧ h' = h := by
 apply zp7
 unfold zj8
 simp only [go_sem, zcQ]
 unfold addZ I64 at *
 refine zab (fun h0 => ?_) (fun h0 => ?_)
 ·exact ⟨by congr 1; omega, trivial⟩
 refine zab (fun h1 => ?_) (fun h1 => ?_)
 ·exact ⟨by congr 1; omega, trivial⟩
 ·exact ⟨by congr 1; omega, trivial⟩
theorem c_r6Size {h : Heap} {x : Int} (hx : I64 x) : FCall prog zf5 #[.int .i64 x] h fun r h' => r = .int .i64 (sizeZ x) ∧ h' = h := by
 apply zp9
 unfold zka
 rw [zmI hx]
 simp only [go_sem, zcQ]
 unfold I64 at *
 refine zab (fun h0 => ?_) (fun h0 => ?_)
 ·exact ⟨by congr 1; omega, trivial⟩
 refine zab (fun h1 => ?_) (fun h1 => ?_)
 ·exact ⟨by congr 1; omega, trivial⟩
 ·exact ⟨by congr 1; omega, trivial⟩
theorem c_r6Sum {Z : Nat → Prop} {h : Heap} {v : Value} {l : List Int} (H : SlI Z h v l) (h64 : ∀ x ∈ l, I64 x) (hl : l.length < 4611686018427387904) : FCall prog zjK #[v] h fun r h' => r = .int .i64 (sumZ l) ∧ h' = h := by
 apply ok_ref06_Sum
 unfold zl2
 obtain ⟨a, cap, e⟩ := H.isSl
 have e2 : zaf v = some (.int .i64 (l.length : Int)) := by rw [e]; rfl
 rw [e2, zaa]
 refine zc0 (fun i => [.int .i64 ((l.take i).foldl addZ 0), .int .i64 (i : Int)]) l.length 0 rfl (Nat.zero_le _) fun i again ρj _ hi Hag => ?_
 simp only [go_sem]
 refine zab (fun h0 => ?_) (fun h0 => ?_)
 ·have hi' : i < l.length := by omega
  obtain ⟨p, e3, e4⟩ := H.int_at (k' := .i64) hi'
  simp only [go_sem, e3, e4]
  refine (c_r6plus (zfn ziA _ _ ziB) (h64 _ (List.getElem_mem _))).mono fun v1 h1 ⟨e1, w1⟩ => ?_
  subst e1 w1
  rw [w64 (by omega) (by omega)]
  have := Hag hi'
  rw [zjV hi'] at this
  exact this
 ·rw [List.take_of_length_le (by omega)]
  exact ⟨rfl, trivial⟩
theorem c_r6Sizes {Z : Nat → Prop} {h : Heap} {v : Value} {l : List Int} (H : SlI Z h v l) (h64 : ∀ x ∈ l, I64 x) (hl : l.length < 4611686018427387904) : FCall prog zg1 #[v] h fun r h' => r = .int .i64 (ze3 l) ∧ h' = h := by
 apply zop
 unfold ziZ
 obtain ⟨a, cap, e⟩ := H.isSl
 have e2 : zaf v = some (.int .i64 (l.length : Int)) := by rw [e]; rfl
 rw [e2, zaa]
 refine zc0 (fun i => [.int .i64 ((l.take i).foldl (fun s x => addZ s (sizeZ x)) 0), .int .i64 (i : Int)]) l.length 0 rfl (Nat.zero_le _) fun i again ρj _ hi Hag => ?_
 simp only [go_sem]
 refine zab (fun h0 => ?_) (fun h0 => ?_)
 ·have hi' : i < l.length := by omega
  obtain ⟨p, e3, e4⟩ := H.int_at (k' := .i64) hi'
  simp only [go_sem, e3, e4]
  have hx := h64 _ (List.getElem_mem hi')
  refine (c_r6Size hx).mono fun v1 h1 ⟨e1, w1⟩ => ?_
  subst e1 w1
  refine (c_r6plus (zfn (fun a b => ziA a (sizeZ b)) _ _ ziB) (sizeZ_I64 hx)).mono fun v1 h1 ⟨e1, w1⟩ => ?_
  subst e1 w1
  try simp only [go_sem]
  rw [w64 (by omega) (by omega)]
  have := Hag hi'
  rw [zjV hi'] at this
  exact this
 ·rw [List.take_of_length_le (by omega)]
  exact ⟨rfl, trivial⟩
theorem zpL (l : List Int) : 0 ≤ ze3 l ∨ ¬ ∀ x ∈ l, I64 x := by
 by_cases h : ∀ x ∈ l, I64 x
 ·left
  unfold ze3
  have : ∀ (l : List Int) (s : Int), (∀ x ∈ l, I64 x) → 0 ≤ s → 0 ≤ l.foldl (fun s x => addZ s (sizeZ x)) s := by
   intro l
   induction l with
   | nil => intro s _ hs; exact hs
   | cons x l ih =>
    intro s h hs
    refine ih _ (fun y hy => h y (by simp [hy])) ?_
    have h2 := zmI (h x (by simp))
    show 0 ≤ addZ s (sizeZ x)
    rw [h2]
    unfold addZ
    omega
  exact this l 0 h (Int.le_refl _)
 ·exact .inr h
theorem zqP {Z : Nat → Prop} {h : Heap} {v : Value} {l : List Int} (H : SlI Z h v l) (h64 : ∀ x ∈ l, I64 x) (hl : l.length < 4611686018427387904) :
  FCall prog zej #[v] h fun r h' => ∃ u, r = .tuple #[u, .int .i64 (userC l)] ∧ New (Rp.int .i64) h h' u (userW l) := by
 apply zp8
 unfold zj9
 refine (c_r6Sizes H h64 hl).mono fun v1 h1 ⟨e1, w1⟩ => ?_
 have w1 := w1.symm
 subst e1 w1
 obtain ⟨a, cap, e⟩ := H.isSl
 have e2 : zaf v = some (.int .i64 (l.length : Int)) := by rw [e]; rfl
 simp only [go_sem, e2]
 rw [zaJ _ _ _ _ (by omega), zaa, Int.tmod_eq_emod_of_nonneg (by omega)]
 simp only [go_sem, e2]
 unfold userC userW
 have hs := zoU l
 have hs0 : 0 ≤ ze3 l := (zpL l).resolve_right fun hh => hh h64
 refine zab (fun h0 => ?_) (fun h0 => ?_)
 ·have : zcY l := by unfold zcY; omega
  rw [if_pos this, if_pos this]
  exact ⟨_, rfl, New.nil (Ext.refl _)⟩
 ·have hn : ¬ zcY l := by unfold zcY; omega
  rw [if_neg hn, if_neg hn]
  refine zaz l.length 0 (fun k u => [u, .int .i64 (k : Int)]) (fun k u h' => New (Rp.int .i64) h h' u ((l.map fun x => zaL x 1073741824 (ze3 l)).take k)) (.slice none 0 0) rfl (Nat.zero_le _) (New.nil (Ext.refl _)) fun k u h2 again ρj _ hk hI Hag => ?_
  simp only [go_sem]
  refine zab (fun h0 => ?_) (fun h0 => ?_)
  ·have hk' : k < l.length := by omega
   obtain ⟨p, e3, e4⟩ := (H.ext hI.2.1).int_at (k' := .i64) hk'
   simp only [go_sem, e3, e4]
   refine (zck (h64 _ (List.getElem_mem _)) (by unfold I64; omega) hs).mono fun v2 h3 ⟨e5, w5⟩ => ?_
   subst e5
   have hlen : ((l.map fun x => zaL x 1073741824 (ze3 l)).take k).length = k := by rw [List.length_take, List.length_map]; omega
   unfold zcY at hn
   refine (hI.ext w5).push_int rfl (by rw [hlen]; omega) (by rw [hlen]; omega) fun s' h' H' => ?_
   try rw [za9, zaa]
   rw [w64 (by omega) (by omega)]
   have := Hag s' h' hk' (by rw [zkS _ _ hk']; exact H')
   exact this
  ·rw [List.take_of_length_le (by rw [List.length_map]; omega)] at hI
   exact ⟨u, rfl, hI⟩
theorem c_r6Gaussian {h : Heap} {s : Int} (hs : I64 s) : FCall prog zes #[.int .i64 s] h fun r h' => ∃ u, r = .tuple #[u, .int .i64 (zn0 s)] ∧ New (Rp.int .i64) h h' u (zgz s) := by
 apply zlt
 unfold zgq
 simp only [go_sem]
 unfold zn0 zgz
 refine zab (fun h0 => ?_) (fun h0 => ?_)
 ·have : zeK s := h0
  rw [if_pos this, if_pos this]
  exact ⟨_, rfl, New.nil (Ext.refl _)⟩
 ·have hn : ¬ zeK s := h0
  rw [if_neg hn, if_neg hn]
  have hr : 0 ≤ zcc s ∧ zcc s ≤ 193 ∧ 65536 * zcc s ≥ 3 * s ∧ 65536 * (zcc s - 1) < 3 * s := by unfold zcc; omega
  generalize zcc s = q at *
  refine zc0 (fun k => [.int .i64 (k : Int)]) q.toNat 0 rfl (Nat.zero_le _) fun k again ρj _ hk Hag => ?_
  simp only [go_sem]
  rw [w64 (n := (k : Int) * 65536) (by omega) (by omega), w64 (n := 3 * s) (by omega) (by omega)]
  refine zab (fun h1 => ?_) (fun h1 => ?_)
  ·rw [w64 (by omega) (by omega)]
   exact Hag (by omega)
  have hkq : (k : Int) = q := by omega
  rw [hkq, w64 (n := 0 - q) (by omega) (by omega)]
  obtain ⟨N, hN⟩ : ∃ N, N = (2 * q + 1).toNat := ⟨_, rfl⟩
  rw [← hN]
  refine zaz N 0 (fun k u => [u, .int .i64 ((k : Int) - q)]) (fun k u h' => New (Rp.int .i64) h h' u (((List.range N).map fun k : Nat => zml ((k : Int) - q) s).take k)) (.slice none 0 0) rfl (Nat.zero_le _) (New.nil (Ext.refl _)) fun k u h2 again ρj _ hk hI Hag => ?_
  simp only [go_sem]
  refine zab (fun h3 => ?_) (fun h3 => ?_)
  ·have hk' : k < N := by omega
   refine (c_r3Gauss (by unfold I64; omega) hs).mono fun v2 h3 ⟨e5, w5⟩ => ?_
   subst e5
   have hlen : (((List.range N).map fun k : Nat => zml ((k : Int) - q) s).take k).length = k := by rw [List.length_take, List.length_map, List.length_range]; omega
   refine (hI.ext w5).push_int rfl (by rw [hlen]; omega) (by rw [hlen]; omega) fun s' h' H' => ?_
   try rw [za9, zaa]
   rw [w64 (by omega) (by omega)]
   have := Hag s' h' hk' (by rw [zdX _ _ _ hk']; exact H')
   rw [show ((k + 1 : Nat) : Int) - q = (k : Int) - q + 1 by omega] at this
   exact this
  ·rw [List.take_of_length_le (by rw [List.length_map, List.length_range]; omega)] at hI
   exact ⟨u, rfl, hI⟩
theorem c_r6Blur {h : Heap} {r : Int} (hr : I64 r) : FCall prog zig #[.int .i64 r] h fun w h' => ∃ u, w = .tuple #[u, .int .i64 (blurC r)] ∧ New (Rp.int .i64) h h' u (blurW r) := by
 apply zqb
 unfold zkc
 try simp only [go_sem]
 unfold blurC blurW
 refine zab (fun h0 => ?_) (fun h0 => ?_)
 ·have : zh8 r := h0
  rw [if_pos this, if_pos this]
  exact ⟨_, rfl, New.nil (Ext.refl _)⟩
 ·have hn : ¬ zh8 r := h0
  rw [if_neg hn, if_neg hn]
  rw [w64 (n := 2 * r) (by omega) (by omega)]
  try simp only [go_sem]
  rw [w64 (n := 2 * r + 1) (by omega) (by omega)]
  obtain ⟨N, hN⟩ : ∃ N : Nat, N = (2 * r + 1).toNat := ⟨_, rfl⟩
  rw [← hN, show 2 * r + 1 = (N : Int) by omega]
  refine zaz N 0 (fun k u => [u, .int .i64 (k : Int)]) (fun k u h' => New (Rp.int .i64) h h' u (List.replicate k 1)) (.slice none 0 0) rfl (Nat.zero_le _) (New.nil (Ext.refl _)) fun k u h2 again ρj _ hk hI Hag => ?_
  simp only [go_sem]
  refine zab (fun h3 => ?_) (fun h3 => ?_)
  ·refine hI.push_int rfl (by rw [List.length_replicate]; omega) (by rw [List.length_replicate]; omega) fun s' h' H' => ?_
   try rw [za9, zaa]
   rw [w64 (by omega) (by omega)]
   rw [← List.replicate_succ'] at H'
   exact Hag s' h' (by omega) H'
  ·have : k = N := by omega
   subst this
   refine (zqP hI.sl (fun x hx => by rw [(List.mem_replicate.1 hx).2]; unfold I64; omega) (by rw [List.length_replicate]; omega)).mono fun w h3 ⟨u, e, H3⟩ => ?_
   subst e
   try simp only [go_sem]
   exact ⟨u, rfl, H3.before hI.2.1⟩
theorem ow_own {k : IntKind} {Z : Nat → Prop} {h : Heap} {v : Value} {l : List Int} (H : Rp.Ow (Rp.int k) Z h v l) : Own 1 h v l.length (l.map fun n => Value.int k n) := by
 obtain ⟨ds, hs, _, he⟩ := H
 have hl : ds.length = l.length * 1 := hs.sl.1
 have e : ds = l.map fun n => Value.int k n := by
  apply List.ext_getElem
  ·simp; omega
  ·intro i h1 h2
   have h3 := he i (by omega)
   have h4 : Rp.el 1 ds i = [Value.int k (l[i]'(by omega))] := h3
   rw [Rp.el_one h1] at h4
   simpa using h4
 rw [← e]
 exact hs
structure Two2 (h0 h : Heap) (x y : Value) (l m : List Int) : Prop where
 ext : Ext h0 h
 ox : Rp.Ow (Rp.int .i64) (fun _ => False) h x l
 oy : Rp.Ow (Rp.int .i64) (fun _ => False) h y m
 nx : ∀ b, blk x b → h0.size ≤ b
 ny : ∀ b, blk y b → h0.size ≤ b
 dis : ∀ b, blk x b → ¬ blk y b
theorem Two2.more {h0 h h' : Heap} {x y : Value} {l m : List Int} (T : Two2 h0 h x y l m) (e : Ext h h') : Two2 h0 h' x y l m := ⟨T.ext.trans e, T.ox.ext e, T.oy.ext e, T.nx, T.ny, T.dis⟩
theorem Two2.push_x {h0 h : Heap} {x y : Value} {l m : List Int} {n : Int} {t t' : TypeId} {bytes : Nat} {K : Value → Heap → Prop} (T : Two2 h0 h x y l m) (hb : (l.length + 1) * bytes ≤ 140737488355328) (hn : l.length + 1 ≤ 9223372036854775807)
  (H : ∀ x' h', Two2 h0 h' x' y (l ++ [n]) m → K x' h') : rowK #[.int .i64 0] t 1 [(0, 1, .int .i64 n)] h fun v2 h3 => appK (.int .i64 0) t' 1 bytes x v2 h3 K := by
 refine Rp.push_ow1 (e := Rp.int .i64) rfl T.ox (x := n) rfl rfl hb hn (fun b hb => hb.elim) fun s' h' o' f' n' => H s' h' ⟨T.ext.then_fr f' T.nx, o', T.oy.fr f' (fun _ _ => False.elim) fun b hb hx => T.dis b hx hb, fun b hb => ?_, T.ny, fun b hb hy => ?_⟩
 ·rcases n' b hb with h1 | h1
  ·exact T.nx b h1
  ·exact Nat.le_trans T.ext.1 h1
 ·rcases n' b hb with h1 | h1
  ·exact T.dis b h1 hy
  ·have := T.oy.lt hy; omega
theorem Two2.swap {h0 h : Heap} {x y : Value} {l m : List Int} (T : Two2 h0 h x y l m) : Two2 h0 h y x m l := ⟨T.ext, T.oy, T.ox, T.ny, T.nx, fun b hy hx => T.dis b hx hy⟩
theorem ze2 {β : Type} (g : Nat → β) (n k : Nat) (h : k < n) : (List.range (k + 1)).map g = (List.range k).map g ++ [g k] := by
 rw [List.range_succ, List.map_append]; rfl
theorem zk6 {Z : Nat → Prop} {h : Heap} {v : Value} {l : List Int} (H : SlI Z h v l) (h64 : ∀ x ∈ l, I64 x) (hl : l.length < 4611686018427387904) :
  FCall prog zb3 #[v] h fun r h' => ∃ u, r = .tuple #[u, .int .i64 (zaS l)] ∧ New (Rp.int .i64) h h' u (zaC l) := by
 apply zkM
 unfold zfL
 obtain ⟨a, cap, e⟩ := H.isSl
 have e2 : zaf v = some (.int .i64 (l.length : Int)) := by rw [e]; rfl
 simp only [go_sem, e2]
 refine zab (fun h0 => ?_) (fun h0 => ?_)
 ·have hB : badW l := by unfold badW; rcases h0 with h2 | h2; exact .inl (by omega); exact .inr (.inl (by omega))
  have hc : zaS l = 7 := by unfold zaS; rw [if_pos hB]
  unfold zaC
  rw [hc, if_neg (by omega)]
  exact ⟨_, rfl, New.nil (Ext.refl _)⟩
 refine zaz (α := Unit) l.length 0 (fun i _ => [.int .i64 (i : Int)]) (fun i _ h' => (∀ j (hj : j < l.length), j < i → ¬ 1099511627776 < sizeZ l[j]) ∧ h' = h) () rfl (Nat.zero_le _) ⟨fun j _ hj => absurd hj (by omega), rfl⟩ fun i _ h1 again ρj _ hi ⟨hs, eh⟩ Hag => ?_
 have eh := eh.symm
 subst eh
 simp only [go_sem]
 refine zab (fun h2 => ?_) (fun h2 => ?_)
 ·have hi' : i < l.length := by omega
  obtain ⟨p, e3, e4⟩ := H.int_at (k' := .i64) hi'
  simp only [go_sem, e3, e4]
  have hx := h64 _ (List.getElem_mem hi')
  refine (c_r6Size hx).mono fun v1 h1 ⟨e1, w1⟩ => ?_
  have w1 := w1.symm
  subst e1 w1
  simp only [go_sem]
  refine zab (fun h3 => ?_) (fun h3 => ?_)
  ·have hB : badW l := .inr (.inr ⟨_, List.getElem_mem hi', h3⟩)
   have hc : zaS l = 7 := by unfold zaS; rw [if_pos hB]
   unfold zaC
   rw [hc, if_neg (by omega)]
   exact ⟨_, rfl, New.nil (Ext.refl _)⟩
  ·rw [w64 (by omega) (by omega)]
   refine Hag () h hi' ⟨fun j hj hji => ?_, rfl⟩
   by_cases hje : j = i
   ·subst hje; exact h3
   ·exact hs j hj (by omega)
 have hin : i = l.length := by omega
 subst hin
 have hB : ¬ badW l := by
  unfold badW
  rintro (h3 | h3 | ⟨x, hx, h3⟩)
  ·omega
  ·omega
  ·obtain ⟨j, hj, rfl⟩ := List.getElem_of_mem hx
   exact hs j hj hj h3
 refine (c_r6Sum H h64 hl).mono fun v1 h1 ⟨e1, w1⟩ => ?_
 have w1 := w1.symm
 subst e1 w1
 simp only [go_sem]
 refine zab (fun h3 => ?_) (fun h3 => ?_)
 ·have hc : zaS l = 8 := by unfold zaS; rw [if_neg hB, if_pos h3]
  unfold zaC
  rw [hc, if_neg (by omega)]
  exact ⟨_, rfl, New.nil (Ext.refl _)⟩
 have hc : zaS l = 0 := zn4.2 ⟨hB, by omega⟩
 have G := goodW h64 hc
 have s1 := G.sum
 have s64 := sumZ_I64 l
 have hn := G.len
 have hn0 := G.pos
 unfold zaC
 rw [if_pos hc, hc]
 refine zaz (α := Value × Value) l.length 0 (fun k a => [a.1, a.2, .int .i64 (leftK l k), .int .i64 (k : Int)]) (fun k a h' => Two2 h h' a.1 a.2 ((List.range k).map (baseT l)) ((List.range k).map (restT l))) (.slice none 0 0, .slice none 0 0) rfl (Nat.zero_le _)
  ⟨Ext.refl _, Rp.Ow.nil, Rp.Ow.nil, fun b hb => hb.elim, fun b hb => hb.elim, fun b hb => hb.elim⟩ fun k a h1 again ρj _ hk T Hag => ?_
 obtain ⟨x, y⟩ := a
 have T : Two2 h h1 x y ((List.range k).map (baseT l)) ((List.range k).map (restT l)) := T
 simp only [go_sem]
 refine zab (fun h4 => ?_) (fun h4 => ?_)
 ·have hk' : k < l.length := by omega
  obtain ⟨p, e3, e4⟩ := (H.ext T.ext).int_at (k' := .i64) hk'
  simp only [go_sem, e3, e4]
  have eg : l.getD k 0 = l[k] := by simp [List.getD_eq_getElem?_getD, hk']
  have hx := G.small k
  rw [eg] at hx
  rw [w64 (n := l[k] * 16384) (by omega) (by omega)]
  refine (c_r1Floor (by unfold I64; omega) s64).mono fun v1 h4 ⟨e5, w5⟩ => ?_
  subst e5
  rw [zeY (by unfold I64; omega) (by omega)]
  have eb : l[k] * 16384 / sumZ l = baseT l k := by unfold baseT; rw [eg]
  have er : restT l k = l[k] * 16384 - baseT l k * sumZ l := by unfold restT; rw [← eb, eg, Int.emod_def, Int.mul_comm (sumZ l)]
  rw [eb]
  have hbt := ziz G k
  have hlk := zqD G k
  have hrb := zpR G k
  refine (T.more w5).push_x (by rw [List.length_map, List.length_range]; omega) (by rw [List.length_map, List.length_range]; omega) fun x' h5 T => ?_
  try simp only [go_sem]
  have hbs : baseT l k * sumZ l = l[k] * 16384 - restT l k := by rw [er]; omega
  have hrs : restT l k < sumZ l := hrb.2
  have hsm : sumZ l ≤ 1152921504606846976 := by
   have h6 := psum_bd G l.length
   rw [← sumZ_psum G] at h6
   have : (l.length : Int) * 1099511627776 ≤ 1048576 * 1099511627776 := by omega
   omega
  rw [w64 (n := baseT l k * sumZ l) (by omega) (by omega), ← er, w64 (n := restT l k) (by omega) (by omega)]
  refine T.swap.push_x (by rw [List.length_map, List.length_range]; omega) (by rw [List.length_map, List.length_range]; omega) fun y' h6 T => ?_
  try simp only [go_sem]
  rw [w64 (n := leftK l k - baseT l k) (by omega) (by omega), w64 (n := (k : Int) + 1) (by omega) (by omega)]
  refine Hag (x', y') h6 hk' ?_
  rw [ze2 _ (k + 1) k (by omega), ze2 _ (k + 1) k (by omega)]
  exact T.swap
 have hkn : k = l.length := by omega
 subst hkn
 obtain ⟨L0, L1⟩ := left_bd G
 obtain ⟨m, hm⟩ : ∃ m : Nat, leftT l = (m : Int) := ⟨(leftT l).toNat, by omega⟩
 have hlm : leftK l l.length = (m : Int) := hm
 rw [hlm]
 have o1 := ow_own T.ox
 have o2 := ow_own T.oy
 rw [List.length_map, List.length_range, List.map_map] at o1 o2
 have dxy := T.dis
 have nx := T.nx
 have ny := T.ny
 have E1 := T.ext
 obtain ⟨ya, ycap, ey⟩ := o2.isSl
 have ey : y = .slice ya l.length ycap := ey
 have ey2 : zaf y = some (.int .i64 (l.length : Int)) := by rw [ey]; rfl
 refine zaz (α := Unit) m 0 (fun k _ => [.int .i64 ((m : Int) - (k : Int))])
  (fun k _ h' => Ext h h' ∧ Own 1 h' x l.length ((List.range l.length).map fun i => Value.int .i64 (baseT l i + (if (rank (restT l) l.length i : Int) < (k : Int) then 1 else 0))) ∧ Own 1 h' y l.length ((List.range l.length).map fun i => Value.int .i64 (zdo (restT l) l.length k i)))
  () (by simp) (Nat.zero_le _) ⟨E1, by
   rw [zau (f := fun i => Value.int .i64 (baseT l i)) (fun i hi => by rw [if_neg (by omega), Int.add_zero])]; exact o1, by rw [picked_zero]; exact o2⟩ fun k _ h2 again2 ρj2 _ hk ⟨E2, q1, q2⟩ Hag2 => ?_
 simp only [go_sem]
 refine zab (fun h5 => ?_) (fun h5 => ?_)
 ·have hkm : k < m := by omega
  rw [ey2, zaa]
  have hr0 : ∀ i, i < l.length → 0 ≤ restT l i := fun i _ => (zpR G i).1
  refine zaz (α := Nat) l.length 0 (fun j b => [.int .i64 (b : Int), .int .i64 (j : Int)])
   (fun j b h' => h' = h2 ∧ b < l.length ∧ (∀ i, i < j → zdo (restT l) l.length k i ≤ zdo (restT l) l.length k b) ∧ (∀ i, i < b → zdo (restT l) l.length k i < zdo (restT l) l.length k b) ∧ b ≤ j) 0 rfl (Nat.zero_le _)
   ⟨rfl, hn0, fun i hi => absurd hi (by omega), fun i hi => absurd hi (by omega), Nat.le_refl _⟩ fun j b h3 again3 ρj3 _ hj ⟨eh, hb, p1, p2, hbj⟩ Hag3 => ?_
  have eh := eh.symm
  subst eh
  simp only [go_sem]
  refine zab (fun h6 => ?_) (fun h6 => ?_)
  ·have hj' : j < l.length := by omega
   obtain ⟨pj, j1, j2, _⟩ := Own.at_map q2 (k := .i64) hj'
   obtain ⟨pb, b1, b2, _⟩ := Own.at_map q2 (k := .i64) hb
   simp only [go_sem, j1, j2, b1, b2]
   rw [w64 (n := (j : Int) + 1) (by omega) (by omega)]
   refine zab (fun h7 => ?_) (fun h7 => ?_)
   ·refine Hag3 j h2 hj' ⟨rfl, hj', fun i hi => ?_, fun i hi => ?_, by omega⟩
    ·by_cases hij : i = j
     ·rw [hij]; exact Int.le_refl _
     ·have := p1 i (by omega); omega
    ·have := p1 i hi; omega
   ·refine Hag3 b h2 hj' ⟨rfl, hb, fun i hi => ?_, p2, by omega⟩
    by_cases hij : i = j
    ·rw [hij]; omega
    ·exact p1 i (by omega)
  have hjn : j = l.length := by omega
  subst hjn
  have hrk := best_rank hr0 (k := k) (by omega) hb p1 p2
  obtain ⟨px, x1, x2, x3⟩ := Own.at_map q1 (k := .i64) hb
  simp only [go_sem, x1, x2]
  have hbt := ziz G b
  rw [w64 (n := baseT l b + (if (rank (restT l) l.length b : Int) < (k : Int) then 1 else 0) + 1) (by split <;> omega) (by split <;> omega)]
  refine x3 _ _ fun h3 o1a f3 => ?_
  have o2a := q2.fr f3 fun c hc hx => dxy c hx hc
  obtain ⟨py, y1, y2, y3⟩ := Own.at_map o2a (k := .i64) hb
  simp only [go_sem, y1]
  refine y3 _ _ fun h4 o2b f4 => ?_
  have o1b := o1a.fr f4 fun c hc hy => dxy c hc hy
  rw [w64 (by omega) (by omega), show (m : Int) - (k : Int) - 1 = (m : Int) - ((k + 1 : Nat) : Int) by omega]
  refine Hag2 () h4 hkm ⟨(E2.then_fr f3 nx).then_fr f4 ny, ?_, ?_⟩
  ·rw [zau (f := fun j => Value.int .i64 (if j = b then baseT l b + (if (rank (restT l) l.length b : Int) < (k : Int) then 1 else 0) + 1 else baseT l j + if (rank (restT l) l.length j : Int) < (k : Int) then 1 else 0)) (fun i hi => by
    congr 1
    by_cases he : i = b
    ·rw [if_pos he, he, if_pos (by omega), if_neg (by omega)]; omega
    ·rw [if_neg he]
     have hne : rank (restT l) l.length i ≠ k := fun e => he (zmJ hi hb (e.trans hrk.symm))
     by_cases h8 : rank (restT l) l.length i < k
     ·rw [if_pos (by omega), if_pos (by omega)]
     ·rw [if_neg (by omega), if_neg (by omega)])]
   exact o1b
  ·rw [zau (f := fun j => Value.int .i64 (if j = b then -1 else zdo (restT l) l.length k j)) (fun i hi => by rw [picked_succ hb hrk hi])]
   exact o2b
 ·have : k = m := by omega
  subst this
  refine ⟨x, rfl, ⟨(ze1 l).map fun n => Value.int .i64 n, ?_, fun c _ => id, fun i hi => ?_⟩, E2, nx⟩
  ·rw [zeW]
   unfold ze1
   rw [List.map_map]
   simp only [← hm] at q1
   exact q1
  ·have e : Rp.el (Rp.int .i64).w ((ze1 l).map fun n => Value.int .i64 n) i = [Value.int .i64 (ze1 l)[i]] := by
    have := Rp.el_one (ds := (ze1 l).map fun n => Value.int .i64 n) (i := i) (by simpa using hi)
    rw [List.getElem_map] at this
    exact this
   exact e
end Go.Proofs.YtojmncnelbnceaaGreatDoor
namespace Go.Proofs.YtojmncnelbnceaaGreatDoor
open Go Go.Crisp
attribute [local irreducible] FCall rowK newK stK iteK vK qK drawK gK joinK loopK mkK appK cpyK zqt znp bsK
open _root_.Go.Proofs.Tryz
theorem binSl_nil (a : Option Addr) (n c : Nat) : binV .sl .eql (.slice a n c) (.slice none 0 0) = some (.bool a.isNone) := by cases a <;> rfl
theorem c_Clone64 {h : Heap} {Z : Nat → Prop} {v : Value} {l : List Int} (H : Rp.Sl rI Z h v l) (hl : l.length ≤ 1000000000) :
  FCall prog zaF #[v] h fun r h' => Rp.Sl rI (fun b => h.size ≤ b) h' r l ∧ Ext h h' := by
 apply zb6
 unfold zbg
 obtain ⟨ds, ⟨hl1, a, cap, rfl, hs⟩, hz, he⟩ := H
 rw [binSl_nil, zaa]
 cases a with
 | none =>
  have : l = [] := by
   rcases hs with hs | ⟨b, o, h0, _⟩
   ·subst hs
    have h2 : ([] : List Value).length = l.length * 1 := hl1
    exact List.eq_nil_of_length_eq_zero (by simpa using h2.symm)
   ·cases h0
  subst this
  simp only [Option.isNone_none, go_sem]
  exact ⟨Rp.Sl.nil, Ext.refl _⟩
 | some a =>
  simp only [Option.isNone_some, go_sem]
  refine zbZ (c' := #[]) rfl fun b h1 r1 e1 n1 => ?_
  have O : Rp.Ow rI (fun _ => False) h1 (.slice (some ⟨b, 0, none⟩) 0 0) [] := ⟨[], .inr ⟨b, 0, [], _, rfl, Nat.le_refl _, rfl, rfl, r1⟩, fun b hb hb' => hb', fun i hi => absurd hi (by simp)⟩
  have S1 : SlC 1 h1 (.slice (some a) l.length cap) l.length ds := SlC.ext ⟨hl1, some a, cap, rfl, hs⟩ e1
  refine Rp.app_ow (e := rI) (l := []) (l2 := l) O S1 (fun i hi => he i hi) rfl (by simp; omega) (by simp; omega) (fun b hb => hb.elim) fun v2 h2 O2 f2 n2 => ?_
  rw [List.nil_append] at O2
  have nb : ∀ k, blk (.slice (some ⟨b, 0, none⟩) 0 0) k → h.size ≤ k := fun k hk => by have : k = b := hk; omega
  refine ⟨O2.sl.mono fun k hk hz => ?_, e1.then_fr f2 nb⟩
  rcases hz with hz | hz
  ·exact hz.elim
  ·rcases n2 k hz with h3 | h3
   ·exact nb k h3
   ·exact Nat.le_trans e1.1 h3
end Go.Proofs.YtojmncnelbnceaaGreatDoor
namespace Go.Crisp
open Go
def za4 (g : Nat → Int) : Nat → Int
 | 0 => 0
 | k + 1 => if za4 g k ≠ 0 then za4 g k else g k
theorem zk1 {g : Nat → Int} {k n : Nat} (h : za4 g k ≠ 0) (hk : k ≤ n) : za4 g n = za4 g k := by
  induction n with
  | zero => have : k = 0 := by omega
            rw [this]
  | succ n ih =>
    rcases Nat.lt_or_ge n k with h1 | h1
    · have : k = n + 1 := by omega
      rw [this]
    · have := ih h1
      show (if za4 g n ≠ 0 then za4 g n else g n) = _
      rw [this, if_pos h]
end Go.Crisp
namespace Go.Proofs.YtojmncnelbnceaaGreatDoor
open Go Go.Crisp
attribute [local irreducible] FCall rowK newK stK iteK vK qK drawK gK joinK loopK mkK appK cpyK zqt znp bsK clK
open _root_.Go.Proofs.Tryz
def zao (n : Int) : Prop := 1 ≤ n ∧ n ≤ 65536
instance (n : Int) : Decidable (zao n) := by unfold zao; infer_instance
theorem fNameNil (f : Int) : fName f = [] ↔ ¬ (0 ≤ f ∧ f < 3) := by
 unfold fName
 split
 ·constructor
  ·intro h; cases h
  ·intro h; omega
 split
 ·constructor
  ·intro h; cases h
  ·intro h; omega
 split
 ·constructor
  ·intro h; cases h
  ·intro h; omega
 ·constructor
  ·intro _; omega
  ·intro _; rfl
def za2 (f n m : Int) : Int := if ¬ (0 ≤ f ∧ f < 3) ∨ ¬ zao n ∨ ¬ zao m then 6 else za4 (fun i => zaS (zaW f n m i)) m.toNat
def zbA (f n m : Int) : Tbl := ⟨n, (List.range m.toNat).map fun i : Nat => (zbj f n m i, zaC (zaW f n m i))⟩
theorem zgv (f n m i : Int) : ∀ x ∈ zaW f n m i, I64 x := by
 unfold zaW
 split
 ·intro x hx
  unfold rowW at hx
  obtain ⟨k, _, rfl⟩ := List.mem_map.1 hx
  exact weighZ_I64 _ _ _ _ _
 ·simp
theorem zo2 (f n m i : Int) : (zaW f n m i).length < 4611686018427387904 := by
 unfold zaW
 split
 ·rename_i h
  unfold rowW
  rw [List.length_map, List.length_range]
  have := low_bd h
  omega
 ·simp
theorem zeZ {l : List Int} (h64 : ∀ x ∈ l, I64 x) : (zaC l).length ≤ 1048576 ∧ ∀ x ∈ zaC l, -67108864 ≤ x ∧ x ≤ 67108865 := by
 unfold zaC
 split
 ·rename_i h
  have G := goodW h64 h
  exact ⟨by rw [zeW]; exact G.len, tapsOf_bd G⟩
 ·simp
theorem zoc {l : List Int} (h64 : ∀ x ∈ l, I64 x) : ∀ x ∈ zaC l, I64 x := fun x hx => by
 have := (zeZ h64).2 x hx
 unfold I64; omega
def TblOut (h : Heap) (code : Int) (t : Tbl) (r : Value) (h' : Heap) : Prop := ∃ p, r = .tuple #[p, .int .i64 code] ∧ Ext h h' ∧ (code ≠ 0 → p = .pointer none) ∧ (code = 0 → IsTbl (fun c => h.size ≤ c ∧ c < h'.size) h' p t)
theorem zqX {h : Heap} (G : GlobB h) {f n m : Int} (hf : I64 f) (hn : I64 n) (hm : I64 m) : FCall prog zcV #[.int .i64 f, .int .i64 n, .int .i64 m] h (TblOut h (za2 f n m) (zbA f n m)) := by
 apply znw
 unfold zhF
 refine (c_rawName G).mono fun v1 h1 ⟨e1, w1⟩ => ?_
 subst e1 w1
 rw [S_nil, zq3, zaa]
 unfold za2
 have hnm := fNameNil f
 have bad : (¬ (0 ≤ f ∧ f < 3) ∨ ¬ zao n ∨ ¬ zao m) → TblOut h1 (if ¬ (0 ≤ f ∧ f < 3) ∨ ¬ zao n ∨ ¬ zao m then 6 else za4 (fun i => zaS (zaW f n m i)) m.toNat) (zbA f n m) (.tuple #[.pointer none, .int .i64 6]) h1 := by
  intro hb
  rw [if_pos hb]
  exact ⟨_, rfl, Ext.refl _, fun _ => rfl, fun h => by cases h⟩
 by_cases h0 : fName f = []
 ·have hbad := bad (.inl (hnm.1 h0))
  simp only [go_sem, h0]
  exact hbad
 have hf3 : 0 ≤ f ∧ f < 3 := Decidable.of_not_not fun h => h0 (hnm.2 h)
 simp only [go_sem, h0]
 refine zjD.mono fun v1 h2 ⟨e1, w1⟩ => ?_
 subst e1 w1
 by_cases hsn : ¬ zao n
 ·have hbad := bad (.inr (.inl hsn))
  have q : (1 ≤ n ∧ n ≤ 65536) = False := eq_false hsn
  simp only [go_sem, q]
  exact hbad
 have hsn : zao n := Decidable.of_not_not hsn
 have q : (1 ≤ n ∧ n ≤ 65536) = True := eq_true hsn
 simp only [go_sem, q]
 refine zjD.mono fun v1 h3 ⟨e1, w1⟩ => ?_
 subst e1 w1
 by_cases hsm : ¬ zao m
 ·have hbad := bad (.inr (.inr hsm))
  have q : (1 ≤ m ∧ m ≤ 65536) = False := eq_false hsm
  simp only [go_sem, q]
  exact hbad
 have hsm : zao m := Decidable.of_not_not hsm
 have q : (1 ≤ m ∧ m ≤ 65536) = True := eq_true hsm
 simp only [go_sem, q, fill_41 (a := .int .i64 n) rfl, Option.map_some]
 rw [if_neg (by rintro (h | h | h); exact h hf3; exact h hsn; exact h hsm)]
 clear bad q
 refine zag fun b h4 r4 e4 n4 => ?_
 have hsn' := hsn
 have hsm' := hsm
 unfold zao at hsn' hsm'
 have lines_len : ∀ k : Nat, ((List.range k).map fun i : Nat => (zbj f n m i, zaC (zaW f n m i))).length = k := fun k => by simp
 refine zaz m.toNat 0 (fun k (_ : Unit) => [.int .i64 (k : Int)]) (fun k _ h' => za4 (fun i => zaS (zaW f n m i)) k = 0 ∧ ∃ Z lv, TblAt h3 Z h' b 102 lv n ((List.range k).map fun i : Nat => (zbj f n m i, zaC (zaW f n m i)))) () rfl (Nat.zero_le _)
  ⟨rfl, fun _ => False, _, e4, r4, Rp.Ow.nil, n4, fun c hc => hc.elim, id, id, fun c hc => hc.elim⟩ fun k _ h5 again ρj _ hk ⟨hg, Z, lv, T⟩ Hag => ?_
 try simp only [go_sem]
 refine zab (fun h6 => ?_) (fun h6 => ?_)
 ·have hk' : k < m.toNat := by omega
  have G5 := G.ext T.ext
  refine (c_rawRow G5).mono fun w h7 ⟨v, e, Nw⟩ => ?_
  subst e
  try simp only [go_sem]
  refine (zjF Nw.sl (zgv _ _ _ _) (zo2 _ _ _ _)).mono fun w h8 ⟨u, e, Nu⟩ => ?_
  subst e
  try simp only [go_sem]
  refine zab (fun h9 => ?_) (fun h9 => ?_)
  ·have hc : za4 (fun i => zaS (zaW f n m i)) (k + 1) = zaS (zaW f n m k) := by
    show (if za4 (fun i => zaS (zaW f n m i)) k ≠ 0 then _ else _) = _
    rw [if_neg (by rw [hg]; simp)]
   have hs := zk1 (g := fun i => zaS (zaW f n m i)) (k := k + 1) (n := m.toNat) (by rw [hc]; exact h9) hk'
   rw [hs, hc]
   exact ⟨_, rfl, (T.ext.trans Nw.2.1).trans Nu.2.1, fun _ => rfl, fun h => absurd h h9⟩
  ·have h9 : zaS (zaW f n m k) = 0 := Decidable.of_not_not h9
   have bd := zeZ (zgv f n m k)
   have T2 : TblAt h3 (fun c => Z c ∨ blk u c) h8 b 102 lv n _ := T.more (Z' := fun c => Z c ∨ blk u c) (Nw.2.1.trans Nu.2.1) (fun c => .inl) fun c hc hz => by
    rcases hc with hc | hc
    ·exact absurd hc hz
    ·exact ⟨Nat.le_trans Nw.2.1.1 (Nu.2.2 c hc), Nu.1.lt hc⟩
   refine (zpq T2 (Nu.sl.mono fun c _ hc => .inr hc) (zoc (zgv _ _ _ _)) (by omega) (by rw [lines_len]; omega)).mono fun w h10 ⟨lv', T3, _⟩ => ?_
   rw [w64 (by omega) (by omega)]
   refine Hag () h10 hk' ⟨?_, fun c => Z c ∨ blk u c, lv', ?_⟩
   ·show (if za4 (fun i => zaS (zaW f n m i)) k ≠ 0 then _ else _) = _
    rw [if_neg (by rw [hg]; simp)]
    exact h9
   ·rw [List.range_succ, List.map_append]
    exact T3
 ·have : k = m.toNat := by omega
  subst this
  exact ⟨_, by rw [hg], T.ext, fun h => absurd hg h, fun _ => T.done⟩
def zcx (l : List Int) (n : Int) : Int := if ¬ zao n then 6 else if l.length % 2 = 0 then 7 else zaS l
def zc1 (l : List Int) (n : Int) : Tbl := ⟨n, (List.range n.toNat).map fun i : Nat => ((i : Int) - (l.length / 2 : Nat), zaC l)⟩
theorem c_Filter {h : Heap} {Z : Nat → Prop} {v : Value} {l : List Int} {n : Int} (H : SlI Z h v l) (h64 : ∀ x ∈ l, I64 x) (hl : l.length < 4611686018427387904) (hn : I64 n) : FCall prog zd3 #[v, .int .i64 n] h (TblOut h (zcx l n) (zc1 l n)) := by
 apply znx
 unfold zhG
 refine zjD.mono fun v1 h1 ⟨e1, w1⟩ => ?_
 subst e1 w1
 unfold zcx
 obtain ⟨a, cap, e⟩ := H.isSl
 have e2 : zaf v = some (.int .i64 (l.length : Int)) := by rw [e]; rfl
 by_cases hsn : ¬ zao n
 ·rw [if_pos hsn]
  have q : (1 ≤ n ∧ n ≤ 65536) = False := eq_false hsn
  simp only [go_sem, q]
  exact ⟨_, rfl, Ext.refl _, fun _ => rfl, fun h => by cases h⟩
 rw [if_neg hsn]
 have hsn : zao n := Decidable.of_not_not hsn
 have q : (1 ≤ n ∧ n ≤ 65536) = True := eq_true hsn
 have hsn' := hsn
 unfold zao at hsn'
 simp only [go_sem, q, e2]
 rw [zaJ _ _ _ _ (by omega), zaa, Int.tmod_eq_emod_of_nonneg (by omega)]
 simp only [go_sem]
 refine zab (fun h0 => ?_) (fun h0 => ?_)
 ·rw [if_pos (by omega)]
  exact ⟨_, rfl, Ext.refl _, fun _ => rfl, fun h => by cases h⟩
 rw [if_neg (by omega)]
 refine (zjF H h64 hl).mono fun w h2 ⟨u, e, Nu⟩ => ?_
 subst e
 simp only [go_sem]
 refine zab (fun h9 => ?_) (fun h9 => ?_)
 ·exact ⟨_, rfl, Nu.2.1, fun _ => rfl, fun h => absurd h h9⟩
 have h9 : zaS l = 0 := Decidable.of_not_not h9
 have hal : (zaC l).length = l.length := by unfold zaC; rw [if_pos h9, zeW]
 have bd := zeZ h64
 simp only [fill_41 (a := .int .i64 n) rfl, Option.map_some, zaa, zax]
 refine zag fun b h4 r4 e4 n4 => ?_
 have lines_len : ∀ k : Nat, ((List.range k).map fun i : Nat => ((i : Int) - (l.length / 2 : Nat), zaC l)).length = k := fun k => by simp
 refine zaz n.toNat 0 (fun k (_ : Unit) => [.int .i64 (k : Int)]) (fun k _ h' => ∃ lv, TblAt h1 (blk u) h' b 102 lv n ((List.range k).map fun i : Nat => ((i : Int) - (l.length / 2 : Nat), zaC l)) ∧ SlI (blk u) h' u (zaC l)) () rfl (Nat.zero_le _)
  ⟨_, ⟨Nu.2.1.trans e4, r4, Rp.Ow.nil, Nat.le_trans Nu.2.1.1 n4, fun c hc => hc.elim, fun hc => by have := Nu.1.lt hc; omega, id, fun c hc => ⟨Nu.2.2 c hc, by have := Nu.1.lt hc; have := e4.1; omega⟩⟩, Nu.sl.ext e4⟩ fun k _ h5 again ρj _ hk ⟨lv, T, Hu⟩ Hag => ?_
 try simp only [go_sem]
 refine zab (fun h6 => ?_) (fun h6 => ?_)
 ·have hk' : k < n.toNat := by omega
  obtain ⟨au, cu, eu⟩ := Hu.isSl
  have eu2 : zaf u = some (.int .i64 (l.length : Int)) := by rw [eu, hal]; rfl
  simp only [go_sem, eu2]
  rw [zdY _ _ _ _ (by omega), zaa, Int.tdiv_eq_ediv_of_nonneg (by omega), w64 (n := (l.length : Int) / 2) (by omega) (by omega)]
  simp only [go_sem]
  rw [w64 (n := (k : Int) - (l.length : Int) / 2) (by omega) (by omega), show (k : Int) - (l.length : Int) / 2 = (k : Int) - (l.length / 2 : Nat) by omega]
  refine (zpq T Hu (zoc h64) (by omega) (by rw [lines_len]; omega)).mono fun w h10 ⟨lv', T3, F3⟩ => ?_
  try simp only [go_sem]
  rw [w64 (by omega) (by omega)]
  have hd : ∀ c, blk u c → ¬ (c = b ∨ blk lv c) := fun c hc hm => by
   rcases hm with rfl | hm
   ·exact T.zb hc
   ·obtain ⟨ds, _, h2, _⟩ := T.ow
    exact h2 c hm hc
  refine Hag () h10 hk' ⟨lv', ?_, Hu.fr F3 fun c _ hc => hd c hc⟩
  rw [List.range_succ, List.map_append]
  exact T3
 ·have : k = n.toNat := by omega
  subst this
  exact ⟨_, by rw [h9], T.ext, fun h => absurd h9 h, fun _ => T.done⟩
theorem c_From {Z : Nat → Prop} {h : Heap} {p : Value} {t : Tbl} (H : IsTbl Z h p t) : FCall prog zbk #[p] h fun r h' => r = .int .i64 t.n ∧ h' = h := by
 apply zjx
 unfold ze9
 obtain ⟨b, lv, rfl, c0, c1, c2, c3, hl, _⟩ := H.open
 simp only [go_sem, c0]
 exact ⟨by simp, by simp⟩
theorem c_To {Z : Nat → Prop} {h : Heap} {p : Value} {t : Tbl} (H : IsTbl Z h p t) : FCall prog zap #[p] h fun r h' => r = .int .i64 (t.lines.length : Int) ∧ h' = h := by
 apply zlq
 unfold zgn
 obtain ⟨b, lv, rfl, c0, c1, c2, c3, hl, _⟩ := H.open
 obtain ⟨a, cap, e⟩ := hl.isSl
 have e2 : zaf lv = some (.int .i64 (t.lines.length : Int)) := by rw [e]; rfl
 simp only [go_sem, c1, e2]
 exact ⟨by simp, by simp⟩
theorem zpz {Z : Nat → Prop} {h : Heap} {p : Value} {t : Tbl} (H : IsTbl Z h p t) : FCall prog zaQ #[p] h fun r h' => r = .int .i64 (mostL t.lines) ∧ h' = h := by
 apply zjv
 unfold ze7
 obtain ⟨b, lv, rfl, c0, c1, c2, c3, hl, _⟩ := H.open
 simp only [go_sem, c2]
 exact ⟨by simp, by simp⟩
structure _root_.Go.Crisp.Tbl.Wf (t : Tbl) : Prop where
 len : t.lines.length ≤ 65536
 taps : ∀ x ∈ t.lines, x.2.length ≤ 1048576 ∧ -70368744177664 ≤ x.1 ∧ x.1 ≤ 70368744177664
def lineT (t : Tbl) (i : Int) : Int × List Int := if 0 ≤ i then t.lines.getD i.toNat (0, []) else (0, [])
theorem zmr {Z : Nat → Prop} {h : Heap} {p : Value} {t : Tbl} (H : IsTbl Z h p t) (W : t.Wf) {i : Int} : FCall prog zai #[p, .int .i64 i] h fun r h' => ∃ u, r = .agg #[.int .i64 (lineT t i).1, u] ∧ SlI (fun b => h.size ≤ b ∧ b < h'.size) h' u (lineT t i).2 ∧ Ext h h' := by
 apply zjw
 unfold ze8
 refine zag fun bv h1 r1 e1 n1 => ?_
 obtain ⟨b, lv, rfl, c0, c1, c2, c3, hl, _⟩ := IsTbl.open (H.ext e1)
 obtain ⟨a, cap, e⟩ := hl.isSl
 have e2 : zaf lv = some (.int .i64 (t.lines.length : Int)) := by rw [e]; rfl
 simp only [go_sem, c1, e2]
 unfold lineT
 refine zab (fun h0 => ?_) (fun h0 => ?_)
 ·have e3 : (if 0 ≤ i then t.lines.getD i.toNat (0, []) else ((0, []) : Int × List Int)) = (0, []) := by
   split
   ·rw [List.getD_eq_getElem?_getD, List.getElem?_eq_none (by omega)]; rfl
   ·rfl
  rw [e3, zb7, Option.map_some, zaa]
  refine zbt (l := [.int .i64 0, .slice none 0 0]) r1 rfl (zad rfl (zad rfl zaq)) rfl fun h2 r2 u2 => ?_
  rw [zal r2 2 rfl, zaa]
  exact ⟨_, rfl, Rp.Sl.nil, e1.upd n1 u2⟩
 ·obtain ⟨k, rfl⟩ : ∃ k : Nat, i = (k : Int) := ⟨i.toNat, by omega⟩
  have hk : k < t.lines.length := by omega
  have e3 : (if (0 : Int) ≤ (k : Int) then t.lines.getD (k : Int).toNat (0, []) else ((0, []) : Int × List Int)) = t.lines[k] := by
   rw [if_pos (by omega), Int.toNat_natCast, List.getD_eq_getElem?_getD, List.getElem?_eq_getElem hk]; rfl
  rw [e3]
  obtain ⟨b2, o2, cs, i1, i2, i3, ⟨u, rfl, hu⟩, hz⟩ := Rp.Sl.atp (e := rLine) hl (show 0 < 2 by omega) (k := .i64) hk
  have i1 : idxV 2 lv (.int .i64 (k : Int)) = some (.pointer (some ⟨b2, o2, none⟩)) := i1
  have j0 := i3 0 (by simp)
  have j1 := i3 1 (by simp)
  simp only [List.getElem_cons_zero, List.getElem_cons_succ] at j0 j1
  refine zak (fun h' => Ext h1 h') (Ext.refl _) ?_
  refine zae lv (fun h' e => e.cell c1) ?_
  rw [i1]
  simp only [go_sem]
  refine zae _ (fun h' e => e.cell j0) ?_
  refine zae lv (fun h' e => e.cell c1) ?_
  rw [i1]
  simp only [go_sem]
  refine zae _ (fun h' e => e.cell j1) ?_
  have hlen := (W.taps _ (List.getElem_mem hk)).1
  refine (c_Clone64 hu (by omega)).mono fun w h3 ⟨hw, e4⟩ => ?_
  refine ⟨e4, ?_⟩
  have one := hw.one
  rw [zk2 (a := .int .i64 t.lines[k].1) rfl one, Option.map_some, zaa]
  refine zbt (l := [.int .i64 t.lines[k].1, w]) (e4.row r1) rfl (zad rfl (zad one zaq)) rfl fun h5 r5 u5 => ?_
  rw [zal r5 2 rfl, zaa]
  have hb := zaB r1
  refine ⟨w, rfl, ?_, (e1.trans e4).upd n1 u5⟩
  obtain ⟨ds, hs, hz, he⟩ := hw.fr (M := fun c => c = bv) u5.fr fun c hc hz he => by have := he ▸ hz; omega
  refine ⟨ds, hs, fun h0 c hc => ⟨?_, ?_⟩, fun i hi => he i hi⟩
  ·have := hz h0 c hc
   have := e1.1
   omega
  ·exact hs.lt h0 hc
def znl (ls : List (Int × List Int)) (x0 : Int) : Int := ls.foldl (fun m x => min m x.1) x0
def zo4 (ls : List (Int × List Int)) (x0 : Int) : Int := ls.foldl (fun m x => max m (x.1 + (x.2.length : Int))) x0
def segT (t : Tbl) (i k : Nat) : List (Int × List Int) := (t.lines.drop i).take (k - i)
def zjn (t : Tbl) (i k : Int) : Int × Int :=
 if (min k (t.lines.length : Int)) ≤ max i 0 then (0, 0)
 else let i' := (max i 0).toNat; let k' := (min k (t.lines.length : Int)).toNat; let x0 := (t.lines.getD i' (0, [])).1
  (znl (segT t i' k') x0, zo4 (segT t i' k') x0 - znl (segT t i' k') x0)
theorem zjo {β γ : Type} (f : γ → β → γ) (l : List β) {k : Nat} (h : k < l.length) (s : γ) : (l.take (k + 1)).foldl f s = f ((l.take k).foldl f s) l[k] := by
 rw [List.take_succ_eq_append_getElem h, List.foldl_append]; rfl
theorem reach_bd {ls : List (Int × List Int)} {x0 : Int} (h0 : -70368744177664 ≤ x0 ∧ x0 ≤ 70368744177664) (h : ∀ x ∈ ls, x.2.length ≤ 1048576 ∧ -70368744177664 ≤ x.1 ∧ x.1 ≤ 70368744177664) :
  (-70368744177664 ≤ znl ls x0 ∧ znl ls x0 ≤ 70368744177664) ∧ -70368744177664 ≤ zo4 ls x0 ∧ zo4 ls x0 ≤ 70369000000000 := by
 unfold znl zo4
 have k1 : ∀ (ls : List (Int × List Int)) (m : Int), (∀ x ∈ ls, x.2.length ≤ 1048576 ∧ -70368744177664 ≤ x.1 ∧ x.1 ≤ 70368744177664) → -70368744177664 ≤ m ∧ m ≤ 70368744177664 → -70368744177664 ≤ ls.foldl (fun m x => min m x.1) m ∧ ls.foldl (fun m x => min m x.1) m ≤ 70368744177664 := by
  intro ls
  induction ls with
  | nil => intro m _ h; exact h
  | cons x ls ih => intro m h hm; have := h x (by simp); exact ih _ (fun y hy => h y (by simp [hy])) (by dsimp only; omega)
 have k2 : ∀ (ls : List (Int × List Int)) (m : Int), (∀ x ∈ ls, x.2.length ≤ 1048576 ∧ -70368744177664 ≤ x.1 ∧ x.1 ≤ 70368744177664) → -70368744177664 ≤ m ∧ m ≤ 70369000000000 → -70368744177664 ≤ ls.foldl (fun m x => max m (x.1 + (x.2.length : Int))) m ∧ ls.foldl (fun m x => max m (x.1 + (x.2.length : Int))) m ≤ 70369000000000 := by
  intro ls
  induction ls with
  | nil => intro m _ h; exact h
  | cons x ls ih => intro m h hm; have := h x (by simp); exact ih _ (fun y hy => h y (by simp [hy])) (by dsimp only; omega)
 exact ⟨k1 ls x0 h h0, k2 ls x0 h (by omega)⟩
theorem c_Reach {Z : Nat → Prop} {h : Heap} {p : Value} {t : Tbl} (H : IsTbl Z h p t) (W : t.Wf) {i k : Int} (hi : I64 i) (hk : I64 k) : FCall prog zbD #[p, .int .i64 i, .int .i64 k] h fun r h' => r = .tuple #[.int .i64 (zjn t i k).1, .int .i64 (zjn t i k).2] ∧ Ext h h' := by
 apply ziK
 unfold zez
 obtain ⟨b, lv, rfl, c0, c1, c2, c3, hl, _, _, ⟨la, ln, lc, el, hlc⟩⟩ := H.open
 have e2 : zaf lv = some (.int .i64 (t.lines.length : Int)) := by
  obtain ⟨a, cap, e⟩ := hl.isSl
  rw [e]; rfl
 simp only [go_sem, c1, e2]
 unfold zjn
 refine zab (fun h0 => ?_) (fun h0 => ?_)
 ·rw [if_pos h0]; exact ⟨rfl, Ext.refl _⟩
 rw [if_neg h0]
 obtain ⟨i', hi'⟩ : ∃ i' : Nat, max i 0 = (i' : Int) := ⟨(max i 0).toNat, by omega⟩
 obtain ⟨k', hk'⟩ : ∃ k' : Nat, min k (t.lines.length : Int) = (k' : Int) := ⟨(min k (t.lines.length : Int)).toNat, by omega⟩
 simp only [hi', hk', Int.toNat_natCast] at h0 ⊢
 have hik : i' < k' := by omega
 have hkl : k' ≤ t.lines.length := by omega
 have hil : i' < t.lines.length := by omega
 have eg : t.lines.getD i' (0, []) = t.lines[i'] := by rw [List.getD_eq_getElem?_getD, List.getElem?_eq_getElem hil]; rfl
 rw [eg]
 obtain ⟨b2, o2, cs, q1, q2, q3, ⟨u, rfl, hu⟩, hz⟩ := Rp.Sl.atp (e := rLine) hl (show 0 < 2 by omega) (k := .i64) hil
 have q1 : idxV 2 lv (.int .i64 (i' : Int)) = some (.pointer (some ⟨b2, o2, none⟩)) := q1
 have j0 := q3 0 (by simp)
 simp only [List.getElem_cons_zero] at j0
 obtain ⟨lv', s1, s2⟩ := hl.part (show i' ≤ k' by omega) hkl el hlc (k := .i64) (k' := .i64)
 have s1 : slcV 2 lv (some (.int .i64 (i' : Int))) (some (.int .i64 (k' : Int))) = some lv' := s1
 simp only [go_sem, q1, j0, c1, s1]
 have hseg : (t.lines.drop i').take (k' - i') = segT t i' k' := rfl
 rw [hseg] at s2
 have hsl : (segT t i' k').length = k' - i' := by unfold segT; rw [List.length_take, List.length_drop]; omega
 have hmem : ∀ x ∈ segT t i' k', x ∈ t.lines := fun x hx => List.mem_of_mem_drop (List.mem_of_mem_take hx)
 obtain ⟨a3, c3', e3⟩ := s2.isSl
 have e4 : zaf lv' = some (.int .i64 ((segT t i' k').length : Int)) := by rw [e3]; rfl
 rw [e4, zaa]
 generalize hx0 : t.lines[i'].1 = x0
 have hw0 := W.taps _ (List.getElem_mem hil)
 rw [hx0] at hw0
 generalize hsg : segT t i' k' = sg at *
 refine zaz sg.length 0 (fun k (_ : Unit) => [.int .i64 (znl (sg.take k) x0), .int .i64 (zo4 (sg.take k) x0), .int .i64 (k : Int)]) (fun k _ h' => Ext h h') () rfl (Nat.zero_le _) (Ext.refl _) fun k _ h2 again ρj _ hk E2 Hag => ?_
 simp only [go_sem]
 refine zab (fun h3 => ?_) (fun h3 => ?_)
 ·have hk2 : k < sg.length := by omega
  obtain ⟨p2, cs2, z1, z2, ⟨u2, rfl, hu2⟩⟩ := Rp.Sl.atw (e := rLine) (s2.ext E2) (show 0 < 2 by omega) (k := .i64) hk2
  have z1 : idxV 2 lv' (.int .i64 (k : Int)) = some p2 := z1
  have z2 : ldsV 2 h2 p2 = some (.agg #[.int .i64 sg[k].1, u2]) := z2
  rw [z1, zaa, z2, zaa]
  refine zaR (cs := [.int .i64 sg[k].1, u2]) rfl (zad rfl (zad hu2.one zaq)) rfl fun bv h4 r4 e5 n5 => ?_
  obtain ⟨au, cu, eu⟩ := hu2.isSl
  have eu2 : zaf u2 = some (.int .i64 (sg[k].2.length : Int)) := by rw [eu]; rfl
  have d0 : zah h4 ⟨bv, 0, none⟩ = some (.int .i64 sg[k].1) := zac r4
  have d1 : zah h4 ⟨bv, 1, none⟩ = some u2 := zac r4
  have hw := W.taps _ (hmem _ (List.getElem_mem hk2))
  simp only [go_sem, d0, d1, eu2]
  rw [w64 (n := sg[k].1 + (sg[k].2.length : Int)) (by omega) (by omega), w64 (n := (k : Int) + 1) (by have := W.len; omega) (by have := W.len; omega)]
  have := Hag () h4 hk2 (E2.trans e5)
  unfold znl zo4 at this ⊢
  rw [zjo _ _ hk2, zjo _ _ hk2] at this
  exact this
 ·rw [List.take_of_length_le (by omega)]
  have := reach_bd (ls := sg) (x0 := x0) hw0.2 (fun x hx => W.taps x (hmem x hx))
  rw [w64 (by omega) (by omega)]
  exact ⟨rfl, E2⟩
end Go.Proofs.YtojmncnelbnceaaGreatDoor
