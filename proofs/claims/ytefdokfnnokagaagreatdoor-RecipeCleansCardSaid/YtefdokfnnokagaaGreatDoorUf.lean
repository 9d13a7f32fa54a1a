/- What each source sample weighs (raw): the program's. Conditions: none. -/
import Derived.Test.YtefdokfnnokagaaGreatDoorUe
import Derived.Test.YtefdokfnnokagaaGreatDoorTf
import Derived.Test.YtefdokfnnokagaaGreatDoorEg
import Derived.Test.YtefdokfnnokagaaGreatDoorGc
set_option linter.unusedVariables false
set_option linter.unusedSimpArgs false
set_option maxRecDepth 10000
namespace Go.Proofs.YtefdokfnnokagaaGreatDoor
open Go Go.Crisp
attribute [local irreducible] FCall rowK newK stK iteK vK qK drawK gK joinK loopK mkK appK cpyK nextStrK rangeStrK bsK

theorem c_rawMay {h : Heap} {f n m i : Int} : FCall Tryz.prog F_raw_may #[.int .i64 f, .int .i64 n, .int .i64 m, .int .i64 i] h fun r h' => r = .bool (decide (mayR f n m i)) ∧ h' = h := by
  apply ok_raw_may
  unfold sh_raw_may
  try simp only [go_sem]
  refine ⟨?_, trivial⟩
  congr 1
  rw [decide_eq_decide]
  unfold mayR
  omega
theorem c_ceil {h : Heap} {a b : Int} (ha : -9223372036854775807 ≤ a ∧ a ≤ 9223372036854775807) (hb : 0 < b) (hb2 : I64 b) : FCall Tryz.prog F_raw_ceil #[.int .i64 a, .int .i64 b] h fun r h' => r = .int .i64 (ceilD a b) ∧ h' = h := by
  apply ok_raw_ceil
  unfold sh_raw_ceil
  try simp only [go_sem]
  rw [w64 (by omega) (by omega), Int.zero_sub]
  have hi : I64 (-a) := by unfold I64; omega
  refine (c_Floor hi hb2).mono fun v1 h1 ⟨e1, w1⟩ => ?_
  subst e1 w1
  try simp only [go_sem]
  rw [floorZ_pos hi hb]
  have := floor_bd (a := -a) (b := b) (L := 9223372036854775807) (U := 9223372036854775807) (by omega) (by omega) (by omega) (by omega) (by omega)
  rw [w64 (by omega) (by omega), Int.zero_sub]
  exact ⟨rfl, trivial⟩
theorem reach_cell {h : Heap} (G : GlobB h) {f : Int} (f0 : 0 ≤ f) (f1 : f < 3) : ∃ p, idxaV 3 2 (.pointer (some ⟨G_raw_kinds, 0, none⟩)) (.int .i64 f) = some (.pointer (some ⟨G_raw_kinds, p, none⟩)) ∧ cellOf h ⟨G_raw_kinds, p + 1, none⟩ = some (.int .i64 (reachR f)) := by
  obtain ⟨n, rfl⟩ : ∃ n : Nat, f = (n : Int) := ⟨f.toNat, by omega⟩
  have hn : n < 3 := by omega
  refine ⟨2 * n, ?_, ?_⟩
  · show (if 0 ≤ (n : Int) ∧ (n : Int) < ((3 : Nat) : Int) then some (Value.pointer (some ((⟨G_raw_kinds, 0, none⟩ : Addr).add ((n : Int).toNat * 2)))) else none) = _
    rw [if_pos (by omega), add_lit, Int.toNat_natCast, Nat.zero_add, Nat.mul_comm]
  · rw [(G.kinds n hn).2]
    match n, hn with
    | 0, _ => rfl
    | 1, _ => rfl
    | 2, _ => rfl
def winV (f n m i : Int) : Value := if mayR f n m i then .tuple #[.int .i64 (lowW f n m i), .int .i64 (highW f n m i - lowW f n m i)] else .tuple #[.int .i64 0, .int .i64 0]
theorem c_Window {h : Heap} (G : GlobB h) {f n m i : Int} : FCall Tryz.prog F_raw_Window #[.int .i64 f, .int .i64 n, .int .i64 m, .int .i64 i] h fun r h' => r = winV f n m i ∧ h' = h := by
  apply ok_raw_Window
  unfold sh_raw_Window winV
  refine c_rawMay.mono fun v1 h1 ⟨e1, w1⟩ => ?_
  subst e1 w1
  try simp only [go_sem]
  refine iteK_dec (fun h0 => ?_) (fun h0 => ?_)
  · rw [if_neg h0]; exact ⟨rfl, trivial⟩
  have hm : mayR f n m i := Decidable.of_not_not h0
  rw [if_pos hm]
  have hlb := low_bd hm
  have hb := mayB hm
  obtain ⟨b1, b2, b3, b4, b5⟩ := hb
  obtain ⟨f0, f1, n0, n1, m0, m1, i0, i1⟩ := hm
  have hm64 : I64 m := by unfold I64; omega
  rw [w64 (n := i * n) (by omega) (by omega)]
  refine (c_Floor (by unfold I64; omega) hm64).mono fun v1 h1 ⟨e1, w1⟩ => ?_
  subst e1 w1
  rw [floorZ_pos (by unfold I64; omega) (by omega)]
  try simp only [go_sem]
  rw [w64 (n := i + 1) (by omega) (by omega), w64 (n := (i + 1) * n) (by omega) (by omega)]
  refine (c_ceil (by omega) (by omega) hm64).mono fun v1 h1 ⟨e1, w1⟩ => ?_
  subst e1 w1
  try simp only [go_sem]
  unfold lowW highW at hlb ⊢
  refine iteK_dec (fun hf => ?_) (fun hf => ?_)
  · have hf : f ≠ 0 := hf
    rw [if_neg hf, if_neg hf] at *
    obtain ⟨p, hp1, hp2⟩ := reach_cell G f0 f1
    simp only [go_sem, hp1, hp2]
    have hr : 0 ≤ reachR f ∧ reachR f ≤ 3 := by unfold reachR; split; omega; split <;> omega
    rw [w64 (n := 2 * i) (by omega) (by omega), w64 (n := 2 * i + 1) (by omega) (by omega), w64 (n := (2 * i + 1) * n) (by omega) (by omega), w64 (n := (2 * i + 1) * n - m) (by omega) (by omega), w64 (n := reachR f * 2) (by omega) (by omega),
      w64 (n := reachR f * 2 * max n m) (by omega) (by omega), w64 (n := (2 * i + 1) * n - m - reachR f * 2 * max n m) (by omega) (by omega), w64 (n := 2 * m) (by omega) (by omega)]
    refine (c_Floor (by unfold I64; omega) (by unfold I64; omega)).mono fun v1 h1 ⟨e1, w1⟩ => ?_
    subst e1 w1
    rw [floorZ_pos (by unfold I64; omega) (by omega)]
    try simp only [go_sem]
    rw [w64 (n := ((2 * i + 1) * n - m - reachR f * 2 * max n m) / (2 * m) + 1) (by omega) (by omega), w64 (n := (2 * i + 1) * n - m + reachR f * 2 * max n m) (by omega) (by omega)]
    refine (c_ceil (by omega) (by omega) (by unfold I64; omega)).mono fun v1 h1 ⟨e1, w1⟩ => ?_
    subst e1 w1
    try simp only [go_sem]
    rw [w64 (by omega) (by omega)]
    exact ⟨rfl, trivial⟩
  · have hf : f = 0 := Decidable.of_not_not hf
    rw [if_pos hf, if_pos hf] at *
    rw [w64 (by omega) (by omega)]
    exact ⟨rfl, trivial⟩
theorem c_Keys {h : Heap} {p q : Int} (hp : -4611686018427387904 ≤ p ∧ p ≤ 4611686018427387904) (hq : I64 q) : FCall Tryz.prog F_raw_Keys #[.int .i64 p, .int .i64 q] h fun r h' => r = .int .i64 (keysZ p q) ∧ h' = h := by
  apply ok_raw_Keys
  unfold sh_raw_Keys
  try simp only [go_sem]
  unfold keysZ
  have e0 : (((q < 1 ∨ 262144 < q) ∨ IntKind.i64.wrap (2 * q) ≤ p) ∨ p ≤ IntKind.i64.wrap (-2 * q)) ↔ (q < 1 ∨ 262144 < q ∨ 2 * q ≤ p ∨ p ≤ -2 * q) := by
    unfold I64 at hq
    by_cases hc : q < 1 ∨ 262144 < q
    · omega
    · rw [w64 (n := 2 * q) (by omega) (by omega), w64 (n := -2 * q) (by omega) (by omega)]; omega
  refine iteK_dec (fun h0 => ?_) (fun h0 => ?_)
  · rw [if_pos (e0.1 h0)]; exact ⟨rfl, trivial⟩
  rw [if_neg fun hh => h0 (e0.2 hh)]
  have e1 : IntKind.i64.wrap (0 - p) = -p := by rw [w64 (by omega) (by omega)]; omega
  rw [e1]
  generalize max p (-p) = a
  simp only [wrap_mul_l, wrap_mul_r, wrap_add_l, wrap_add_r, wrap_sub_l, wrap_sub_r]
  have e2 : 2 * q * q * q = 2 * (q * q * q) := by grind
  rw [e2]
  unfold cubicZ
  refine iteK_dec (fun h1 => ?_) (fun h1 => ?_)
  · rw [if_pos h1]
    have e3 : (0 - a) * a * a + 5 * a * a * q - 8 * a * q * q + 4 * q * q * q = 4 * (q * q * q) + 5 * (a * a * q) - a * a * a - 8 * (a * q * q) := by grind
    rw [e3]
    exact c_MulDiv (wrap_I64 _) (by unfold I64; omega) (wrap_I64 _)
  · rw [if_neg h1]
    have e3 : 3 * a * a * a - 5 * a * a * q + 2 * (q * q * q) = 3 * (a * a * a) - 5 * (a * a * q) + 2 * (q * q * q) := by grind
    rw [e3]
    exact c_MulDiv (wrap_I64 _) (by unfold I64; omega) (wrap_I64 _)
theorem c_weigh {h : Heap} {f n m i j : Int} (hm : mayR f n m i) (hj : -1048576 * 65536 ≤ j ∧ j ≤ 1048576 * 65536) : FCall Tryz.prog F_raw_weigh #[.int .i64 f, .int .i64 n, .int .i64 m, .int .i64 i, .int .i64 j] h fun r h' => r = .int .i64 (weighZ f n m i j) ∧ h' = h := by
  apply ok_raw_weigh
  unfold sh_raw_weigh
  try simp only [go_sem]
  have hb := mayB hm
  obtain ⟨b1, b2, b3, b4, b5⟩ := hb
  obtain ⟨f0, f1, n0, n1, m0, m1, i0, i1⟩ := hm
  unfold weighZ
  have hjm := mul_bd2 (a := j) (A := 1048576 * 65536) (b := m) (B := 65536) (by omega) (by omega) (by omega) (by omega)
  have hj1 : (j + 1) * m = j * m + m := by rw [Int.add_mul, Int.one_mul]
  have hj2 : 2 * m * j = 2 * (j * m) := by rw [Int.mul_assoc, Int.mul_comm m j]
  refine iteK_dec (fun hf => ?_) (fun hf => ?_)
  · rw [if_pos hf]
    rw [w64 (n := i + 1) (by omega) (by omega), w64 (n := (i + 1) * n) (by omega) (by omega), w64 (n := j + 1) (by omega) (by omega), w64 (n := (j + 1) * m) (by omega) (by omega), w64 (n := i * n) (by omega) (by omega), w64 (n := j * m) (by omega) (by omega), w64 (by omega) (by omega)]
    exact c_MulDiv (by unfold I64; omega) (by unfold I64; omega) (by unfold I64; omega)
  rw [if_neg hf, w64 (n := 2 * m) (by omega) (by omega), w64 (n := 2 * m * j) (by omega) (by omega), w64 (n := 2 * i) (by omega) (by omega), w64 (n := 2 * i + 1) (by omega) (by omega), w64 (n := (2 * i + 1) * n) (by omega) (by omega),
    w64 (n := 2 * m * j - (2 * i + 1) * n) (by omega) (by omega), w64 (n := 2 * m * j - (2 * i + 1) * n + m) (by omega) (by omega), w64 (n := 2 * max n m) (by omega) (by omega)]
  refine iteK_dec (fun hf1 => ?_) (fun hf1 => ?_)
  · rw [if_pos hf1]
    exact c_Keys (by omega) (by unfold I64; omega)
  · rw [if_neg hf1]
    exact c_Lanczos (by unfold I64; omega) (by unfold I64; omega)
/-- The first one, and all weights. -/
def rowFirst (f n m i : Int) : Int := if mayR f n m i then lowW f n m i else 0
def rowAll (f n m i : Int) : List Int := if mayR f n m i then rowW f n m i else []
theorem take_range_map {β : Type} (g : Nat → β) (n k : Nat) (h : k < n) : ((List.range n).map g).take (k + 1) = ((List.range n).map g).take k ++ [g k] := by
  rw [List.take_succ_eq_append_getElem (by simpa using h)]
  simp
theorem c_rawRow {h : Heap} (G : GlobB h) {f n m i : Int} : FCall Tryz.prog F_raw_Row #[.int .i64 f, .int .i64 n, .int .i64 m, .int .i64 i] h fun r h' =>
    ∃ v, r = .tuple #[.int .i64 (rowFirst f n m i), v] ∧ New (Rp.int .i64) h h' v (rowAll f n m i) := by
  apply ok_raw_Row
  unfold sh_raw_Row
  refine (c_Window G).mono fun v1 h1 ⟨e1, w1⟩ => ?_
  subst e1 w1
  unfold rowFirst rowAll winV
  by_cases hm : mayR f n m i
  · rw [if_pos hm, if_pos hm, if_pos hm]
    try simp only [go_sem]
    have hlb := low_bd hm
    obtain ⟨N, hN⟩ : ∃ N, N = (highW f n m i - lowW f n m i).toNat := ⟨_, rfl⟩
    refine loop_g N 0 (fun k v => [v, .int .i64 (k : Int)]) (fun k v h' => New (Rp.int .i64) h1 h' v ((rowW f n m i).take k)) (.slice none 0 0) rfl (Nat.zero_le _) (New.nil (Ext.refl _)) fun k v h2 again ρj _ hk hI H => ?_
    try simp only [go_sem]
    have hl : (rowW f n m i).length = N := by unfold rowW; rw [List.length_map, List.length_range, hN]
    refine iteK_dec (fun h0 => ?_) (fun h0 => ?_)
    · rw [w64 (n := lowW f n m i + (k : Int)) (by omega) (by omega)]
      refine (c_weigh hm (by omega)).mono fun v2 h3 ⟨e2, w2⟩ => ?_
      subst e2 w2
      have hlen : ((rowW f n m i).take k).length = k := by rw [List.length_take]; omega
      refine hI.push_int rfl (by rw [hlen]; omega) (by rw [hlen]; omega) fun s' h' H' => ?_
      try simp only [go_sem]
      rw [w64 (by omega) (by omega)]
      have := H s' h' (by omega) (by
        have e := take_range_map (fun k : Nat => weighZ f n m i (lowW f n m i + k)) (highW f n m i - lowW f n m i).toNat k (by omega)
        unfold rowW at H' ⊢
        rw [e]
        exact H')
      exact this
    · rw [List.take_of_length_le (by omega)] at hI
      exact ⟨v, rfl, hI⟩
  · rw [if_neg hm, if_neg hm, if_neg hm]
    try simp only [go_sem]
    refine loop_st (fun k => [.slice none 0 0, .int .i64 (k : Int)]) 0 0 rfl (Nat.le_refl _) fun k again ρj _ hk _ => ?_
    have : k = 0 := by omega
    subst this
    try simp only [go_sem]
    refine iteK_dec (fun h0 => absurd h0 (by omega)) (fun h0 => ?_)
    exact ⟨_, rfl, New.nil (Ext.refl _)⟩
end Go.Proofs.YtefdokfnnokagaaGreatDoor
