/- Products that are longer than a number (wide): MulDiv, MulShift. Conditions: none. -/
import Derived.Test.YtefdokfnnokagaaGreatDoorUc
set_option linter.unusedVariables false
set_option linter.unusedSimpArgs false
set_option maxRecDepth 10000
namespace Go.Proofs.YtefdokfnnokagaaGreatDoor
open Go Go.Crisp
attribute [local irreducible] FCall rowK newK stK iteK vK qK drawK gK joinK loopK mkK appK cpyK nextStrK rangeStrK bsK

theorem holdZ_sat {m n : Nat} {b : Bool} (hm : 9223372036854775808 ≤ m) (hn : 9223372036854775808 ≤ n) : holdZ m b = holdZ n b := by
  unfold holdZ
  cases b
  · simp only [Bool.false_eq_true, if_false]
    rw [if_pos (by omega), if_pos (by omega)]
  · simp only [if_true]
    rw [if_pos (by omega), if_pos (by omega)]
theorem prod_lt {a b : Int} (ha : I64 a) (hb : I64 b) : a.natAbs * b.natAbs ≤ 85070591730234615865843651857942052864 := by
  have h1 := natAbs_le ha
  have h2 := natAbs_le hb
  exact Nat.le_trans (Nat.mul_le_mul h1 h2) (by decide)
theorem div_le_128 {m n : Nat} (h : m ≤ 85070591730234615865843651857942052864) : m / n ≤ 85070591730234615865843651857942052864 := Nat.le_trans (Nat.div_le_self _ _) h
theorem c_MulDiv {h : Heap} {a b d : Int} (ha : I64 a) (hb : I64 b) (hd : I64 d) : FCall Tryz.prog F_wide_MulDiv #[.int .i64 a, .int .i64 b, .int .i64 d] h fun r h' => r = .int .i64 (mulDivZ a b d) ∧ h' = h := by
  apply ok_wide_MulDiv
  unfold sh_wide_MulDiv
  simp only [go_sem]
  unfold mulDivZ
  refine iteK_dec (fun h0 => ?_) (fun h0 => ?_)
  · rw [if_pos h0]; exact ⟨rfl, trivial⟩
  rw [if_neg h0]
  have hm := prod_lt ha hb
  refine (c_product ha hb).mono fun v1 h1 ⟨e1, w1⟩ => ?_
  subst e1 w1
  simp only [go_sem]
  refine (c_wideSize hd).mono fun v2 h2 ⟨e2, w2⟩ => ?_
  subst e2 w2
  have hd1 := natAbs_le hd
  have hd0 : 0 < d.natAbs := by omega
  obtain ⟨m, hme⟩ : ∃ m, m = a.natAbs * b.natAbs := ⟨_, rfl⟩
  obtain ⟨bl, hbl⟩ : ∃ bl, bl = (diffS a b != decide (d < 0)) := ⟨_, rfl⟩
  obtain ⟨D, hD⟩ : ∃ D, D = d.natAbs := ⟨_, rfl⟩
  have hbl' : (!(diffS a b == decide (d < 0))) = bl := hbl.symm
  rw [← hme] at hm ⊢
  rw [← hbl, hbl', ← hD]
  rw [← hD] at hd0 hd1
  have hq : m / D ≤ 85070591730234615865843651857942052864 := div_le_128 hm
  simp only [go_sem]
  refine iteK_dec (fun h1 => ?_) (fun h1 => ?_)
  · have hge : 18446744073709551616 ≤ m / D := by
      rw [Nat.le_div_iff_mul_le hd0]
      have h2 : D ≤ m / 18446744073709551616 := by omega
      have := (Nat.le_div_iff_mul_le (show 0 < 18446744073709551616 by omega)).1 h2
      rw [Nat.mul_comm]; exact this
    refine (c_signed (m := 18446744073709551616) (b := bl) (by omega)).mono fun v h' ⟨e, w⟩ => ⟨?_, w⟩
    rw [e, holdZ_sat (by omega) (n := nearN m D bl)]
    unfold nearN
    omega
  · have hlt : m / 18446744073709551616 < D := by omega
    have hqlt : m / D < 18446744073709551616 := by
      rw [Nat.div_lt_iff_lt_mul hd0, Nat.mul_comm]
      exact (Nat.div_lt_iff_lt_mul (by omega)).1 hlt
    refine (c_Div64 hlt (Nat.mod_lt _ (by omega)) (by omega)).mono fun v h2 ⟨e, w⟩ => ?_
    subst e w
    have hmm : m / 18446744073709551616 * 18446744073709551616 + m % 18446744073709551616 = m := by
      rw [Nat.mul_comm]; exact Nat.div_add_mod _ _
    rw [hmm]
    simp only [go_sem]
    have hr : m % D < D := Nat.mod_lt _ hd0
    rw [show (D : Int) - ((m % D : Nat) : Int) = ((D - m % D : Nat) : Int) by omega, u64_nat (m := D - m % D) (by omega)]
    have fin : ∀ up : Nat, up ≤ 1 → nearN m D bl = m / D + up → FCall Tryz.prog F_math_bits_Add64 #[.int .u64 ((m / D : Nat) : Int), .int .u64 (up : Int), .int .u64 0] h2 fun v31 h32 =>
        vK (extV v31 0) fun v33 => vK (extV v31 1) fun v34 => FCall Tryz.prog F_wide_signed #[v34, v33, .bool bl] h32 fun v35 h36 => v35 = .int .i64 (holdZ (nearN m D bl) bl) ∧ h36 = h2 := by
      intro up hup hn
      refine (c_Add64 (x := m / D) (y := up) (c := 0) (by omega)).mono fun v h3 ⟨e, w⟩ => ?_
      subst e w
      simp only [go_sem]
      refine (c_signed (m := m / D + up + 0) (b := bl) (by omega)).mono fun v h' ⟨e, w⟩ => ⟨?_, w⟩
      rw [e, hn]; rfl
    cases hb2 : bl
    · rw [hb2] at fin
      simp only [go_sem]
      refine iteK_dec (fun h3 => ?_) (fun h3 => ?_)
      · refine fin 1 (by omega) ?_
        unfold nearN
        simp only [Bool.false_eq_true, if_false]
        rw [if_pos (by omega)]
      · refine fin 0 (by omega) ?_
        unfold nearN
        simp only [Bool.false_eq_true, if_false]
        rw [if_neg (by omega)]
    · rw [hb2] at fin
      simp only [go_sem]
      by_cases h3 : D - m % D < m % D
      · have e3 : (((D - m % D : Nat) : Int) < ((m % D : Nat) : Int)) = True := eq_true (by omega)
        simp only [go_sem, e3]
        refine fin 1 (by omega) ?_
        unfold nearN
        simp only [if_true]
        rw [if_pos (by omega)]
      · have e3 : (((D - m % D : Nat) : Int) < ((m % D : Nat) : Int)) = False := eq_false (by omega)
        simp only [go_sem, e3]
        refine fin 0 (by omega) ?_
        unfold nearN
        simp only [if_true]
        rw [if_neg (by omega)]
/-! ### by bits -/
theorem c_wideShift {h : Heap} {m n : Nat} (hm : m < 340282366920938463463374607431768211456) (hn : n < 128) :
    FCall Tryz.prog F_wide_shift #[.int .u64 ((m / 18446744073709551616 : Nat) : Int), .int .u64 ((m % 18446744073709551616 : Nat) : Int), .int .i64 (n : Int)] h fun r h' =>
      r = .tuple #[.int .u64 ((m / 2 ^ n / 18446744073709551616 : Nat) : Int), .int .u64 ((m / 2 ^ n % 18446744073709551616 : Nat) : Int)] ∧ h' = h := by
  apply ok_wide_shift
  unfold sh_wide_shift
  simp only [go_sem]
  have hhi : m / 18446744073709551616 < 18446744073709551616 := by omega
  refine iteK_dec (fun h0 => ?_) (fun h0 => ?_)
  · rw [w64 (n := (n : Int) - 64) (by omega) (by omega), show (n : Int) - 64 = ((n - 64 : Nat) : Int) by omega, shr_u64 _ (by omega), vK_some]
    refine ⟨?_, trivial⟩
    have e : m / 2 ^ n = m / 18446744073709551616 / 2 ^ (n - 64) := by
      rw [Nat.div_div_eq_div_mul, show (18446744073709551616 : Nat) = 2 ^ 64 from rfl, ← Nat.pow_add, show 64 + (n - 64) = n by omega]
    have hlt : m / 18446744073709551616 / 2 ^ (n - 64) < 18446744073709551616 := Nat.lt_of_le_of_lt (Nat.div_le_self _ _) hhi
    rw [e, Nat.div_eq_of_lt hlt, Nat.mod_eq_of_lt hlt]
    rfl
  · have hn64 : n < 64 := by omega
    rw [shr_u64 _ (by omega), vK_some, shr_u64 _ (by omega), vK_some]
    rw [w64 (n := 64 - (n : Int)) (by omega) (by omega), show (64 : Int) - (n : Int) = ((64 - n : Nat) : Int) by omega, shl_u64 _ (by omega), vK_some]
    have hlow : m % 18446744073709551616 < 18446744073709551616 := Nat.mod_lt _ (by omega)
    have h2 : m % 18446744073709551616 / 2 ^ n < 18446744073709551616 := Nat.lt_of_le_of_lt (Nat.div_le_self _ _) hlow
    rw [or_u64 h2 (Nat.mod_lt _ (by omega)), vK_some]
    refine ⟨?_, trivial⟩
    have hp : (0 : Nat) < 2 ^ n := Nat.pow_pos (by omega)
    have hp64 : (18446744073709551616 : Nat) = 2 ^ n * 2 ^ (64 - n) := by rw [← Nat.pow_add, show n + (64 - n) = 64 by omega]
    have hlow2 : m % 18446744073709551616 / 2 ^ n < 2 ^ (64 - n) := by
      rw [Nat.div_lt_iff_lt_mul hp, Nat.mul_comm, ← hp64]; exact hlow
    -- the low half of what is above
    have e1 : m / 2 ^ n = m / 18446744073709551616 * 2 ^ (64 - n) + m % 18446744073709551616 / 2 ^ n := by
      have e := Nat.div_add_mod m 18446744073709551616
      have e2 : m = m % 18446744073709551616 + 2 ^ n * (m / 18446744073709551616 * 2 ^ (64 - n)) := by
        have : 2 ^ n * (m / 18446744073709551616 * 2 ^ (64 - n)) = 18446744073709551616 * (m / 18446744073709551616) := by
          rw [hp64, Nat.mul_left_comm, Nat.mul_comm]
        rw [this]; omega
      conv => lhs; rw [e2]
      rw [Nat.add_mul_div_left _ _ hp, Nat.add_comm]
    have e3 : m / 18446744073709551616 * 2 ^ (64 - n) % 18446744073709551616 = m / 18446744073709551616 % 2 ^ n * 2 ^ (64 - n) := by
      have : (18446744073709551616 : Nat) = 2 ^ n * 2 ^ (64 - n) := hp64
      conv => lhs; rhs; rw [this]
      exact Nat.mul_mod_mul_right _ _ _
    rw [e3, Nat.or_comm, or_shift hlow2]
    generalize hHi : m / 18446744073709551616 = Hi at *
    have e4 : m / 2 ^ n / 18446744073709551616 = Hi / 2 ^ n := by
      rw [Nat.div_div_eq_div_mul, Nat.mul_comm, ← Nat.div_div_eq_div_mul, hHi]
    have e5 : m / 2 ^ n % 18446744073709551616 = Hi % 2 ^ n * 2 ^ (64 - n) + m % 18446744073709551616 / 2 ^ n := by
      rw [e1]
      have hd := Nat.div_add_mod Hi (2 ^ n)
      have : Hi * 2 ^ (64 - n) = Hi % 2 ^ n * 2 ^ (64 - n) + 18446744073709551616 * (Hi / 2 ^ n) := by
        conv => lhs; rw [← hd]
        rw [Nat.add_mul, Nat.add_comm, Nat.mul_right_comm, ← hp64]
      rw [this, Nat.add_right_comm, Nat.add_mul_mod_self_left, Nat.mod_eq_of_lt]
      have h6 : Hi % 2 ^ n + 1 ≤ 2 ^ n := Nat.mod_lt _ hp
      have h7 : (Hi % 2 ^ n + 1) * 2 ^ (64 - n) ≤ 2 ^ n * 2 ^ (64 - n) := Nat.mul_le_mul_right _ h6
      rw [← hp64, Nat.add_mul, Nat.one_mul] at h7
      exact Nat.lt_of_lt_of_le (Nat.add_lt_add_left hlow2 _) h7
    rw [e4, e5]
theorem c_exact {h : Heap} {m n : Nat} (hm : m < 340282366920938463463374607431768211456) (hn : n < 128) :
    FCall Tryz.prog F_wide_exact #[.int .u64 ((m / 18446744073709551616 : Nat) : Int), .int .u64 ((m % 18446744073709551616 : Nat) : Int), .int .i64 (n : Int)] h fun r h' => r = .bool (decide (m % 2 ^ n = 0)) ∧ h' = h := by
  apply ok_wide_exact
  unfold sh_wide_exact
  simp only [go_sem]
  have shlz : ∀ (a k : Nat), k ≤ 64 → (a * 2 ^ (64 - k) % 18446744073709551616 = 0 ↔ a % 2 ^ k = 0) := by
    intro a k hk
    have hp64 : (18446744073709551616 : Nat) = 2 ^ k * 2 ^ (64 - k) := by rw [← Nat.pow_add, show k + (64 - k) = 64 by omega]
    rw [hp64, Nat.mul_mod_mul_right]
    have : 0 < 2 ^ (64 - k) := Nat.pow_pos (by omega)
    constructor
    · intro h; rcases Nat.mul_eq_zero.1 h with h | h <;> omega
    · intro h; rw [h, Nat.zero_mul]
  refine iteK_dec (fun h0 => ?_) (fun h0 => ?_)
  · -- n ≥ 64
    have e : (2 : Nat) ^ n = 18446744073709551616 * 2 ^ (n - 64) := by rw [show (18446744073709551616 : Nat) = 2 ^ 64 from rfl, ← Nat.pow_add, show 64 + (n - 64) = n by omega]
    have key : m % 2 ^ n = 0 ↔ m % 18446744073709551616 = 0 ∧ m / 18446744073709551616 % 2 ^ (n - 64) = 0 := by
      rw [e, Nat.mod_mul]
      constructor
      · intro h; have h1 : m % 18446744073709551616 = 0 := by omega
        refine ⟨h1, ?_⟩
        rw [h1, Nat.zero_add] at h
        rcases Nat.mul_eq_zero.1 h with h | h
        · omega
        · exact h
      · rintro ⟨h1, h2⟩; rw [h1, h2]
    by_cases hl : m % 18446744073709551616 = 0
    · have q : (((m % 18446744073709551616 : Nat) : Int) = 0) = True := eq_true (by omega)
      simp only [go_sem, q]
      rw [w64 (n := 128 - (n : Int)) (by omega) (by omega), show (128 : Int) - (n : Int) = ((64 - (n - 64) : Nat) : Int) by omega, shl_u64 _ (by omega), vK_some]
      simp only [go_sem]
      refine ⟨?_, trivial⟩
      congr 1
      rw [decide_eq_decide]
      have := shlz (m / 18446744073709551616) (n - 64) (by omega)
      constructor
      · intro h; exact key.2 ⟨hl, this.1 (by omega)⟩
      · intro h; have := this.2 (key.1 h).2; omega
    · have q : (((m % 18446744073709551616 : Nat) : Int) = 0) = False := eq_false (by omega)
      simp only [go_sem, q]
      refine ⟨?_, trivial⟩
      congr 1
      rw [Eq.comm, decide_eq_false_iff_not]
      exact fun h => hl (key.1 h).1
  · rw [w64 (n := 64 - (n : Int)) (by omega) (by omega), show (64 : Int) - (n : Int) = ((64 - n : Nat) : Int) by omega, shl_u64 _ (by omega), vK_some]
    simp only [go_sem]
    refine ⟨?_, trivial⟩
    congr 1
    rw [decide_eq_decide]
    have := shlz (m % 18446744073709551616) n (by omega)
    have e : m % 18446744073709551616 % 2 ^ n = m % 2 ^ n := by
      have hp64 : (18446744073709551616 : Nat) = 2 ^ n * 2 ^ (64 - n) := by rw [← Nat.pow_add, show n + (64 - n) = 64 by omega]
      rw [hp64, Nat.mod_mul_right_mod]
    rw [e] at this
    constructor
    · intro h; exact this.1 (by omega)
    · intro h; have := this.2 h; omega
theorem c_MulShift {h : Heap} {a b n : Int} (ha : I64 a) (hb : I64 b) (hn : I64 n) : FCall Tryz.prog F_wide_MulShift #[.int .i64 a, .int .i64 b, .int .i64 n] h fun r h' => r = .int .i64 (mulShiftZ a b n) ∧ h' = h := by
  apply ok_wide_MulShift
  unfold sh_wide_MulShift
  simp only [go_sem]
  have hm := prod_lt ha hb
  unfold mulShiftZ
  refine iteK_dec (fun h0 => ?_) (fun h0 => ?_)
  · rw [if_pos (by omega)]; exact ⟨rfl, trivial⟩
  rw [if_neg (by omega)]
  have hnn : max 0 n = ((n.toNat : Nat) : Int) := by omega
  rw [hnn] at h0 ⊢
  obtain ⟨k, hk⟩ : ∃ k, k = n.toNat := ⟨_, rfl⟩
  rw [← hk] at h0 ⊢
  refine (c_product ha hb).mono fun v1 h1 ⟨e1, w1⟩ => ?_
  subst e1 w1
  obtain ⟨m, hme⟩ : ∃ m, m = a.natAbs * b.natAbs := ⟨_, rfl⟩
  obtain ⟨bl, hbl⟩ : ∃ bl, bl = diffS a b := ⟨_, rfl⟩
  rw [← hme] at hm ⊢
  rw [← hbl]
  simp only [go_sem]
  unfold shiftN
  refine iteK_dec (fun h1 => ?_) (fun h1 => ?_)
  · rw [if_pos (by omega)]
    exact c_signed (by omega)
  rw [if_neg (by omega)]
  refine (c_wideShift (m := m) (n := k) (by omega) (by omega)).mono fun v h2 ⟨e, w⟩ => ?_
  subst e w
  simp only [go_sem]
  rw [w64 (n := (k : Int) - 1) (by omega) (by omega), show (k : Int) - 1 = ((k - 1 : Nat) : Int) by omega]
  refine (c_wideShift (m := m) (n := k - 1) (by omega) (by omega)).mono fun v h3 ⟨e, w⟩ => ?_
  subst e w
  simp only [go_sem]
  have hqk : m / 2 ^ k ≤ 85070591730234615865843651857942052864 := div_le_128 hm
  rw [and_one_u64 (Nat.mod_lt _ (by omega)), vK_some, show m / 2 ^ (k - 1) % 18446744073709551616 % 2 = m / 2 ^ (k - 1) % 2 by omega]
  have fin1 : FCall Tryz.prog F_wide_signed #[.int .u64 ((m / 2 ^ k / 18446744073709551616 : Nat) : Int), .int .u64 ((m / 2 ^ k % 18446744073709551616 : Nat) : Int), .bool bl] h3 fun v35 h36 => v35 = .int .i64 (holdZ (m / 2 ^ k + 0) bl) ∧ h36 = h3 := c_signed (by omega)
  have fin2 : FCall Tryz.prog F_math_bits_Add64 #[.int .u64 ((m / 2 ^ k % 18446744073709551616 : Nat) : Int), .int .u64 1, .int .u64 0] h3 fun v31 h32 =>
        vK (extV v31 0) fun v33 => vK (extV v31 1) fun v34 => vK (binV .i .add (.int .u64 ((m / 2 ^ k / 18446744073709551616 : Nat) : Int)) v34) fun v38 =>
        FCall Tryz.prog F_wide_signed #[v38, v33, .bool bl] h32 fun v35 h36 => v35 = .int .i64 (holdZ (m / 2 ^ k + 1) bl) ∧ h36 = h3 := by
    refine (c_Add64 (x := m / 2 ^ k % 18446744073709551616) (y := 1) (c := 0) (by omega)).mono fun v h4 ⟨e, w⟩ => ?_
    subst e w
    simp only [go_sem]
    generalize m / 2 ^ k = M at *
    have e1 : (M % 18446744073709551616 + 1 + 0) % 18446744073709551616 = (M + 1) % 18446744073709551616 := by omega
    have e2 : ((M / 18446744073709551616 : Nat) : Int) + (((M % 18446744073709551616 + 1 + 0) / 18446744073709551616 : Nat) : Int) = (((M + 1) / 18446744073709551616 : Nat) : Int) := by omega
    rw [e1, e2, u64_nat (by omega)]
    exact c_signed (by omega)
  by_cases hh : m / 2 ^ (k - 1) % 2 = 0
  · have q : (((m / 2 ^ (k - 1) % 2 : Nat) : Int) = 0) = True := eq_true (by omega)
    simp only [go_sem, q]
    rw [if_neg (fun h => by omega)]
    exact fin1
  · have q : (((m / 2 ^ (k - 1) % 2 : Nat) : Int) = 0) = False := eq_false (by omega)
    simp only [go_sem, q]
    have hh1 : m / 2 ^ (k - 1) % 2 = 1 := by omega
    cases hb2 : bl
    · rw [hb2] at fin2
      simp only [go_sem]
      rw [if_pos ⟨hh1, by simp⟩]
      exact fin2
    · rw [hb2] at fin1 fin2
      simp only [go_sem]
      rw [w64 (n := (k : Int) - 1) (by omega) (by omega), show (k : Int) - 1 = ((k - 1 : Nat) : Int) by omega]
      refine (c_exact (m := m) (n := k - 1) (by omega) (by omega)).mono fun v h4 ⟨e, w⟩ => ?_
      subst e w
      try simp only [go_sem]
      refine iteK_dec (fun h5 => ?_) (fun h5 => ?_)
      · rw [if_neg (fun h => h.2 ⟨trivial, h5⟩)]
        exact fin1
      · rw [if_pos ⟨hh1, fun h => h5 h.2⟩]
        exact fin2
end Go.Proofs.YtefdokfnnokagaaGreatDoor
