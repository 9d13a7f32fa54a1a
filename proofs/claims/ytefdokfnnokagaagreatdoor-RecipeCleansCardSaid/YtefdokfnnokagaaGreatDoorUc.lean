/- Products that are longer than a number (wide): the division of 128 bits by 64 (bits.Div64). Conditions: none. -/
import Derived.Test.YtefdokfnnokagaaGreatDoorUb
import Derived.Test.YtefdokfnnokagaaGreatDoorTb
import Derived.Lib.ItoaNum
set_option linter.unusedVariables false
set_option linter.unusedSimpArgs false
set_option maxRecDepth 10000
namespace Go.Proofs.YtefdokfnnokagaaGreatDoor
open Go Go.Crisp
attribute [local irreducible] FCall rowK newK stK iteK vK qK drawK gK joinK loopK mkK appK cpyK nextStrK rangeStrK bsK

theorem shr_u64 {a n : Nat} (k' : IntKind) (hn : n ≤ 64) : binV .i .shr (.int .u64 (a : Int)) (.int k' (n : Int)) = some (.int .u64 ((a / 2 ^ n : Nat) : Int)) := by
  show (if (n : Int) < 0 then none else some (Value.int .u64 ((a : Int).fdiv (2 ^ (min (n : Int).toNat 64))))) = _
  rw [if_neg (by omega), Int.toNat_natCast, Nat.min_eq_left hn, Int.fdiv_eq_ediv_of_nonneg _ (Int.le_of_lt (Int.pow_pos (by omega)))]
  simp
theorem shl_u64 {a n : Nat} (k' : IntKind) (hn : n ≤ 64) : binV .i .shl (.int .u64 (a : Int)) (.int k' (n : Int)) = some (.int .u64 ((a * 2 ^ n % 18446744073709551616 : Nat) : Int)) := by
  show (if (n : Int) < 0 then none else some (Value.int .u64 (IntKind.u64.wrap ((a : Int) * (2 ^ (min (n : Int).toNat 64)))))) = _
  rw [if_neg (by omega), Int.toNat_natCast, Nat.min_eq_left hn, wrapU64]
  simp
theorem toNat_ofInt_nat (a : Nat) (h : a < 18446744073709551616) : (BitVec.ofInt 64 (a : Int)).toNat = a := by
  rw [BitVec.toNat_ofInt]; simp only [Nat.reducePow]; omega
theorem or_u64 {a b : Nat} (ha : a < 18446744073709551616) (hb : b < 18446744073709551616) : binV .i .or (.int .u64 (a : Int)) (.int .u64 (b : Int)) = some (.int .u64 ((a ||| b : Nat) : Int)) := by
  show some (Value.int .u64 (IntKind.u64.wrap (((BitVec.ofInt 64 (a : Int) ||| BitVec.ofInt 64 (b : Int)).toNat : Nat) : Int))) = _
  rw [BitVec.toNat_or, toNat_ofInt_nat a ha, toNat_ofInt_nat b hb, u64_nat]
  exact Nat.or_lt_two_pow (n := 64) ha hb
theorem and_u64 {a b : Nat} (ha : a < 18446744073709551616) (hb : b < 18446744073709551616) : binV .i .and (.int .u64 (a : Int)) (.int .u64 (b : Int)) = some (.int .u64 ((a &&& b : Nat) : Int)) := by
  show some (Value.int .u64 (IntKind.u64.wrap (((BitVec.ofInt 64 (a : Int) &&& BitVec.ofInt 64 (b : Int)).toNat : Nat) : Int))) = _
  rw [BitVec.toNat_and, toNat_ofInt_nat a ha, toNat_ofInt_nat b hb, u64_nat]
  exact Nat.lt_of_le_of_lt Nat.and_le_left ha
theorem and_mask32 {a : Nat} (ha : a < 18446744073709551616) : binV .i .and (.int .u64 (a : Int)) (.int .u64 4294967295) = some (.int .u64 ((a % 4294967296 : Nat) : Int)) := by
  rw [show (4294967295 : Int) = ((4294967295 : Nat) : Int) from rfl, and_u64 ha (by omega)]
  have := Nat.and_two_pow_sub_one_eq_mod a 32
  simp only [Nat.reducePow, Nat.reduceSub] at this
  rw [this]
theorem and_one_u64 {a : Nat} (ha : a < 18446744073709551616) : binV .i .and (.int .u64 (a : Int)) (.int .u64 1) = some (.int .u64 ((a % 2 : Nat) : Int)) := by
  rw [show (1 : Int) = ((1 : Nat) : Int) from rfl, and_u64 ha (by omega), Nat.and_one_is_mod]
theorem or_shift {a b s : Nat} (hb : b < 2 ^ s) : a * 2 ^ s ||| b = a * 2 ^ s + b := by
  rw [Nat.mul_comm, Nat.two_pow_add_eq_or_of_lt hb]
theorem cvu {n : Nat} (k : IntKind) (h : n < 18446744073709551616) : cviV .u64 (.int k (n : Int)) = some (.int .u64 (n : Int)) := by
  rw [cviV_int, u64_nat h]

theorem join_digits {H a b c u : Nat} (h : H = a * 18446744073709551616 + u) (hu : u = b * 4294967296 + c) : H = (a * 4294967296 + b) * 4294967296 + c := by
  rw [h, hu, Nat.add_mul, Nat.mul_assoc]
  simp only [Nat.reduceMul, Nat.add_assoc]
/-- A guess that goes down until it fits. -/
theorem guess_loop {u d Y yn1 yn0 : Nat} {h : Heap} (hY : Y = yn1 * 4294967296 + yn0) (h0 : yn0 < 4294967296) (h1 : 2147483648 ≤ yn1) (h1' : yn1 < 4294967296) (hu : u < Y) (hd : d < 4294967296)
    {init : List Value} {body : List Value → Env → Heap → (List Value → Heap → Prop) → Prop} (P : Nat → Nat → List Value) (hi : init = P (u / yn1) (u - u / yn1 * yn1))
    (step : ∀ q r again ρj, q < 4294967298 → r < 4294967296 → (∀ q' r', q' = q - 1 → r' = r + yn1 → 1 ≤ q → (4294967296 ≤ q ∨ 4294967296 * r + d < q * yn0) → r' < 4294967296 → again (P q' r') h) →
      ((4294967296 ≤ q ∨ 4294967296 * r + d < q * yn0) → 1 ≤ q → 4294967296 ≤ r + yn1 → q - 1 = (u * 4294967296 + d) / Y) → (¬ (4294967296 ≤ q ∨ 4294967296 * r + d < q * yn0) → q = (u * 4294967296 + d) / Y) → ((4294967296 ≤ q ∨ 4294967296 * r + d < q * yn0) → 1 ≤ q) →
      body (P q r) ρj h again) : loopK init h body := by
  have hle := guess_le h1 hY h0 hu
  refine loopK_var (fun m xs h' => h' = h ∧ ∃ q r, m = q ∧ xs = P q r ∧ Guess u d Y yn1 yn0 q r ∧ q < 4294967298 ∧ r < 4294967296) (u / yn1) ⟨rfl, u / yn1, u - u / yn1 * yn1, rfl, hi, guess_first hY h1 hu hd, hle, ?_⟩ ?_
  · have := Nat.div_add_mod u yn1
    have h2 := Nat.mod_lt u (show yn1 > 0 by omega)
    rw [Nat.mul_comm] at this
    omega
  · rintro m xs ρj h' again ⟨hh, q, r, hm, rfl, g, hq, hr⟩ H
    have hm := hm.symm
    subst hh hm
    refine step q r again ρj hq hr (fun q' r' hq' hr' h1q hc hr2 => ?_) (fun hc h1q hr2 => ?_) (fun hc => ?_) fun hc => (guess_down hY h1 hu hd g hc).1
    · subst hq' hr'
      refine H _ _ (q - 1) (by omega) ⟨rfl, q - 1, r + yn1, rfl, rfl, (guess_down hY h1 hu hd g hc).2, by omega, hr2⟩
    · exact guess_over hY h0 h1 hu (guess_down hY h1 hu hd g hc).2 hr2
    · exact guess_exit hY h1 g (by omega)
theorem c_Div64 {h : Heap} {hi lo y : Nat} (hhi : hi < y) (hlo : lo < 18446744073709551616) (hy : y < 18446744073709551616) :
    FCall Tryz.prog F_math_bits_Div64 #[.int .u64 (hi : Int), .int .u64 (lo : Int), .int .u64 (y : Int)] h fun r h' =>
      r = .tuple #[.int .u64 (((hi * 18446744073709551616 + lo) / y : Nat) : Int), .int .u64 (((hi * 18446744073709551616 + lo) % y : Nat) : Int)] ∧ h' = h := by
  apply ok_math_bits_Div64
  unfold sh_math_bits_Div64
  have q1 : ((y : Int) = 0) = False := eq_false (by omega)
  have q2 : ((y : Int) ≤ (hi : Int)) = False := eq_false (by omega)
  simp only [go_sem, q1, q2]
  refine joinK_intro (fun xs h' => h' = h) rfl fun xs ρj h' e => ?_
  subst e
  refine joinK_intro (fun xs h'' => h'' = h') rfl fun xs ρj h'' e => ?_
  subst e
  refine iteK_dec (fun h0 => ?_) (fun h0 => ?_)
  · have h0 : hi = 0 := by omega
    subst h0
    rw [quo_u64 (by omega) hlo, vK_some, rem_u64 (by omega), vK_some]
    exact ⟨by simp, rfl⟩
  refine (c_LeadingZeros64 hy).mono fun v1 h1 ⟨e1, w1⟩ => ?_
  subst e1 w1
  obtain ⟨b0, b1, b2⟩ := Lib.bitLenAux_bounds 64 y hy (by omega)
  have b3 := Lib.bitLen_le y 64 (Nat.le_refl _) hy
  have hbl : Lib.bitLen y = Lib.bitLenAux 64 y := rfl
  rw [← hbl] at b0 b1 b2
  generalize hL : Lib.bitLen y = L at b0 b1 b2 b3
  obtain ⟨s, hs⟩ : ∃ s, s = 64 - L := ⟨_, rfl⟩
  rw [show (64 : Int) - (L : Int) = (s : Int) by omega, cvu _ (by omega), vK_some, shl_u64 _ (by omega), vK_some]
  have hp : (0 : Nat) < 2 ^ s := Nat.pow_pos (by omega)
  have hps : 2 ^ L * 2 ^ s = 18446744073709551616 := by
    rw [← Nat.pow_add, show L + s = 64 by omega]
  have hps1 : 2 ^ (L - 1) * 2 ^ s = 9223372036854775808 := by
    rw [← Nat.pow_add, show L - 1 + s = 63 by omega]
  have hY1 : y * 2 ^ s < 18446744073709551616 := by rw [← hps]; exact Nat.mul_lt_mul_of_pos_right b2 hp
  have hY2 : 9223372036854775808 ≤ y * 2 ^ s := by rw [← hps1]; exact Nat.mul_le_mul_right _ b1
  have hhs : hi * 2 ^ s < 18446744073709551616 := Nat.lt_trans (Nat.mul_lt_mul_of_pos_right hhi hp) hY1
  rw [Nat.mod_eq_of_lt hY1]
  have hq64 : lo / 2 ^ (64 - s) < 2 ^ s := by
    rw [Nat.div_lt_iff_lt_mul (Nat.pow_pos (by omega)), ← Nat.pow_add, show s + (64 - s) = 64 by omega]
    exact hlo
  have e32 : (32 : Int) = ((32 : Nat) : Int) := rfl
  rw [e32, shr_u64 _ (by omega), vK_some, and_mask32 hY1, vK_some, shl_u64 _ (by omega), vK_some, Nat.mod_eq_of_lt hhs, binV_sub, vK_some,
    wu64 (n := 64 - (s : Int)) (by omega) (by omega), show (64 : Int) - (s : Int) = ((64 - s : Nat) : Int) by omega, shr_u64 _ (by omega), vK_some,
    or_u64 hhs (Nat.lt_of_lt_of_le hq64 (by rw [← hps]; exact Nat.le_mul_of_pos_left _ (Nat.pow_pos (by omega)))), vK_some, or_shift hq64, shl_u64 _ (by omega), vK_some]
  -- what is divided, shifted
  have hHY : (hi * 18446744073709551616 + lo) * 2 ^ s < y * 2 ^ s * 18446744073709551616 := by
    have : hi * 18446744073709551616 + lo < y * 18446744073709551616 := by omega
    rw [Nat.mul_right_comm]
    exact Nat.mul_lt_mul_of_pos_right this hp
  have hlos : lo * 2 ^ s = lo / 2 ^ (64 - s) * 18446744073709551616 + lo * 2 ^ s % 18446744073709551616 := by
    have e : lo * 2 ^ s / 18446744073709551616 = lo / 2 ^ (64 - s) := by
      rw [show (18446744073709551616 : Nat) = 2 ^ (64 - s) * 2 ^ s by rw [← Nat.pow_add, show 64 - s + s = 64 by omega]]
      exact Nat.mul_div_mul_right _ _ hp
    rw [← e, Nat.mul_comm _ 18446744073709551616]
    exact (Nat.div_add_mod _ _).symm
  have hsplit : (hi * 18446744073709551616 + lo) * 2 ^ s = (hi * 2 ^ s + lo / 2 ^ (64 - s)) * 18446744073709551616 + lo * 2 ^ s % 18446744073709551616 := by
    rw [Nat.add_mul, hlos, Nat.mul_right_comm, Nat.add_mul, Nat.add_assoc]
    congr 2
    rw [← hlos]
  have hquo : (hi * 18446744073709551616 + lo) / y = (hi * 18446744073709551616 + lo) * 2 ^ s / (y * 2 ^ s) := (Nat.mul_div_mul_right _ _ hp).symm
  have hrem : (hi * 18446744073709551616 + lo) % y = (hi * 18446744073709551616 + lo) * 2 ^ s % (y * 2 ^ s) / 2 ^ s := by
    rw [Nat.mul_mod_mul_right, Nat.mul_div_cancel _ hp]
  have hqlt : (hi * 18446744073709551616 + lo) / y < 18446744073709551616 := by
    rw [Nat.div_lt_iff_lt_mul (by omega), Nat.mul_comm]
    have : (hi + 1) * 18446744073709551616 ≤ y * 18446744073709551616 := Nat.mul_le_mul_right _ hhi
    omega
  rw [hquo, hrem]
  rw [hquo] at hqlt
  generalize (hi * 18446744073709551616 + lo) * 2 ^ s = HS at *
  generalize hu32 : hi * 2 ^ s + lo / 2 ^ (64 - s) = un32 at *
  have hun10 : lo * 2 ^ s % 18446744073709551616 < 18446744073709551616 := Nat.mod_lt _ (by omega)
  generalize lo * 2 ^ s % 18446744073709551616 = un10 at *
  generalize hYe : y * 2 ^ s = Y at *
  clear hlos hhs hq64
  have hu : un32 < Y := by omega
  have hu1 : un10 / 4294967296 < 4294967296 := by omega
  have hu0 : un10 % 4294967296 < 4294967296 := by omega
  have e264 : (2 : Nat) ^ 32 = 4294967296 := rfl
  rw [shr_u64 _ (by omega), vK_some, and_mask32 hun10, vK_some, e264]
  have hYs : Y = Y / 4294967296 * 4294967296 + Y % 4294967296 := by omega
  have hn1 : 2147483648 ≤ Y / 4294967296 := by omega
  have hn1' : Y / 4294967296 < 4294967296 := by omega
  have hn0 : Y % 4294967296 < 4294967296 := by omega
  have hs64 : s ≤ 64 := by omega
  generalize hy1 : Y / 4294967296 = yn1 at *
  generalize hy0 : Y % 4294967296 = yn0 at *
  generalize hd1 : un10 / 4294967296 = un1 at *
  generalize hd0 : un10 % 4294967296 = un0 at *
  have hud : un10 = un1 * 4294967296 + un0 := by omega
  rw [quo_u64 (by omega) (by omega), vK_some, binV_mul, vK_some]
  have hm1 : un32 / yn1 * yn1 ≤ un32 := Nat.div_mul_le_self _ _
  rw [show ((un32 / yn1 : Nat) : Int) * (yn1 : Int) = ((un32 / yn1 * yn1 : Nat) : Int) from (Int.natCast_mul _ _).symm, u64_nat (by omega), binV_sub, vK_some,
    show (un32 : Int) - ((un32 / yn1 * yn1 : Nat) : Int) = ((un32 - un32 / yn1 * yn1 : Nat) : Int) by omega, u64_nat (by omega)]
  have body : ∀ {u d q r : Nat} {X Y : Prop} (hq : q < 4294967298) (hr : r < 4294967296) (hd : d < 4294967296),
      ((4294967296 ≤ q ∨ 4294967296 * r + d < q * yn0) → X) → (¬ (4294967296 ≤ q ∨ 4294967296 * r + d < q * yn0) → Y) →
      vK (binV .i .geq (.int .u64 (q : Int)) (.int .u64 4294967296)) fun v44 =>
        vK (gV v44 false (some (.int .u64 (q : Int)))) fun v45 => vK (gV v44 false (some (.int .u64 (yn0 : Int)))) fun v46 => vK (gV v44 false (binV .i .mul v45 v46)) fun v47 =>
        vK (gV v44 false (some (.int .u64 (r : Int)))) fun v48 => vK (gV v44 false (binV .i .mul (.int .u64 4294967296) v48)) fun v49 => vK (gV v44 false (some (.int .u64 (d : Int)))) fun v50 =>
        vK (gV v44 false (binV .i .add v49 v50)) fun v51 => vK (gV v44 false (binV .i .gtr v47 v51)) fun v52 => vK (pickV v44 (.bool true) v52) fun v53 => iteK v53 X Y := by
    intro u d q r X Y hq hr hd hX hY
    simp only [go_sem]
    by_cases hc : 4294967296 ≤ q
    · have e : ((4294967296 : Int) ≤ (q : Int)) = True := eq_true (by omega)
      simp only [go_sem, e]
      exact hX (.inl hc)
    · have e : ((4294967296 : Int) ≤ (q : Int)) = False := eq_false (by omega)
      simp only [go_sem, e]
      have hqy : q * yn0 ≤ q * 4294967296 := Nat.mul_le_mul_left _ (by omega)
      rw [show (q : Int) * (yn0 : Int) = ((q * yn0 : Nat) : Int) from (Int.natCast_mul _ _).symm, u64_nat (m := q * yn0) (by omega),
        show (4294967296 : Int) * (r : Int) = ((4294967296 * r : Nat) : Int) by omega, u64_nat (m := 4294967296 * r) (by omega),
        show ((4294967296 * r : Nat) : Int) + (d : Int) = ((4294967296 * r + d : Nat) : Int) by omega, u64_nat (m := 4294967296 * r + d) (by omega)]
      refine iteK_dec (fun h0 => hX (.inr (by omega))) (fun h0 => hY (by omega))
  refine joinK_intro (fun xs h' => xs = [.int .u64 (((un32 * 4294967296 + un1) / Y : Nat) : Int)] ∧ h' = h1) ?_ ?_
  · refine guess_loop (d := un1) hYs hn0 hn1 hn1' hu hu1 (fun q r => [.int .u64 (q : Int), .int .u64 (r : Int)]) rfl fun q r again ρj hq hr g1 g2 g3 g4 => ?_
    simp only [ix_0, ix_1]
    refine body (u := 0) hq hr hu1 (fun hc => ?_) (fun hc => ?_)
    · have h1q := g4 hc
      rw [binV_sub, vK_some, show (q : Int) - 1 = ((q - 1 : Nat) : Int) by omega, u64_nat (by omega), binV_add, vK_some, show (r : Int) + (yn1 : Int) = ((r + yn1 : Nat) : Int) by omega, u64_nat (by omega)]
      rw [binV_geq, vK_some]
      refine iteK_dec (fun h0 => ⟨by rw [g2 hc h1q (by omega)], trivial⟩) (fun h0 => g1 _ _ rfl rfl h1q hc (by omega))
    · exact ⟨by rw [g3 hc], trivial⟩
  rintro xs ρj h2 ⟨rfl, e2⟩
  subst e2
  simp only [ix_0]
  have hq1 := digit_lt hu hu1
  have hdm := Nat.div_add_mod (un32 * 4294967296 + un1) Y
  have hun21 : (un32 * 4294967296 + un1) % Y < Y := Nat.mod_lt _ (by omega)
  have hD := digits_div (M := un32 * 4294967296 + un1) (Y := Y) (d0 := un0) (by omega) rfl rfl
  obtain ⟨qq1, hq1e⟩ : ∃ q, q = (un32 * 4294967296 + un1) / Y := ⟨_, rfl⟩
  obtain ⟨un21, hr1e⟩ : ∃ q, q = (un32 * 4294967296 + un1) % Y := ⟨_, rfl⟩
  rw [← hq1e, ← hr1e] at hdm hD
  rw [← hr1e] at hun21
  rw [← hq1e] at hq1 ⊢
  have r21 : IntKind.u64.wrap (IntKind.u64.wrap (IntKind.u64.wrap ((un32 : Int) * 4294967296) + (un1 : Int)) - IntKind.u64.wrap ((qq1 : Int) * (Y : Int))) = (un21 : Int) := by
    rw [show (qq1 : Int) * (Y : Int) = ((Y * qq1 : Nat) : Int) by rw [Nat.mul_comm]; exact (Int.natCast_mul _ _).symm]
    rw [wrapU64, wrapU64, wrapU64, wrapU64]
    clear hD hsplit
    generalize Y * qq1 = P at *
    omega
  rw [binV_mul, vK_some, binV_add, vK_some, binV_mul, vK_some, binV_sub, vK_some, r21]
  have hm2 : un21 / yn1 * yn1 ≤ un21 := Nat.div_mul_le_self _ _
  rw [quo_u64 (by omega) (by omega), vK_some, binV_mul, vK_some, show ((un21 / yn1 : Nat) : Int) * (yn1 : Int) = ((un21 / yn1 * yn1 : Nat) : Int) from (Int.natCast_mul _ _).symm, u64_nat (by omega), binV_sub, vK_some,
    show (un21 : Int) - ((un21 / yn1 * yn1 : Nat) : Int) = ((un21 - un21 / yn1 * yn1 : Nat) : Int) by omega, u64_nat (by omega)]
  refine joinK_intro (fun xs h' => xs = [.int .u64 (((un21 * 4294967296 + un0) / Y : Nat) : Int)] ∧ h' = h2) ?_ ?_
  · refine guess_loop (d := un0) hYs hn0 hn1 hn1' hun21 hu0 (fun q r => [.int .u64 (r : Int), .int .u64 (q : Int)]) rfl fun q r again ρj hq hr g1 g2 g3 g4 => ?_
    simp only [ix_0, ix_1]
    refine body (u := 0) hq hr hu0 (fun hc => ?_) (fun hc => ?_)
    · have h1q := g4 hc
      rw [binV_sub, vK_some, show (q : Int) - 1 = ((q - 1 : Nat) : Int) by omega, u64_nat (by omega), binV_add, vK_some, show (r : Int) + (yn1 : Int) = ((r + yn1 : Nat) : Int) by omega, u64_nat (by omega)]
      rw [binV_geq, vK_some]
      refine iteK_dec (fun h0 => ⟨by rw [g2 hc h1q (by omega)], trivial⟩) (fun h0 => g1 _ _ rfl rfl h1q hc (by omega))
    · exact ⟨by rw [g3 hc], trivial⟩
  rintro xs ρj h3 ⟨rfl, e3⟩
  subst e3
  simp only [ix_0]
  have hq0 := digit_lt hun21 hu0
  have hdm0 := Nat.div_add_mod (un21 * 4294967296 + un0) Y
  have hun : (un21 * 4294967296 + un0) % Y < Y := Nat.mod_lt _ (by omega)
  have hHS : HS = (un32 * 4294967296 + un1) * 4294967296 + un0 := join_digits hsplit hud
  rw [hHS] at hqlt ⊢
  rw [hD.1] at hqlt ⊢
  rw [hD.2]
  obtain ⟨qq0, hq0e⟩ : ∃ q, q = (un21 * 4294967296 + un0) / Y := ⟨_, rfl⟩
  obtain ⟨rr, hr0e⟩ : ∃ q, q = (un21 * 4294967296 + un0) % Y := ⟨_, rfl⟩
  rw [← hq0e, ← hr0e] at hdm0
  rw [← hr0e] at hun
  rw [← hq0e] at hq0 hqlt
  rw [← hq0e, ← hr0e]
  have r00 : IntKind.u64.wrap (IntKind.u64.wrap (IntKind.u64.wrap ((un21 : Int) * 4294967296) + (un0 : Int)) - IntKind.u64.wrap ((qq0 : Int) * (Y : Int))) = (rr : Int) := by
    rw [show (qq0 : Int) * (Y : Int) = ((Y * qq0 : Nat) : Int) by rw [Nat.mul_comm]; exact (Int.natCast_mul _ _).symm]
    rw [wrapU64, wrapU64, wrapU64, wrapU64]
    clear hD hsplit hHS
    generalize Y * qq0 = P at *
    omega
  have rq : IntKind.u64.wrap (IntKind.u64.wrap ((qq1 : Int) * 4294967296) + (qq0 : Int)) = ((qq1 * 4294967296 + qq0 : Nat) : Int) := by
    rw [wrapU64, wrapU64]
    clear hD hsplit hHS hdm hdm0
    omega
  rw [binV_mul, vK_some, binV_add, vK_some, binV_mul, vK_some, binV_add, vK_some, binV_mul, vK_some, binV_sub, vK_some, r00, rq, shr_u64 _ hs64, vK_some]
  exact ⟨rfl, trivial⟩
end Go.Proofs.YtefdokfnnokagaaGreatDoor
