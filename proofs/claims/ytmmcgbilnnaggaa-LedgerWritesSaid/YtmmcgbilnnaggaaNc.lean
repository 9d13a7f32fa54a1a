/- The ring's Next; the chapter's example; RingBelow, RingSizes. Conditions: none. -/
import Derived.Test.YtmmcgbilnnaggaaNb
import Derived.Test.YtmmcgbilnnaggaaRb
import Derived.Test.YtmmcgbilnnaggaaCc
set_option linter.unusedVariables false
set_option linter.unusedSimpArgs false
namespace Go.Proofs.Ytmmcgbilnnaggaa
open Go Go.Crisp
attribute [local irreducible] FCall rowK newK stK iteK vK qK drawK gK joinK loopK mkK appK cpyK mapPutK mapDelK newmK

/-- The least number, of those from one to another, that isn't held; none. -/
def NextIs (rs : List (Int × List Int)) (a b n : Int) (is : Bool) : Prop :=
  (is = true ∧ a ≤ n ∧ n < b ∧ kGet n rs = none ∧ ∀ i, a ≤ i → i < n → (kGet i rs).isSome = true) ∨ (is = false ∧ n = 0 ∧ ∀ i, a ≤ i → i < b → (kGet i rs).isSome = true)
theorem NextIs.uniq {rs : List (Int × List Int)} {a b n n' : Int} {is is' : Bool} (h : NextIs rs a b n is) (h' : NextIs rs a b n' is') : n = n' ∧ is = is' := by
  rcases h with ⟨rfl, h1, h2, h3, h4⟩ | ⟨rfl, rfl, h4⟩
  · rcases h' with ⟨rfl, h1', h2', h3', h4'⟩ | ⟨rfl, rfl, h4'⟩
    · refine ⟨?_, rfl⟩
      rcases Int.lt_trichotomy n n' with hl | hl | hl
      · have := h4' n h1 hl; rw [h3] at this; cases this
      · exact hl
      · have := h4 n' h1' hl; rw [h3'] at this; cases this
    · have := h4' n h1 h2; rw [h3] at this; cases this
  · rcases h' with ⟨rfl, h1', h2', h3', h4'⟩ | ⟨rfl, rfl, h4'⟩
    · have := h4 n' h1' h2'; rw [h3'] at this; cases this
    · exact ⟨rfl, rfl⟩

theorem c_RNext {M : Nat → Prop} {h : Heap} {v : Value} {room w : Nat} {rs : List (Int × List Int)} (H : IsRing M h v room w rs) {a b : Int} (ha : -9223372036854775808 ≤ a) (hb : b ≤ 9223372036854775807) :
    FCall Try.prog F_ring_Ring_Next #[v, .int .i64 a, .int .i64 b] h fun r h' => (∃ n is, r = .tuple #[.int .i64 n, .bool is] ∧ NextIs rs a b n is) ∧ h' = h := by
  apply ok_ring_Ring_Next
  unfold sh_ring_Ring_Next
  refine loopK_var (fun d xs h' => h' = h ∧ ∃ j, a ≤ j ∧ d = (b - j).toNat ∧ xs = [.int .i64 j] ∧ ∀ i, a ≤ i → i < j → (kGet i rs).isSome = true) (b - a).toNat ⟨rfl, a, by omega, rfl, rfl, fun i h1 h2 => by omega⟩ ?_
  rintro d _ ρj h1 again ⟨hh, j, haj, rfl, rfl, hall⟩ hag
  subst hh
  simp only [go_sem]
  refine iteK_dec (fun hlt => ?_) (fun hge => ?_)
  · refine (c_RHas H j).mono ?_
    rintro _ h2 ⟨rfl, hh⟩
    subst hh
    try simp only [go_sem]
    cases hg : kGet j rs with
    | none =>
      simp only [Option.isSome_none, go_sem]
      exact ⟨⟨j, true, rfl, .inl ⟨rfl, haj, hlt, hg, hall⟩⟩, trivial⟩
    | some p =>
      simp only [Option.isSome_some, go_sem]
      rw [w64 (by omega) (by omega)]
      refine hag _ _ (b - (j + 1)).toNat (by omega) ⟨rfl, j + 1, by omega, rfl, rfl, fun i h1 h2 => ?_⟩
      by_cases hi : i = j
      · rw [hi, hg]; rfl
      · exact hall i h1 (by omega)
  · exact ⟨⟨0, false, rfl, .inr ⟨rfl, rfl, fun i h1 h2 => hall i h1 (by omega)⟩⟩, trivial⟩

theorem wf64 {n : Int} (h1 : -9223372036854775808 ≤ n) (h2 : n ≤ 9223372036854775807) : (Lit.int .i64 n).wf = true := by
  show (decide (IntKind.i64.min ≤ n) && decide (n ≤ IntKind.i64.max)) = true
  rw [Bool.and_eq_true, decide_eq_true_eq, decide_eq_true_eq]
  exact ⟨h1, h2⟩

/-- A row of one number that is put. -/
theorem put_one {e : TypeId} {M : Nat → Prop} {h : Heap} {v : Value} {room : Nat} {rs : List (Int × List Int)} {j x : Int} {K : Value → Heap → Prop} (H : IsRing M h v room 1 rs) (hj : (Lit.int .i64 j).wf = true)
    (HK : ∀ h' M', IsRing M' h' v room 1 (putR room 1 rs j [x]) → Fr M h h' → (∀ k, M' k → M k ∨ h.size ≤ k) → K (.bool (putOk room 1 rs j [x])) h') :
    rowK #[.int .i64 0] e 1 [(0, 1, .int .i64 x)] h fun u h3 => FCall Try.prog F_ring_Ring_Put #[v, .int .i64 j, u] h3 K := by
  refine rowK_use (Rp.fill_one rfl) fun b h1 r1 e1 n1 => ?_
  refine (c_RPut (H.ext e1) hj (ints_row (l := [x]) r1) (by simp) (fun k hk hm => ?_)).mono ?_
  · have := H.lt hm
    rw [show k = b from hk] at this; omega
  · rintro _ h2 ⟨rfl, M', R2, f2, n2⟩
    exact HK h2 M' R2 (e1.fr.trans f2) fun k hk => (n2 k hk).imp id fun h3 => Nat.le_trans e1.1 h3

def live16 : Nat → List (Int × List Int)
  | 0 => []
  | 1 => [(5, [0])]
  | 2 => [(5, [0]), (6, [1])]
  | _ => [(6, [1]), (7, [2])]

theorem c_lives16 {h : Heap} : FCall Try.prog F_law16_lives #[] h fun r h' => r = .bool true ∧ Ext h h' := by
  apply ok_law16_lives
  unfold sh_law16_lives
  refine (c_RNew 2 1).mono ?_
  rintro v h1 ⟨M0, R0, e1, n1⟩
  obtain ⟨bx, hv⟩ : ∃ bx, v = .pointer (some ⟨bx, 0, none⟩) := by
    obtain ⟨bx, _, _, _, _, _, hv, _⟩ := R0
    exact ⟨bx, hv⟩
  have hne : binV .p .eql v (.pointer none) = some (.bool false) := by rw [hv]; rfl
  simp only [go_sem, hne]
  refine loop_count 3 (fun k h' => k ≤ 3 ∧ Ext h h' ∧ ∃ M, IsRing M h' v 2 1 (live16 k) ∧ ∀ b, M b → h.size ≤ b) ⟨by omega, e1, M0, R0, n1⟩ ?_
  rintro k h2 again ρj ⟨hk, e2, M, R2, m2⟩ hag
  simp only [go_sem]
  refine iteK_dec (fun hlt => ?_) (fun hge => ?_)
  · have hlt : k < 3 := by omega
    rw [w64 (by omega) (by omega)]
    refine put_one R2 (wf64 (by omega) (by omega)) fun h3 M3 R3 f3 n3 => ?_
    have hk3 : putOk 2 1 (live16 k) (5 + (k : Int)) [(k : Int)] = true ∧ putR 2 1 (live16 k) (5 + (k : Int)) [(k : Int)] = live16 (k + 1) := by
      match k, hlt with
      | 0, _ | 1, _ | 2, _ => exact ⟨by decide, by decide⟩
    rw [hk3.2] at R3
    rw [hk3.1]
    simp only [go_sem]
    rw [w64 (by omega) (by omega)]
    exact hag h3 hlt ⟨hlt, e2.then_fr f3 m2, M3, R3, fun b hb => (n3 b hb).elim (m2 b) fun h4 => Nat.le_trans e2.1 h4⟩
  · obtain rfl : k = 3 := by omega
    refine (c_RNext R2 (by omega) (by omega)).mono ?_
    rintro _ h3 ⟨⟨n, is, rfl, hn⟩, hh⟩
    subst hh
    obtain ⟨rfl, rfl⟩ : n = 5 ∧ is = true := hn.uniq (.inl ⟨rfl, by omega, by omega, by decide, fun i h1 h2 => by omega⟩)
    simp only [go_sem]
    refine (c_RHas R2 5).mono ?_
    rintro _ h4 ⟨rfl, hh⟩
    subst hh
    rw [show (kGet 5 (live16 3)).isSome = false from by decide]
    simp only [go_sem]
    refine (c_RHas R2 6).mono ?_
    rintro _ h4 ⟨rfl, hh⟩
    subst hh
    rw [show (kGet 6 (live16 3)).isSome = true from by decide]
    simp only [go_sem]
    refine (c_RHas R2 7).mono ?_
    rintro _ h4 ⟨rfl, hh⟩
    subst hh
    rw [show (kGet 7 (live16 3)).isSome = true from by decide]
    simp only [go_sem]
    exact ⟨trivial, e2⟩

theorem c_RingBelow {h : Heap} {a b : Int} (ha : -2147483648 ≤ a ∧ a ≤ 2147483647) (hb : -2147483648 ≤ b ∧ b ≤ 2147483647) : FCall Try.prog F_law16_RingBelow #[.int .i32 a, .int .i32 b] h fun r h' => r = .bool true ∧ Ext h h' := by
  apply ok_law16_RingBelow
  unfold sh_law16_RingBelow
  refine c_lives16.mono ?_
  rintro _ h1 ⟨rfl, e1⟩
  simp only [go_sem]
  refine (c_RNew 1 1).mono ?_
  rintro v h2 ⟨M0, R0, e2, n2⟩
  have e02 := e1.trans e2
  have m0 : ∀ k, M0 k → h.size ≤ k := fun k hk => Nat.le_trans e1.1 (n2 k hk)
  rw [show roomN 1 = 1 from by decide, show widthN 1 = 1 from by decide] at R0
  have wa : IntKind.i64.wrap a = a := w64 (by omega) (by omega)
  have wb : IntKind.i64.wrap b = b := w64 (by omega) (by omega)
  try simp only [go_sem]
  rw [wa]
  refine put_one R0 (wf64 (by omega) (by omega)) fun h3 M3 R3 f3 n3 => ?_
  rw [show putOk 1 1 [] a [1] = true from rfl]
  rw [show putR 1 1 [] a [1] = [(a, [1])] from rfl] at R3
  have e03 := e02.then_fr f3 m0
  have m3 : ∀ k, M3 k → h.size ≤ k := fun k hk => (n3 k hk).elim (m0 k) fun h4 => Nat.le_trans e02.1 h4
  simp only [go_sem]
  rw [wb]
  refine put_one R3 (wf64 (by omega) (by omega)) fun h4 M4 R4 f4 n4 => ?_
  have e04 := e03.then_fr f4 m3
  have hok : putOk 1 1 [(a, [1])] b [2] = decide (a < b) := by
    simp only [putOk, fullB, kGet, minL, List.map_cons, List.map_nil, List.foldl_nil, List.length_cons, List.length_nil]
    by_cases hab : a = b
    · subst hab; simp
    · rw [if_neg hab]
      simp
      rw [Bool.eq_iff_iff]; simp; omega
  have hmax : max a b = if a < b then b else a := by split <;> omega
  have wm : IntKind.i64.wrap (max a b) = max a b := w64 (by omega) (by omega)
  rw [hok]
  simp only [go_sem, bne_self_eq_false, beq_self_eq_true]
  refine (c_RLen R4).mono ?_
  rintro _ h5 ⟨rfl, hh⟩
  subst hh
  by_cases hab : a < b
  · have hR : putR 1 1 [(a, [1])] b [2] = [(b, [2])] := by
      unfold putR
      rw [hok, if_pos (decide_eq_true hab)]
      simp [roomFor, fullB, minL, kDel]
    rw [hR] at R4 ⊢
    simp only [go_sem, List.length_cons, List.length_nil, show (((0 + 1 : Nat)) : Int) = 1 from rfl]
    refine (c_RFirst R4).mono ?_
    rintro _ h6 ⟨rfl, e6⟩
    simp only [go_sem, List.map_cons, List.map_nil, minL, List.foldl_nil, reduceCtorEq]
    rw [wm]
    simp only [hmax, if_pos hab, decide_true]
    exact ⟨trivial, e04.trans e6⟩
  · have hR : putR 1 1 [(a, [1])] b [2] = [(a, [1])] := by
      unfold putR
      rw [hok, if_neg (by simpa using hab)]
    rw [hR] at R4 ⊢
    simp only [go_sem, List.length_cons, List.length_nil, show (((0 + 1 : Nat)) : Int) = 1 from rfl]
    refine (c_RFirst R4).mono ?_
    rintro _ h6 ⟨rfl, e6⟩
    simp only [go_sem, List.map_cons, List.map_nil, minL, List.foldl_nil, reduceCtorEq]
    rw [wm]
    simp only [hmax, if_neg hab, decide_true]
    exact ⟨trivial, e04.trans e6⟩

theorem r_RingBelow (h : Heap) (args : Array Value) (H : ArgsRd [.int .i32, .int .i32] h args.toList) : FCall Try.prog F_law16_RingBelow args h fun r h' => r = .bool true ∧ Ext h h' := by
  obtain ⟨v, r, hr, ⟨x, hx, wx⟩, u, r', hr', ⟨y, hy, wy⟩, h0⟩ := H
  have h0 : r' = [] := h0
  subst h0 hr'
  obtain rfl : v = .int .i32 x := by simpa using hx
  obtain rfl : u = .int .i32 y := by simpa using hy
  obtain rfl : args = #[.int .i32 x, .int .i32 y] := by cases args; simp_all
  exact c_RingBelow (i32_wf wx) (i32_wf wy)
end Go.Proofs.Ytmmcgbilnnaggaa
