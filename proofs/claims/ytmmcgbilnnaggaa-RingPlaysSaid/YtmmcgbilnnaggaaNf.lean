/- RingReset, RingSlides. Conditions: none. -/
import Derived.Test.YtmmcgbilnnaggaaNd
set_option linter.unusedVariables false
set_option linter.unusedSimpArgs false
namespace Go.Proofs.Ytmmcgbilnnaggaa
open Go Go.Crisp
attribute [local irreducible] FCall rowK newK stK iteK vK qK drawK gK joinK loopK mkK appK cpyK mapPutK mapDelK newmK rangeMapK nextMapK entryK

theorem c_Same06 {h : Heap} {a b : Value} {la lb : List Int} (ha : Ints h a la) (hb : Ints h b lb) (hn : la.length ≤ 9223372036854775807) :
    FCall Try.prog F_ref06_Same #[a, b] h fun v h' => v = .bool (decide (la = lb)) ∧ h' = h := by
  apply ok_ref06_Same
  unfold sh_ref06_Same
  obtain ⟨A, ca, rfl, hA⟩ := ha
  obtain ⟨B, cb, rfl, hB⟩ := hb
  simp only [lenslV_sl, vK_some, binV_neq]
  refine iteK_split (fun hne => ?_) (fun he => ?_)
  · refine ⟨?_, trivial⟩
    have : ¬ la = lb := fun e => by subst e; simp at hne
    simp [this]
  · have hl : la.length = lb.length := by simp at he; omega
    refine loopK_var (fun d xs h' => h' = h ∧ ∃ k : Nat, k + d = la.length ∧ xs = [.int .i64 k] ∧ ∀ i (hi : i < k) (h1 : i < la.length), la[i] = lb[i]'(hl ▸ h1)) la.length ⟨rfl, 0, by omega, rfl, fun i hi => by omega⟩ ?_
    rintro d _ ρj _ again ⟨rfl, k, hk, rfl, hinv⟩ hag
    simp only [ix_0, binV_lss, vK_some]
    refine iteK_dec (fun hlt => ?_) (fun hge => ?_)
    · have hk1 : k < la.length := by omega
      have hk2 : k < lb.length := by omega
      rcases hA with rfl | ⟨b1, o1, rfl, hA⟩
      · simp at hk1
      rcases hB with rfl | ⟨b2, o2, rfl, hB⟩
      · simp at hk2
      simp only [idxV_nat hk1, idxV_nat hk2, vK_some, ldV_ptr, Nat.mul_one, hA k hk1, hB k hk2, vi, binV_neq]
      refine iteK_split (fun hgt => ?_) (fun hle => ?_)
      · refine ⟨?_, trivial⟩
        congr 1
        rw [eq_comm, decide_eq_false_iff_not]
        intro hall
        have := (eq_list hl).1 hall k hk1
        simp [this] at hgt
      · simp only [binV_add, vK_some]
        rw [w64 (by omega) (by omega)]
        refine hag _ _ (d - 1) (by omega) ⟨rfl, k + 1, by omega, rfl, fun i hi h1 => ?_⟩
        rcases Nat.lt_succ_iff_lt_or_eq.1 hi with hi | rfl
        · exact hinv i hi h1
        · simpa using hle
    · refine ⟨?_, trivial⟩
      congr 1
      rw [eq_comm, decide_eq_true_eq, eq_list hl]
      intro i hi
      exact hinv i (by omega) hi

/-- A row of numbers that is made and put. -/
theorem put_row {e : TypeId} {M : Nat → Prop} {h : Heap} {v : Value} {room w n : Nat} {rs : List (Int × List Int)} {j : Int} {c : Array Value} {ps : List (Nat × Nat × Value)} {l : List Int} {K : Value → Heap → Prop} (H : IsRing M h v room w rs) (hj : (Lit.int .i64 j).wf = true)
    (hf : fillL c ps = some (l.map vi).toArray) (hl : l.length = n) (hn : n ≤ 1000)
    (HK : ∀ h' M', IsRing M' h' v room w (putR room w rs j l) → Fr M h h' → (∀ k, M' k → M k ∨ h.size ≤ k) → K (.bool (putOk room w rs j l)) h') :
    rowK c e n ps h fun u h3 => FCall Try.prog F_ring_Ring_Put #[v, .int .i64 j, u] h3 K := by
  refine rowK_use hf fun b h1 r1 e1 n1 => ?_
  have I1 : Ints h1 (.slice (some ⟨b, 0, none⟩) n n) l := by
    have := ints_row (l := l) (cap := n) r1
    rw [hl] at this; exact this
  refine (c_RPut (H.ext e1) hj I1 (by omega) (fun k hk hm => ?_)).mono ?_
  · have := H.lt hm
    rw [show k = b from hk] at this; omega
  · rintro _ h2 ⟨rfl, M', R2, f2, n2⟩
    exact HK h2 M' R2 (e1.fr.trans f2) fun k hk => (n2 k hk).imp id fun h3 => Nat.le_trans e1.1 h3

theorem c_RingReset {h : Heap} {a n f : Int} (ha : 0 ≤ a ∧ a ≤ 255) (hn : 0 ≤ n ∧ n ≤ 255) (hf : -2147483648 ≤ f ∧ f ≤ 2147483647) : FCall Try.prog F_law16_RingReset #[.int .u8 a, .int .u8 n, .int .i32 f] h fun r h' => r = .bool true ∧ Ext h h' := by
  apply ok_law16_RingReset
  unfold sh_law16_RingReset
  refine c_lives16.mono ?_
  rintro _ h1 ⟨rfl, e1⟩
  obtain ⟨A, rfl⟩ := Int.eq_ofNat_of_zero_le ha.1
  obtain ⟨N, rfl⟩ := Int.eq_ofNat_of_zero_le hn.1
  have r20 := rem_nat .i .u8 A 20 (by omega)
  have r40 := rem_nat .i .u8 N 40 (by omega)
  have hA : A % 20 < 20 := Nat.mod_lt _ (by omega)
  have hN : N % 40 < 40 := Nat.mod_lt _ (by omega)
  rw [show ((20 : Nat) : Int) = 20 from rfl] at r20
  rw [show ((40 : Nat) : Int) = 40 from rfl] at r40
  simp only [go_sem, r20, r40]
  generalize A % 20 = p at hA
  generalize N % 40 = q at hN
  have wp : IntKind.i64.wrap (p : Int) = p := w64 (by omega) (by omega)
  have wq : IntKind.i64.wrap (q : Int) = q := w64 (by omega) (by omega)
  have wf : IntKind.i64.wrap f = f := w64 (by omega) (by omega)
  have w1 : IntKind.i64.wrap (1 + (p : Int)) = 1 + (p : Int) := w64 (by omega) (by omega)
  simp only [wp, wq, wf, w1]
  refine (c_RNew (1 + (p : Int)) 3).mono ?_
  rintro v h2 ⟨M0, R0, e2, n2⟩
  have e02 := e1.trans e2
  have hroom : roomN (1 + (p : Int)) = 1 + p := by unfold roomN; omega
  rw [hroom, show widthN 3 = 3 from by decide] at R0
  refine loop_count q (fun k h' => k ≤ q ∧ Ext h h' ∧ ∃ M rs, IsRing M h' v (1 + p) 3 rs ∧ ∀ b, M b → h.size ≤ b) ⟨by omega, e02, M0, _, R0, fun b hb => Nat.le_trans e1.1 (n2 b hb)⟩ ?_
  rintro k h3 again ρj ⟨hk, e3, M, rs, R3, m3⟩ hag
  simp only [go_sem]
  refine iteK_dec (fun hlt => ?_) (fun hge => ?_)
  · have wfk : IntKind.i64.wrap (f + (k : Int)) = f + (k : Int) := w64 (by omega) (by omega)
    have wk : IntKind.i64.wrap ((k : Int) + 1) = (k : Int) + 1 := w64 (by omega) (by omega)
    simp only [wfk, wk]
    refine put_row (l := [9, 9, 9]) R3 (wf64 (by omega) (by omega)) (by kernel_rfl) rfl (by omega) fun h4 M4 R4 f4 n4 => ?_
    exact hag h4 (by omega) ⟨by omega, e3.then_fr f4 m3, M4, _, R4, fun b hb => (n4 b hb).elim (m3 b) fun h5 => Nat.le_trans e3.1 h5⟩
  · refine (c_RReset R3).mono ?_
    rintro _ h4 ⟨M4, R4, f4, n4⟩
    have e4 := e3.then_fr f4 m3
    have m4 : ∀ b, M4 b → h.size ≤ b := fun b hb => (n4 b hb).elim (m3 b) fun h5 => Nat.le_trans e3.1 h5
    refine (c_RFirst R4).mono ?_
    rintro _ h5 ⟨rfl, e5⟩
    have R5 := R4.ext e5
    simp only [go_sem]
    refine (c_RLen R5).mono ?_
    rintro _ h6 ⟨rfl, hh⟩
    subst hh
    simp only [go_sem, List.length_nil, Int.natCast_zero]
    have e05 := e4.trans e5
    refine put_row (l := [1, 2, 3]) R5 (wf64 (by omega) (by omega)) (by kernel_rfl) rfl (by omega) fun h7 M7 R7 f7 n7 => ?_
    have hnf : ¬ (1 + p ≤ 0) := by omega
    have hok : putOk (1 + p) 3 [] f [1, 2, 3] = true := by simp [putOk, fullB, kGet]
    have hR : putR (1 + p) 3 [] f [1, 2, 3] = [(f, [1, 2, 3])] := by
      unfold putR roomFor
      rw [hok]
      simp [fullB]
    rw [hR] at R7
    rw [hok]
    have e07 := e05.then_fr f7 m4
    simp only [go_sem]
    refine (c_RLen R7).mono ?_
    rintro _ h8 ⟨rfl, hh⟩
    subst hh
    simp only [go_sem, List.length_cons, List.length_nil, show (((0 + 1 : Nat)) : Int) = 1 from rfl]
    refine (c_RRow R7 f).mono ?_
    rintro _ h9 ⟨u, rfl, o9, e9, n9⟩
    have hg : kGet f [(f, ([1, 2, 3] : List Int))] = some [1, 2, 3] := by simp [kGet]
    rw [hg] at o9 ⊢
    have wf2 : IntKind.i64.wrap (f + 2) = f + 2 := w64 (by omega) (by omega)
    have wf1 : IntKind.i64.wrap (f + 1) = f + 1 := w64 (by omega) (by omega)
    simp only [go_sem, Option.isSome_some, wf2]
    refine (c_RNext (R7.ext e9) (by omega) (by omega)).mono ?_
    rintro _ h10 ⟨⟨m, is, rfl, hnx⟩, hh⟩
    subst hh
    obtain ⟨rfl, rfl⟩ : m = f + 1 ∧ is = true := hnx.uniq (.inl ⟨rfl, by omega, by omega, by simp [kGet]; omega, fun i h1 h2 => by
      have : i = f := by omega
      subst this; rw [hg]; rfl⟩)
    simp only [go_sem]
    refine rowK_use (c' := #[.int .i64 1, .int .i64 2, .int .i64 3]) (by kernel_rfl) fun b11 h11 r11 e11 n11 => ?_
    have I11 : Ints h11 (.slice (some ⟨b11, 0, none⟩) 3 3) [1, 2, 3] := ints_row (l := [1, 2, 3]) r11
    refine (c_Same06 (o9.ints.ext e11) I11 (by simp)).mono ?_
    rintro _ h12 ⟨rfl, hh⟩
    subst hh
    simp only [go_sem, Option.getD_some, wf, wf1]
    exact ⟨trivial, (e07.trans e9).trans e11⟩

theorem r_RingReset (h : Heap) (args : Array Value) (H : ArgsRd [.int .u8, .int .u8, .int .i32] h args.toList) : FCall Try.prog F_law16_RingReset args h fun r h' => r = .bool true ∧ Ext h h' := by
  obtain ⟨v, r, hr, ⟨x, hx, wx⟩, u, r', hr', ⟨y, hy, wy⟩, z, r2, hr2, ⟨t, ht, wt⟩, h0⟩ := H
  have h0 : r2 = [] := h0
  subst h0 hr' hr2
  obtain rfl : v = .int .u8 x := by simpa using hx
  obtain rfl : u = .int .u8 y := by simpa using hy
  obtain rfl : z = .int .i32 t := by simpa using ht
  obtain rfl : args = #[.int .u8 x, .int .u8 y, .int .i32 t] := by cases args; simp_all
  exact c_RingReset (u8_wf wx) (u8_wf wy) (i32_wf wt)

/-- The rows that are held when so many have been put. -/
def slideL (k : Nat) (f : Int) (i : Nat) : List (Int × List Int) := ((List.range i).drop (i - k)).map fun (b : Nat) => (f + (b : Int), [f + (b : Int), -(f + (b : Int))])
theorem slideL_len (k : Nat) (f : Int) (i : Nat) : (slideL k f i).length = min k i := by simp [slideL]; omega
theorem slideL_get {k : Nat} {f : Int} {i b : Nat} : kGet (f + (b : Int)) (slideL k f i) = if b < i ∧ i - k ≤ b then some [f + (b : Int), -(f + (b : Int))] else none := by
  unfold slideL
  have key : ∀ l : List Nat, kGet (f + (b : Int)) (l.map fun (b : Nat) => (f + (b : Int), [f + (b : Int), -(f + (b : Int))])) = if b ∈ l then some [f + (b : Int), -(f + (b : Int))] else none := by
    intro l
    induction l with
    | nil => rfl
    | cons x l ih =>
      rw [List.map_cons, kGet]
      by_cases hx : x = b
      · subst hx; simp
      · have h1 : ¬ f + (x : Int) = f + (b : Int) := by omega
        rw [if_neg h1, ih]
        have h2 : ¬ b = x := fun h => hx h.symm
        simp [h2]
  rw [key]
  have : b ∈ (List.range i).drop (i - k) ↔ b < i ∧ i - k ≤ b := by
    rw [List.mem_drop_iff_getElem]
    constructor
    · rintro ⟨j, hj, rfl⟩
      simp at hj ⊢
      omega
    · rintro ⟨h1, h2⟩
      exact ⟨b - (i - k), by simp; omega, by simp; omega⟩
  simp only [this]
theorem slideL_min {k : Nat} {f : Int} {i : Nat} (hk : 0 < k) (hi : 0 < i) : minL ((slideL k f i).map Prod.fst) = f + ((i - k : Nat) : Int) := by
  have hne : (slideL k f i).map Prod.fst ≠ [] := fun h => by
    have := congrArg List.length h
    rw [List.length_map, slideL_len] at this
    simp at this; omega
  have hm := minL_mem hne
  have low : f + ((i - k : Nat) : Int) ∈ (slideL k f i).map Prod.fst := by
    have h1 := slideL_get (k := k) (f := f) (i := i) (b := i - k)
    rw [if_pos (by omega)] at h1
    exact List.mem_map.2 ⟨_, kGet_mem h1, rfl⟩
  have all : ∀ x ∈ (slideL k f i).map Prod.fst, f + ((i - k : Nat) : Int) ≤ x := by
    intro x hx
    obtain ⟨p, hp, rfl⟩ := List.mem_map.1 hx
    obtain ⟨b, hb, rfl⟩ := List.mem_map.1 hp
    rw [List.mem_drop_iff_getElem] at hb
    obtain ⟨j, hj, rfl⟩ := hb
    simp; omega
  have h2 := all _ hm
  have h3 : minL ((slideL k f i).map Prod.fst) ≤ f + ((i - k : Nat) : Int) := by
    have key : ∀ (l : List Int) (x : Int), (∀ y ∈ x :: l, l.foldl min x ≤ y) := by
      intro l
      induction l with
      | nil => intro x; simp
      | cons z l ih =>
        intro x y hy
        rw [List.foldl_cons]
        have h1 := ih (min x z)
        have h3 := h1 (min x z) (List.mem_cons_self ..)
        rcases List.mem_cons.1 hy with rfl | hy
        · omega
        · rcases List.mem_cons.1 hy with rfl | hy
          · omega
          · exact h1 y (List.mem_cons_of_mem _ hy)
    revert low
    generalize (slideL k f i).map Prod.fst = l
    intro low
    cases l with
    | nil => cases low
    | cons x l => exact key l x _ low
  omega
theorem slideL_step {k : Nat} {f : Int} {i : Nat} (hk : 0 < k) : putOk k 2 (slideL k f i) (f + (i : Int)) [f + (i : Int), -(f + (i : Int))] = true ∧ putR k 2 (slideL k f i) (f + (i : Int)) [f + (i : Int), -(f + (i : Int))] = slideL k f (i + 1) := by
  have hnone : kGet (f + (i : Int)) (slideL k f i) = none := by rw [slideL_get, if_neg (by omega)]
  have hok : putOk k 2 (slideL k f i) (f + (i : Int)) [f + (i : Int), -(f + (i : Int))] = true := by
    unfold putOk
    rw [hnone]
    simp only [List.length_cons, List.length_nil, decide_true, Option.isNone_none, Bool.true_and, Bool.not_eq_true', Bool.and_eq_false_iff, decide_eq_false_iff_not, fullB, slideL_len]
    by_cases hi : k ≤ i
    · right
      rw [slideL_min hk (by omega)]; omega
    · left; omega
  refine ⟨hok, ?_⟩
  unfold putR
  rw [if_pos hok]
  unfold roomFor
  by_cases hi : k ≤ i
  · have hf : fullB k (slideL k f i) = true := by simp [fullB, slideL_len]; omega
    rw [if_pos hf, slideL_min hk (by omega)]
    have h1 : slideL k f i = (f + ((i - k : Nat) : Int), [f + ((i - k : Nat) : Int), -(f + ((i - k : Nat) : Int))]) :: ((List.range i).drop (i - k + 1)).map fun (b : Nat) => (f + (b : Int), [f + (b : Int), -(f + (b : Int))]) := by
      unfold slideL
      rw [List.drop_eq_getElem_cons (by simp; omega)]
      simp
    rw [h1, kDel, if_pos rfl]
    unfold slideL
    rw [List.range_succ, List.drop_append_of_le_length (by simp; omega), List.map_append, show i + 1 - k = i - k + 1 by omega]
    rfl
  · have hf : fullB k (slideL k f i) = false := by simp [fullB, slideL_len]; omega
    rw [hf]
    simp only [Bool.false_eq_true, if_false]
    unfold slideL
    rw [List.range_succ, show i - k = 0 by omega, show i + 1 - k = 0 by omega, List.drop_zero, List.drop_zero, List.map_append]
    rfl

theorem c_RingSlides {h : Heap} {a f n : Int} (ha : 0 ≤ a ∧ a ≤ 255) (hf : -2147483648 ≤ f ∧ f ≤ 2147483647) (hn : 0 ≤ n ∧ n ≤ 255) : FCall Try.prog F_law16_RingSlides #[.int .u8 a, .int .i32 f, .int .u8 n] h fun r h' => r = .bool true ∧ Ext h h' := by
  apply ok_law16_RingSlides
  unfold sh_law16_RingSlides
  refine c_lives16.mono ?_
  rintro _ h1 ⟨rfl, e1⟩
  obtain ⟨A, rfl⟩ := Int.eq_ofNat_of_zero_le ha.1
  obtain ⟨N, rfl⟩ := Int.eq_ofNat_of_zero_le hn.1
  have r20 := rem_nat .i .u8 A 20 (by omega)
  have r100 := rem_nat .i .u8 N 100 (by omega)
  have hA : A % 20 < 20 := Nat.mod_lt _ (by omega)
  have hN : N % 100 < 100 := Nat.mod_lt _ (by omega)
  rw [show ((20 : Nat) : Int) = 20 from rfl] at r20
  rw [show ((100 : Nat) : Int) = 100 from rfl] at r100
  simp only [go_sem, r20, r100]
  generalize A % 20 = p at hA
  generalize N % 100 = q at hN
  have wp : IntKind.i64.wrap (p : Int) = p := w64 (by omega) (by omega)
  have wq : IntKind.i64.wrap (q : Int) = q := w64 (by omega) (by omega)
  have wf : IntKind.i64.wrap f = f := w64 (by omega) (by omega)
  have w1 : IntKind.i64.wrap (1 + (p : Int)) = ((1 + p : Nat) : Int) := by rw [w64 (by omega) (by omega)]; omega
  simp only [wp, wq, wf, w1]
  refine (c_RNew ((1 + p : Nat) : Int) 2).mono ?_
  rintro v h2 ⟨M0, R0, e2, n2⟩
  have e02 := e1.trans e2
  have hroom : roomN ((1 + p : Nat) : Int) = 1 + p := by unfold roomN; omega
  rw [hroom, show widthN 2 = 2 from by decide] at R0
  have hk0 : 0 < 1 + p := by omega
  generalize hkk : 1 + p = k at R0 hk0 w1
  have hk20 : k ≤ 20 := by omega
  refine loop_count q (fun i h' => i ≤ q ∧ Ext h h' ∧ ∃ M, IsRing M h' v k 2 (slideL k f i) ∧ ∀ b, M b → h.size ≤ b) ⟨by omega, e02, M0, by simpa [slideL] using R0, fun b hb => Nat.le_trans e1.1 (n2 b hb)⟩ ?_
  rintro i h3 again ρj ⟨hi, e3, M, R3, m3⟩ hag
  simp only [go_sem]
  refine iteK_dec (fun hlt => ?_) (fun hge => ?_)
  · have wfi : IntKind.i64.wrap (f + (i : Int)) = f + (i : Int) := w64 (by omega) (by omega)
    have wni : IntKind.i64.wrap (0 - (f + (i : Int))) = -(f + (i : Int)) := by rw [w64 (by omega) (by omega)]; omega
    have wi : IntKind.i64.wrap ((i : Int) + 1) = (i : Int) + 1 := w64 (by omega) (by omega)
    simp only [wfi, wni, wi]
    obtain ⟨hok, hR⟩ := slideL_step (k := k) (f := f) (i := i) hk0
    refine put_row (l := [f + (i : Int), -(f + (i : Int))]) R3 (wf64 (by omega) (by omega)) (by kernel_rfl) rfl (by omega) fun h4 M4 R4 f4 n4 => ?_
    rw [hR] at R4
    rw [hok]
    have e4 := e3.then_fr f4 m3
    have m4 : ∀ b, M4 b → h.size ≤ b := fun b hb => (n4 b hb).elim (m3 b) fun h5 => Nat.le_trans e3.1 h5
    simp only [go_sem]
    refine put_row (l := [0, 0]) R4 (wf64 (by omega) (by omega)) (by kernel_rfl) rfl (by omega) fun h5 M5 R5 f5 n5 => ?_
    have hno : putOk k 2 (slideL k f (i + 1)) (f + (i : Int)) [0, 0] = false := by
      unfold putOk
      rw [slideL_get, if_pos (by omega)]
      simp
    have hR5 : putR k 2 (slideL k f (i + 1)) (f + (i : Int)) [0, 0] = slideL k f (i + 1) := by
      unfold putR; rw [hno]; rfl
    rw [hR5] at R5
    rw [hno]
    have e5 := e4.then_fr f5 m4
    have m5 : ∀ b, M5 b → h.size ≤ b := fun b hb => (n5 b hb).elim (m4 b) fun h5 => Nat.le_trans e4.1 h5
    simp only [go_sem]
    refine loop_count q (fun b h' => b ≤ q ∧ Ext h5 h') ⟨by omega, Ext.refl _⟩ ?_
    rintro b h6 again6 ρj6 ⟨hb, e6⟩ hag6
    simp only [go_sem]
    refine iteK_dec (fun hltb => ?_) (fun hgeb => ?_)
    · have wfb : IntKind.i64.wrap (f + (b : Int)) = f + (b : Int) := w64 (by omega) (by omega)
      have wnb : IntKind.i64.wrap (0 - (f + (b : Int))) = -(f + (b : Int)) := by rw [w64 (by omega) (by omega)]; omega
      have wb : IntKind.i64.wrap ((b : Int) + 1) = (b : Int) + 1 := w64 (by omega) (by omega)
      have wik : IntKind.i64.wrap ((i : Int) - (k : Int)) = (i : Int) - k := w64 (by omega) (by omega)
      simp only [wfb, wnb, wb, wik]
      refine (c_RRow (R5.ext e6) (f + (b : Int))).mono ?_
      rintro _ h7 ⟨u, rfl, o7, e7, n7⟩
      rw [slideL_get] at o7 ⊢
      have go : FCall Try.prog F_ring_Ring_Has #[] h7 (fun _ _ => True) → True := fun _ => trivial
      by_cases hin : b < i + 1 ∧ i + 1 - k ≤ b
      · rw [if_pos hin] at o7 ⊢
        have hc1 : (b : Int) ≤ i := by omega
        have hc2 : (i : Int) - k < b := by omega
        simp only [Option.getD_some] at o7
        obtain ⟨p0, hp0, hq0⟩ := o7.ints.sl.at1 (k := .i64) (i := 0) (by simp)
        obtain ⟨p1, hp1, hq1⟩ := o7.ints.sl.at1 (k := .i64) (i := 1) (by simp)
        simp only [List.map_cons, List.map_nil, List.getElem_cons_zero, List.getElem_cons_succ, vi, Int.natCast_zero, Int.natCast_one] at hp0 hq0 hp1 hq1
        obtain ⟨ua, uc, rfl⟩ : ∃ a c, u = .slice a 2 c := o7.sl.isSl
        simp only [go_sem, wik, hc1, hc2, Option.isSome_some, hp0, hq0, hp1, hq1, wnb, show ((2 : Nat) : Int) = 2 from rfl, bne_self_eq_false, beq_self_eq_true]
        exact hag6 h7 (by omega) ⟨by omega, e6.trans e7⟩
      · rw [if_neg hin]
        by_cases hc1 : (b : Int) ≤ i
        · have hc2 : ¬ (i : Int) - k < b := by omega
          simp only [go_sem, wik, hc1, hc2, Option.isSome_none, bne_self_eq_false, beq_self_eq_true]
          exact hag6 h7 (by omega) ⟨by omega, e6.trans e7⟩
        · simp only [go_sem, hc1, Option.isSome_none, bne_self_eq_false, beq_self_eq_true]
          exact hag6 h7 (by omega) ⟨by omega, e6.trans e7⟩
    · exact hag h6 (by omega) ⟨by omega, e5.trans e6, M5, R5.ext e6, m5⟩
  · obtain rfl : i = q := by omega
    refine (c_RLen R3).mono ?_
    rintro _ h4 ⟨rfl, hh⟩
    subst hh
    rw [slideL_len]
    have : ((min k i : Nat) : Int) = min (k : Int) (i : Int) := by omega
    simp only [go_sem, this]
    exact ⟨trivial, e3⟩

theorem r_RingSlides (h : Heap) (args : Array Value) (H : ArgsRd [.int .u8, .int .i32, .int .u8] h args.toList) : FCall Try.prog F_law16_RingSlides args h fun r h' => r = .bool true ∧ Ext h h' := by
  obtain ⟨v, r, hr, ⟨x, hx, wx⟩, u, r', hr', ⟨y, hy, wy⟩, z, r2, hr2, ⟨t, ht, wt⟩, h0⟩ := H
  have h0 : r2 = [] := h0
  subst h0 hr' hr2
  obtain rfl : v = .int .u8 x := by simpa using hx
  obtain rfl : u = .int .i32 y := by simpa using hy
  obtain rfl : z = .int .u8 t := by simpa using ht
  obtain rfl : args = #[.int .u8 x, .int .i32 y, .int .u8 t] := by cases args; simp_all
  exact c_RingSlides (u8_wf wx) (i32_wf wy) (u8_wf wt)
end Go.Proofs.Ytmmcgbilnnaggaa
