/- ClockOrders, the walk. Conditions: none. -/
import Derived.Test.YtmmcgbilnnaggaaKj
import Derived.Test.YtmmcgbilnnaggaaRb
set_option linter.unusedVariables false
set_option linter.unusedSimpArgs false
namespace Go.Proofs.Ytmmcgbilnnaggaa
open Go Go.Crisp
attribute [local irreducible] FCall rowK newK stK iteK vK qK drawK gK joinK loopK mkK appK cpyK

theorem good_new : Good 1 (newF 5) := by
  refine ⟨fun j hj => ⟨by simp [newF], fun m => ?_⟩, fun j hj => ?_, rfl⟩
  · simp only [newF, List.getD_eq_getElem?_getD, List.getElem?_map]
    by_cases hm : m < 5
    · rw [List.getElem?_range hm]
      simp only [Option.map_some, Option.getD_some]
      split <;> omega
    · rw [List.getElem?_eq_none (by simp; omega)]
      simp
  · match j, hj with
    | 0, _ | 1, _ | 2, _ | 3, _ => rfl

theorem c_ClockOrders {h : Heap} {v : Value} {l : List Int} (hv : SlC 1 h v l.length (l.map (.int .u8))) (hq : ∀ x ∈ l, 0 ≤ x ∧ x ≤ 255) :
    FCall Try.prog F_law19_ClockOrders #[v] h fun r h' => r = .bool true ∧ Ext h h' := by
  apply ok_law19_ClockOrders
  unfold sh_law19_ClockOrders
  have hv0 := hv
  obtain ⟨_, a, cap, rfl, _⟩ := hv
  refine c_lives19.mono ?_
  rintro _ h1 ⟨rfl, e1⟩
  by_cases hl : l.length ≤ 60
  · have h60 : ¬ (60 : Int) < (l.length : Int) := by omega
    simp only [go_sem, h60]
    refine (c_New 5).mono ?_
    rintro c h2 ⟨M0, C0, e2, m0⟩
    rw [show newN 5 = 5 from rfl] at C0
    try simp only [go_sem]
    have e02 := e1.trans e2
    refine loop_count l.length (fun k h' => k ≤ l.length ∧ Ext h h' ∧ ∃ M rows, IsClock M h' c 5 rows ∧ Good (1 + 2 * k) rows ∧ ∀ b, M b → h.size ≤ b)
      ⟨Nat.zero_le _, e02, M0, _, C0, by simpa using good_new, fun b hb => Nat.le_trans e1.1 (m0 b hb)⟩ ?_
    rintro k h3 again ρj ⟨hk, e3, M, rows, C, G, mb⟩ hag
    try simp only [go_sem]
    refine iteK_dec (fun hlt => ?_) (fun hge => ?_)
    · have hlt : k < l.length := by omega
      obtain ⟨p, hp, hq1⟩ := (hv0.ext e3).at1 (k := .i64) hlt
      rw [List.getElem_map] at hq1
      have hx := hq l[k] (List.getElem_mem hlt)
      obtain ⟨A, hA⟩ := Int.eq_ofNat_of_zero_le hx.1
      rw [hA] at hq1 hx
      have w1 : IntKind.i64.wrap (A : Int) = (A : Int) := w64 (by omega) (by omega)
      have w2 : IntKind.u8.wrap ((A / 4 : Nat) : Int) = ((A / 4 : Nat) : Int) := wu8 (by omega) (by omega)
      have w3 : IntKind.i64.wrap ((A / 4 : Nat) : Int) = ((A / 4 : Nat) : Int) := w64 (by omega) (by omega)
      have r4 := rem_nat .i .i64 A 4 (by omega)
      have q4 := quo_nat .i .u8 A 4 (by omega)
      have r5 := rem_nat .i .i64 (A / 4) 4 (by omega)
      have c4 : ((4 : Nat) : Int) = 4 := rfl
      rw [c4] at r4 q4 r5
      have hi : A % 4 < 4 := Nat.mod_lt _ (by omega)
      have hj : A / 4 % 4 < 4 := Nat.mod_lt _ (by omega)
      simp only [go_sem, hp, hq1, w1, r4, q4, w2, w3, r5]
      generalize A % 4 = i at hi
      generalize A / 4 % 4 = j at hj
      have wk : IntKind.i64.wrap ((k : Int) + 1) = (k : Int) + 1 := w64 (by omega) (by omega)
      refine (c_Tick C (i : Int)).mono ?_
      rintro s h4 ⟨o4, C4, f4, n4⟩
      have e4 : Ext h h4 := e3.then_fr f4 mb
      by_cases hij : i = j
      · have hij' : (i : Int) = (j : Int) := by omega
        simp only [go_sem, hij', wk]
        rw [hij'] at C4
        refine hag h4 hlt ⟨hlt, e4, M, _, C4, ?_, mb⟩
        have G2 := good_same G (by omega) hj
        exact ⟨fun m hm => ⟨(G2.1 m hm).1, fun q => by have := (G2.1 m hm).2 q; omega⟩, G2.2⟩
      · have hij' : ¬ (i : Int) = (j : Int) := by omega
        simp only [go_sem, hij']
        obtain ⟨hmay, R, hR, G5, a1, a2, a3, a4⟩ := good_deed G (by omega) hi hj hij
        have ho4 : nowF 5 rows (i : Int) = rows i := nowF_in (by omega)
        rw [ho4] at o4
        have len4 : (rows i).length = 5 := (G.1 i (by omega)).1
        refine (c_Meet C4 (j : Int) o4.ints (by rw [len4]; omega)).mono ?_
        rintro _ h5 ⟨rfl, M', C5, f5, m5⟩
        have hmay' : mayF 5 (j : Int) (rows i) = true := hmay
        simp only [go_sem, hmay']
        have s4M : ∀ b, blk s b → ¬ M b := fun b hb hm => by
          have h6 := n4 b hb
          obtain ⟨bc, sl, sv, t, rfl, CC⟩ := C
          have := CC.lt b hm
          omega
        have o5 : OwnI h5 s (rows i) := o4.fr f5 s4M
        have e5 : Ext h h5 := e4.then_fr f5 mb
        have mb' : ∀ b, M' b → h.size ≤ b := fun b hb => (m5 b hb).elim (mb b) fun h6 => Nat.le_trans e4.1 h6
        refine (c_Tick C5 (j : Int)).mono ?_
        rintro s6 h6 ⟨o6, C6, f6, n6⟩
        rw [hR] at C6
        have s6M : ∀ b, blk s b → ¬ M' b := fun b hb hm => by
          rcases m5 b hm with h7 | h7
          · exact s4M b hb h7
          · have := o4.lt hb; omega
        have o7 : OwnI h6 s (rows i) := o5.fr f6 s6M
        have e6 : Ext h h6 := e5.then_fr f6 mb'
        have lenR : ∀ m, m < 5 → (R m).length = 5 := fun m hm => (G5.1 m hm).1
        refine (c_Now C6 (j : Int)).mono ?_
        rintro v7 h7 ⟨o8, e7, n7⟩
        rw [nowF_in (show j < 5 by omega)] at o8
        refine (c_Ahead (o7.ints.ext e7) o8.ints (by rw [len4]; omega)).mono ?_
        rintro _ h8 ⟨rfl, hx8⟩
        subst hx8
        simp only [go_sem, a1]
        have C8 := C6.ext e7
        refine (c_Now C8 (j : Int)).mono ?_
        rintro v9 h9 ⟨o9, e9, n9⟩
        rw [nowF_in (show j < 5 by omega)] at o9
        try simp only [go_sem]
        refine (c_Ahead o9.ints ((o7.ints.ext e7).ext e9) (by rw [lenR j (by omega)]; omega)).mono ?_
        rintro _ h10 ⟨rfl, hx10⟩
        subst hx10
        simp only [go_sem, a2]
        have C10 := C8.ext e9
        refine (c_Now C10 4).mono ?_
        rintro v11 h11 ⟨o11, e11, n11⟩
        have hn4 : nowF 5 R 4 = [0, 0, 0, 0, 1] := by
          rw [show (4 : Int) = ((4 : Nat) : Int) from rfl, nowF_in (by omega)]
          exact G5.2.2
        rw [hn4] at o11
        have C11 := C10.ext e11
        refine (c_Now C11 (j : Int)).mono ?_
        rintro v12 h12 ⟨o12, e12, n12⟩
        rw [nowF_in (show j < 5 by omega)] at o12
        refine (c_Apart (o11.ints.ext e12) o12.ints (by simp) (by rw [lenR j (by omega)]; omega)).mono ?_
        rintro _ h13 ⟨rfl, hx13⟩
        subst hx13
        simp only [go_sem, a3]
        have C12 := C11.ext e12
        refine (c_Now C12 (i : Int)).mono ?_
        rintro v14 h14 ⟨o14, e14, n14⟩
        rw [nowF_in (show i < 5 by omega)] at o14
        have e614 : Ext h6 h14 := (((e7.trans e9).trans e11).trans e12).trans e14
        refine (c_Ahead (o7.ints.ext e614) o14.ints (by rw [len4]; omega)).mono ?_
        rintro _ h15 ⟨rfl, hx15⟩
        subst hx15
        simp only [go_sem, a4, wk]
        refine hag h15 hlt ⟨hlt, e6.trans e614, M', R, C12.ext e14, ?_, mb'⟩
        rw [show (1 + 2 * ((k + 1 : Nat) : Int)) = 1 + 2 * (k : Int) + 2 by omega]
        exact G5
    · refine (c_Now C 4).mono ?_
      rintro v4 h4 ⟨o4, e4, n4⟩
      have hn4 : nowF 5 rows 4 = [0, 0, 0, 0, 1] := by
        rw [show (4 : Int) = ((4 : Nat) : Int) from rfl, nowF_in (by omega)]
        exact G.2.2
      rw [hn4] at o4
      refine rowK_use (c' := #[.int .i64 0, .int .i64 0, .int .i64 0, .int .i64 0, .int .i64 1]) (by kernel_rfl) fun b5 h5 r5 e5 n5 => ?_
      have I5 : Ints h5 (.slice (some ⟨b5, 0, none⟩) 5 5) [0, 0, 0, 0, 1] := ints_row (l := [0, 0, 0, 0, 1]) r5
      refine (c_refEqual (o4.ints.ext e5) I5 (by simp)).mono ?_
      rintro _ h6 ⟨rfl, hx⟩
      subst hx
      exact ⟨by simp, (e3.trans e4).trans e5⟩
  · have h60 : (60 : Int) < (l.length : Int) := by omega
    simp only [go_sem, h60]
    exact c_lives19.mono fun _ _ ⟨hr, e⟩ => ⟨hr, e1.trans e⟩

theorem r_ClockOrders (h : Heap) (args : Array Value) (H : ArgsRd [.sl (.int .u8) 1] h args.toList) : FCall Try.prog F_law19_ClockOrders args h fun r h' => r = .bool true ∧ Ext h h' := by
  obtain ⟨v, r, hr, ⟨x, hx⟩, h0⟩ := H
  have h0 : r = [] := h0
  subst h0
  obtain rfl : args = #[v] := by cases args; simp_all
  obtain ⟨_, h1, h2, h3, _⟩ := u8s_rd hx
  cases h1
  exact c_ClockOrders h2 h3
end Go.Proofs.Ytmmcgbilnnaggaa
