/- ClockJoins: a join is the least row that isn't below either. Conditions: none. -/
import Derived.Test.YtmmcgbilnnaggaaKf
import Derived.Test.YtmmcgbilnnaggaaCd
set_option linter.unusedVariables false
set_option linter.unusedSimpArgs false
namespace Go.Proofs.Ytmmcgbilnnaggaa
open Go Go.Crisp
attribute [local irreducible] FCall rowK newK stK iteK vK qK drawK gK joinK loopK mkK appK cpyK

theorem joinL_comm (a b : List Int) : joinL b a = joinL a b := by
  unfold joinL
  rw [Nat.max_comm]
  exact List.map_congr_left fun i _ => Int.max_comm _ _
theorem joinL_getD (a b : List Int) (i : Nat) : (joinL a b).getD i 0 = max (a.getD i 0) (b.getD i 0) := by
  by_cases h : i < max a.length b.length
  · rw [getD_in (by rw [joinL_length]; exact h)]
    simp [joinL]
  · rw [getD_out (by rw [joinL_length]; omega), getD_out (by omega), getD_out (by omega)]
    rfl
theorem joinL_left (a b : List Int) : joinL (joinL a b) a = joinL a b := by
  apply List.ext_getElem
  · simp only [joinL_length]; omega
  · intro i h1 h2
    rw [← getD_in h1, ← getD_in h2, joinL_getD, joinL_getD]
    omega
theorem joinL_right (a b : List Int) : joinL b (joinL a b) = joinL a b := by rw [joinL_comm (joinL a b) b, joinL_comm b a, joinL_left]

theorem c_ClockJoins {h : Heap} {v u : Value} {a b : List Int} (ha : Ints h v a) (hb : Ints h u b) :
    FCall Try.prog F_law19_ClockJoins #[v, u] h fun r h' => r = .bool true ∧ Ext h h' := by
  apply ok_law19_ClockJoins
  unfold sh_law19_ClockJoins
  have ha0 := ha
  have hb0 := hb
  obtain ⟨aa, ac, rfl, _⟩ := ha
  obtain ⟨ba, bc, rfl, _⟩ := hb
  refine c_lives19.mono ?_
  rintro _ h1 ⟨rfl, e1⟩
  by_cases hl : a.length ≤ 30 ∧ b.length ≤ 30
  · have h1' : ¬ (30 : Int) < a.length := by omega
    have h2' : ¬ (30 : Int) < b.length := by omega
    simp only [go_sem, h1', h2']
    refine clone_own (ha0.ext e1) (by omega) fun s2 h2 o2 e2 n2 => ?_
    refine appK_own o2 ((hb0.ext e1).ext e2).sl vi_one rfl (by omega) (by omega) fun s3 h3 o3 f3 n3 => ?_
    rw [← List.map_append] at o3
    have e3 : Ext h h3 := (e1.trans e2).then_fr f3 fun k hk => Nat.le_trans e1.1 (n2 k hk)
    have hs3 := o3.sl
    have hs3' := hs3
    obtain ⟨_, sa, sc, rfl, _⟩ := hs3'
    simp only [go_sem]
    refine loop_count (a.length + b.length) (fun k h' => Ext h3 h') (Ext.refl h3) ?_
    rintro k h4 again ρj e4 hag
    have e4' := e3.trans e4
    simp only [go_sem]
    refine iteK_dec (fun hk => ?_) (fun hk => ?_)
    · have hk : k < a.length + b.length := by omega
      obtain ⟨p, hp, hq⟩ := (hs3.ext e4).at1 (k := .i64) hk
      rw [List.getElem_map] at hq
      simp only [go_sem, hp, hq, vi]
      refine iteK_dec (fun hneg => ?_) (fun hpos => ?_)
      · exact ⟨trivial, e4'⟩
      · rw [w64 (by omega) (by omega)]
        exact hag _ hk e4
    · refine (c_Join (ha0.ext e4') (hb0.ext e4') (by omega) (by omega)).mono ?_
      rintro r5 h5 ⟨o5, e5, n5⟩
      have o5' := o5.ints
      have e5' := e4'.trans e5
      have hr5 := o5.ints
      obtain ⟨ra, rc, rfl, _⟩ := hr5
      have hlen : ((joinL a b).length : Int) = max (a.length : Int) b.length := by rw [joinL_length]; omega
      simp only [go_sem, hlen]
      have hjl : (joinL a b).length ≤ 30 := by rw [joinL_length]; omega
      refine (c_Join o5' (ha0.ext e5') (by omega) (by omega)).mono ?_
      rintro r6 h6 ⟨o6, e6, n6⟩
      rw [joinL_left] at o6
      have e6' := e5'.trans e6
      try simp only [go_sem]
      refine (c_refEqual o6.ints (o5'.ext e6) (by omega)).mono ?_
      rintro _ _ ⟨rfl, rfl⟩
      simp only [go_sem]
      refine (c_Join (hb0.ext e6') (o5'.ext e6) (by omega) (by omega)).mono ?_
      rintro r7 h7 ⟨o7, e7, n7⟩
      rw [joinL_right] at o7
      have e7' := e6'.trans e7
      have o57 := (o5'.ext e6).ext e7
      try simp only [go_sem]
      refine (c_refEqual o7.ints o57 (by omega)).mono ?_
      rintro _ _ ⟨rfl, rfl⟩
      simp only [go_sem]
      refine (c_Join (hb0.ext e7') (ha0.ext e7') (by omega) (by omega)).mono ?_
      rintro r8 h8 ⟨o8, e8, n8⟩
      rw [joinL_comm] at o8
      have e8' := e7'.trans e8
      have o58 := o57.ext e8
      try simp only [go_sem]
      refine (c_refEqual o8.ints o58 (by omega)).mono ?_
      rintro _ h9 ⟨rfl, hh⟩
      subst hh
      simp only [go_sem]
      refine loop_count (joinL a b).length (fun k h' => Ext h9 h') (Ext.refl h9) ?_
      rintro k h10 again ρj e10 hag
      have e10' := e8'.trans e10
      simp only [go_sem]
      refine iteK_dec (fun hk => ?_) (fun hk => ?_)
      · have hk : k < (joinL a b).length := by omega
        obtain ⟨p, hp, hq⟩ := (o58.ext e10).sl.at1 (k := .i64) hk
        rw [List.getElem_map, ← getD_in hk, joinL_getD] at hq
        simp only [go_sem, hp, hq]
        refine joinK_intro (fun xs h' => xs = [.int .i64 (a.getD k 0)] ∧ h' = h10) ?_ ?_
        · refine iteK_dec (fun hka => ?_) (fun hka => ?_)
          · have hka : k < a.length := by omega
            obtain ⟨p1, hp1, hq1⟩ := (ha0.ext e10').sl.at1 (k := .i64) hka
            rw [List.getElem_map, ← getD_in hka] at hq1
            simp only [go_sem, hp1, hq1]
            exact ⟨rfl, trivial⟩
          · rw [getD_out (by omega)]
            exact ⟨rfl, rfl⟩
        rintro _ ρj2 h11 ⟨rfl, hh⟩
        subst hh
        simp only [go_sem]
        refine joinK_intro (fun xs h' => xs = [.int .i64 (b.getD k 0)] ∧ h' = h11) ?_ ?_
        · refine iteK_dec (fun hka => ?_) (fun hka => ?_)
          · have hka : k < b.length := by omega
            obtain ⟨p1, hp1, hq1⟩ := (hb0.ext e10').sl.at1 (k := .i64) hka
            rw [List.getElem_map, ← getD_in hka] at hq1
            simp only [go_sem, hp1, hq1]
            exact ⟨rfl, trivial⟩
          · rw [getD_out (by omega)]
            exact ⟨rfl, rfl⟩
        rintro _ ρj3 h12 ⟨rfl, hh⟩
        subst hh
        generalize a.getD k 0 = x
        generalize b.getD k 0 = y
        have h1 : ¬ max x y < x := by omega
        have h2 : ¬ max x y < y := by omega
        have hfin : again [.int .i64 (IntKind.i64.wrap ((k : Int) + 1))] h12 := by
          rw [w64 (by omega) (by omega)]
          exact hag _ hk e10
        simp only [go_sem, vi, h1, h2]
        by_cases hx : max x y = x
        · simp only [go_sem, hx]
          exact hfin
        · have hy : max x y = y := by omega
          simp only [go_sem, hx]
          simp only [go_sem, hy]
          exact hfin
      · exact ⟨trivial, e10'⟩
  · have hfin : FCall Try.prog F_law19_lives #[] h1 fun v12 h13 => v12 = .bool true ∧ Ext h h13 :=
      c_lives19.mono fun _ _ ⟨hr, e⟩ => ⟨hr, e1.trans e⟩
    by_cases hal : (30 : Int) < a.length
    · simp only [go_sem, hal]
      exact hfin
    · have hbl : (30 : Int) < b.length := by omega
      simp only [go_sem, hal, hbl]
      exact hfin

theorem r_ClockJoins (h : Heap) (args : Array Value) (H : ArgsRd [.sl (.int .i64) 8, .sl (.int .i64) 8] h args.toList) : FCall Try.prog F_law19_ClockJoins args h fun r h' => r = .bool true ∧ Ext h h' := by
  obtain ⟨v, r, hr, ⟨x, hx⟩, u, r', hr', ⟨y, hy⟩, h0⟩ := H
  have h0 : r' = [] := h0
  subst h0 hr'
  obtain rfl : args = #[v, u] := by cases args; simp_all
  obtain ⟨_, h1, h2⟩ := ints_rd hx
  obtain ⟨_, h3, h4⟩ := ints_rd hy
  cases h1
  cases h3
  exact c_ClockJoins h2 h4
end Go.Proofs.Ytmmcgbilnnaggaa
