/- Sorting that is stable (slices.SortStableFunc): the whole. Conditions: none. -/
import Derived.Test.YtefdokfnnokagaaGreatDoorVb
set_option linter.unusedVariables false
set_option linter.unusedSimpArgs false
set_option maxRecDepth 10000
namespace Go.Proofs.YtefdokfnnokagaaGreatDoor
open Go Go.Crisp
attribute [local irreducible] FCall rowK newK stK iteK vK qK drawK gK joinK loopK mkK appK cpyK nextStrK rangeStrK bsK clK

/-- A part that is in order: the indices from lo on. -/
def Srt (r : Nat → Int) (lo : Nat) (S : List Nat) : Prop := S.Perm (List.range' lo S.length) ∧ S.Pairwise (lead r)
theorem Srt.mem {r : Nat → Int} {lo : Nat} {S : List Nat} (H : Srt r lo S) {x : Nat} (hx : x ∈ S) : lo ≤ x ∧ x < lo + S.length := by
  have := H.1.mem_iff.1 hx
  simpa using this
theorem Srt.join {r : Nat → Int} {lo : Nat} {S1 S2 S : List Nat} (h1 : Srt r lo S1) (h2 : Srt r (lo + S1.length) S2) (hp : S.Perm (S1 ++ S2)) (hs : S.Pairwise (lead r)) : Srt r lo S := by
  refine ⟨?_, hs⟩
  have hl : S.length = S1.length + S2.length := by rw [hp.length_eq, List.length_append]
  refine hp.trans ((h1.1.append h2.1).trans ?_)
  rw [hl, List.range'_append_1]
/-- Blocks that are in order. -/
inductive BS (r : Nat → Int) (B : Nat) : Nat → List Nat → Prop
  | nil (lo : Nat) : BS r B lo []
  | last (lo : Nat) (S : List Nat) : 0 < S.length → S.length ≤ B → Srt r lo S → BS r B lo S
  | cons (lo : Nat) (S T : List Nat) : S.length = B → Srt r lo S → BS r B (lo + B) T → BS r B lo (S ++ T)
theorem BS.one {r : Nat → Int} {B lo : Nat} {Y : List Nat} (hB : 0 < B) (H : BS r B lo Y) (hl : B ≤ Y.length) : ∃ S T, Y = S ++ T ∧ S.length = B ∧ Srt r lo S ∧ BS r B (lo + B) T := by
  cases H
  · simp at hl; omega
  · rename_i h0 h1 h2; exact ⟨Y, [], by simp, by omega, h2, .nil _⟩
  · rename_i S T h0 h1 h2; exact ⟨S, T, rfl, h0, h1, h2⟩
theorem BS.short {r : Nat → Int} {B lo : Nat} {Y : List Nat} (hB : 0 < B) (H : BS r B lo Y) (hl : Y.length ≤ B) (h0 : 0 < Y.length) : Srt r lo Y := by
  cases H
  · simp at h0
  · rename_i h0 h1 h2; exact h2
  · rename_i S T h3 h1 h2
    have : T = [] := List.eq_nil_of_length_eq_zero (by simp at hl; omega)
    subst this
    simpa using h1
section
variable {v f : Value} {P : Heap → Prop} {r : Nat → Int} {n : Nat}
theorem c_stable (C : CmpOK v f P r n) {h : Heap} {N : Nat} (H : IxRow v P n h (List.range' 0 N)) (hN : N ≤ 1048576) :
    FCall Tryz.prog F_slices_stableCmpFunc_int #[v, iv N, f] h fun _ h' => ∃ S : List Nat, S.Perm (List.range N) ∧ S.Pairwise (lead r) ∧ IxRow v P n h' S ∧ Fr (blk v) h h' := by
  apply ok_slices_stableCmpFunc_int
  unfold sh_slices_stableCmpFunc_int
  refine loopK_var (fun d xs h' => ∃ (X : List Nat), d = N - X.length ∧ xs = [iv X.length, iv (X.length + 20)] ∧ X.length ≤ N ∧ (∀ T, BS r 20 X.length T → BS r 20 0 (X ++ T)) ∧ IxRow v P n h' (X ++ List.range' X.length (N - X.length)) ∧ Fr (blk v) h h') N
    ⟨[], rfl, rfl, Nat.zero_le _, fun T h => h, by simpa using H, Fr.refl _ _⟩ ?_
  rintro d xs ρj h1 again ⟨X, rfl, rfl, hX, hT, H1, F1⟩ Hag
  simp only [ix_0, ix_1, binV_leq, vK_some]
  refine iteK_dec (fun h0 => ?_) (fun h0 => ?_)
  · have er : List.range' X.length (N - X.length) = List.range' X.length 20 ++ List.range' (X.length + 20) (N - (X.length + 20)) := by
      rw [List.range'_append_1]; congr 1; omega
    have H2 : IxRow v P n h1 (X ++ List.range' X.length 20 ++ List.range' (X.length + 20) (N - (X.length + 20))) := by rw [er] at H1; simpa only [List.append_assoc] using H1
    refine (c_insertion C H2 (a := X.length) (b := X.length + 20) rfl (by simp) List.pairwise_lt_range').mono fun w h2 ⟨M', hp, hs, H3, F2⟩ => ?_
    have hM : M'.length = 20 := by rw [hp.length_eq]; simp
    have hl : (X ++ M').length = X.length + 20 := by rw [List.length_append, hM]
    rw [binV_add, vK_some, show (20 : Int) = ((20 : Nat) : Int) from rfl, nat_add _ _ (by omega)]
    refine Hag _ h2 (N - (X ++ M').length) (by omega) ⟨X ++ M', rfl, by rw [hl], by omega, fun T hBT => ?_, by rw [hl]; exact H3, F1.trans F2⟩
    rw [hl] at hBT
    rw [List.append_assoc]
    exact hT _ (.cons _ M' T hM ⟨by rw [hM]; exact hp, hs⟩ hBT)
  · refine (c_insertion C (A := X) (M := List.range' X.length (N - X.length)) (D := []) (by simpa using H1) (a := X.length) (b := N) rfl (by simp; omega) List.pairwise_lt_range').mono fun w h2 ⟨M', hp, hs, H3, F2⟩ => ?_
    have hM : M'.length = N - X.length := by rw [hp.length_eq]; simp
    rw [List.append_nil] at H3
    have hBS : BS r 20 0 (X ++ M') := by
      refine hT _ ?_
      rcases Nat.eq_zero_or_pos M'.length with h3 | h3
      · rw [List.eq_nil_of_length_eq_zero h3]; exact .nil _
      · exact .last _ _ h3 (by omega) ⟨by rw [hM]; exact hp, hs⟩
    have hlen : (X ++ M').length = N := by rw [List.length_append]; omega
    generalize X ++ M' = Y0 at *
    -- blocks that grow
    refine loopK_var (fun d xs h' => ∃ (B : Nat) (Y : List Nat), d = N - B ∧ xs = [iv B] ∧ 0 < B ∧ B ≤ 2097152 ∧ Y.length = N ∧ BS r B 0 Y ∧ IxRow v P n h' Y ∧ Fr (blk v) h h') (N - 20)
      ⟨20, Y0, rfl, rfl, by omega, by omega, hlen, hBS, H3, F1.trans F2⟩ ?_
    rintro d xs ρj2 h3 again2 ⟨B, Y, rfl, rfl, hB, hB2, hYN, hY, H4, F3⟩ Hag2
    simp only [ix_0, binV_lss, vK_some]
    refine iteK_dec (fun h4 => ?_) (fun h4 => ?_)
    · rw [binV_mul, vK_some, show (2 : Int) * (B : Int) = ((2 * B : Nat) : Int) by omega, w64 (n := ((2 * B : Nat) : Int)) (by omega) (by omega)]
      refine loopK_var (fun d xs h' => ∃ (X Z : List Nat), d = Z.length ∧ xs = [iv X.length, iv (X.length + 2 * B)] ∧ X.length + Z.length = N ∧ (∀ T, BS r (2 * B) X.length T → BS r (2 * B) 0 (X ++ T)) ∧ BS r B X.length Z ∧ IxRow v P n h' (X ++ Z) ∧ Fr (blk v) h h') N
        ⟨[], Y, hYN.symm, by simp, by simpa using hYN, fun T h => h, hY, H4, F3⟩ ?_
      rintro d xs ρj3 h5 again3 ⟨X, Z, rfl, rfl, hXZ, hT2, hZ, H5, F5⟩ Hag3
      simp only [ix_0, ix_1, binV_leq, vK_some]
      refine iteK_dec (fun h6 => ?_) (fun h6 => ?_)
      · obtain ⟨S1, T1, rfl, l1, s1, b1⟩ := hZ.one hB (by omega)
        rw [List.length_append] at hXZ
        obtain ⟨S2, T2, rfl, l2, s2, b2⟩ := b1.one hB (by omega)
        rw [List.length_append] at hXZ
        rw [binV_add, vK_some, nat_add _ _ (by omega)]
        refine (c_symMerge C (S1.length + S2.length) (A := X) (L := S1) (R := S2) (D := T2) (by simpa only [List.append_assoc] using H5) (a := X.length) (m := X.length + B) (b := X.length + 2 * B) rfl (by omega) (by omega) (by omega) (by omega) s1.2 s2.2 (fun x hx y hy => by
          have := s1.mem hx; have := s2.mem hy; omega) (Nat.le_refl _)).mono fun w h7 ⟨S, hp2, hs2, H7, F7⟩ => ?_
        have hS : S.length = 2 * B := by rw [hp2.length_eq, List.length_append]; omega
        have hl : (X ++ S).length = X.length + 2 * B := by rw [List.length_append, hS]
        rw [binV_add, vK_some, nat_add _ _ (by omega)]
        refine Hag3 _ h7 T2.length (by simp; omega) ⟨X ++ S, T2, rfl, by rw [hl], by rw [hl]; omega, fun T hBT => ?_, by rw [hl, show X.length + 2 * B = X.length + B + B by omega]; exact b2, H7, F5.trans F7⟩
        rw [hl] at hBT
        rw [List.append_assoc]
        exact hT2 _ (.cons _ S T hS (Srt.join s1 (by rw [l1]; exact s2) hp2 hs2) hBT)
      · rw [binV_add, vK_some, nat_add _ _ (by omega), binV_lss, vK_some]
        have go : ∀ (Y' : List Nat) (h8 : Heap), Y'.length = N → BS r (2 * B) 0 Y' → IxRow v P n h8 Y' → Fr (blk v) h h8 → vK (binV .i .mul (iv B) (.int .i64 2)) fun v31 => again2 [v31] h8 := by
          intro Y' h8 g1 g2 g3 g4
          rw [binV_mul, vK_some, show (B : Int) * 2 = ((2 * B : Nat) : Int) by omega, w64 (n := ((2 * B : Nat) : Int)) (by omega) (by omega)]
          exact Hag2 _ h8 (N - 2 * B) (by omega) ⟨2 * B, Y', rfl, rfl, by omega, by omega, g1, g2, g3, g4⟩
        refine iteK_dec (fun h8 => ?_) (fun h8 => ?_)
        · obtain ⟨S1, T1, rfl, l1, s1, b1⟩ := hZ.one hB (by omega)
          rw [List.length_append] at hXZ
          have s2 := b1.short hB (by omega) (by omega)
          refine (c_symMerge C (S1.length + T1.length) (A := X) (L := S1) (R := T1) (D := []) (by simpa only [List.append_assoc, List.append_nil] using H5) (a := X.length) (m := X.length + B) (b := N) rfl (by omega) (by omega) (by omega) (by omega) s1.2 s2.2 (fun x hx y hy => by
            have := s1.mem hx; have := s2.mem hy; omega) (Nat.le_refl _)).mono fun w h9 ⟨S, hp2, hs2, H7, F7⟩ => ?_
          have hS : S.length = S1.length + T1.length := by rw [hp2.length_eq, List.length_append]
          rw [List.append_nil] at H7
          exact go (X ++ S) h9 (by rw [List.length_append]; omega) (hT2 _ (.last _ S (by omega) (by omega) (Srt.join s1 (by rw [l1]; exact s2) hp2 hs2))) H7 (F5.trans F7)
        · refine go (X ++ Z) h5 (by rw [List.length_append]; omega) (hT2 _ ?_) H5 F5
          rcases Nat.eq_zero_or_pos Z.length with h9 | h9
          · rw [List.eq_nil_of_length_eq_zero h9]; exact .nil _
          · exact .last _ _ h9 (by omega) (hZ.short hB (by omega) h9)
    · have : Srt r 0 Y := by
        rcases Nat.eq_zero_or_pos Y.length with h9 | h9
        · have : Y = [] := List.eq_nil_of_length_eq_zero h9
          subst this
          exact ⟨by simp, List.Pairwise.nil⟩
        · exact hY.short hB (by omega) h9
      refine ⟨Y, ?_, this.2, H4, F3⟩
      have hp := this.1
      rw [hYN] at hp
      rw [List.range_eq_range']
      exact hp
theorem c_sortStable (C : CmpOK v f P r n) {h : Heap} {N : Nat} (H : IxRow v P n h (List.range' 0 N)) (hN : N ≤ 1048576) :
    FCall Tryz.prog F_slices_SortStableFunc_sl_int_int #[v, f] h fun _ h' => ∃ S : List Nat, S.Perm (List.range N) ∧ S.Pairwise (lead r) ∧ IxRow v P n h' S ∧ Fr (blk v) h h' := by
  apply ok_slices_SortStableFunc_sl_int_int
  unfold sh_slices_SortStableFunc_sl_int_int
  have ho := H.own
  rw [List.length_range'] at ho
  obtain ⟨a, cap, e⟩ := ho.isSl
  have e2 : lenslV v = some (iv N) := by rw [e]; rfl
  rw [e2, vK_some]
  exact c_stable C H hN
end
end Go.Proofs.YtefdokfnnokagaaGreatDoor
