/- Weights that come to one (taps): sums, sizes, what may be, a user's kernel, Gauss's, a blur's: the program's. Conditions: none. -/
import Derived.Test.YtefdokfnnokagaaGreatDoorUf
import Derived.Test.YtefdokfnnokagaaGreatDoorTg
import Derived.Test.YtefdokfnnokagaaGreatDoorEg
set_option linter.unusedVariables false
set_option linter.unusedSimpArgs false
set_option maxRecDepth 10000
namespace Go.Proofs.YtefdokfnnokagaaGreatDoor
open Go Go.Crisp
attribute [local irreducible] FCall rowK newK stK iteK vK qK drawK gK joinK loopK mkK appK cpyK nextStrK rangeStrK bsK clK

/-- A row of numbers, as it reads. -/
abbrev SlI (Z : Nat → Prop) (h : Heap) (v : Value) (l : List Int) : Prop := Rp.Sl (Rp.int .i64) Z h v l
theorem take_fold {f : Int → Int → Int} {l : List Int} {i : Nat} (h : i < l.length) (s : Int) : (l.take (i + 1)).foldl f s = f ((l.take i).foldl f s) l[i] := by
  rw [List.take_succ_eq_append_getElem h, List.foldl_append]; rfl
theorem c_tapsSize {h : Heap} {x : Int} (hx : I64 x) : FCall Tryz.prog F_taps_size #[.int .i64 x] h fun r h' => r = .int .i64 (sizeZ x) ∧ h' = h := by
  apply ok_taps_size
  unfold sh_taps_size
  refine (c_fixedMul hx (by unfold I64; omega)).mono fun v1 h1 ⟨e1, w1⟩ => ?_
  subst e1 w1
  simp only [go_sem]
  exact ⟨rfl, trivial⟩
theorem c_tapsSum {Z : Nat → Prop} {h : Heap} {v : Value} {l : List Int} (H : SlI Z h v l) (h64 : ∀ x ∈ l, I64 x) (hl : l.length < 4611686018427387904) : FCall Tryz.prog F_taps_Sum #[v] h fun r h' => r = .int .i64 (sumZ l) ∧ h' = h := by
  apply ok_taps_Sum
  unfold sh_taps_Sum
  obtain ⟨a, cap, e⟩ := H.isSl
  have e2 : lenslV v = some (.int .i64 (l.length : Int)) := by rw [e]; rfl
  rw [e2, vK_some]
  refine loop_st (fun i => [.int .i64 ((l.take i).foldl addZ 0), .int .i64 (i : Int)]) l.length 0 rfl (Nat.zero_le _) fun i again ρj _ hi Hag => ?_
  simp only [go_sem]
  refine iteK_dec (fun h0 => ?_) (fun h0 => ?_)
  · have hi' : i < l.length := by omega
    obtain ⟨p, e3, e4⟩ := H.int_at (k' := .i64) hi'
    simp only [go_sem, e3, e4]
    refine (c_fixedAdd (foldl_I64 addZ_i64 _ _ I64_zero) (h64 _ (List.getElem_mem _))).mono fun v1 h1 ⟨e1, w1⟩ => ?_
    subst e1 w1
    rw [w64 (by omega) (by omega)]
    have := Hag hi'
    rw [take_fold hi'] at this
    exact this
  · rw [List.take_of_length_le (by omega)]
    exact ⟨rfl, trivial⟩
theorem c_tapsSizes {Z : Nat → Prop} {h : Heap} {v : Value} {l : List Int} (H : SlI Z h v l) (h64 : ∀ x ∈ l, I64 x) (hl : l.length < 4611686018427387904) : FCall Tryz.prog F_taps_Size #[v] h fun r h' => r = .int .i64 (sizesZ l) ∧ h' = h := by
  apply ok_taps_Size
  unfold sh_taps_Size
  obtain ⟨a, cap, e⟩ := H.isSl
  have e2 : lenslV v = some (.int .i64 (l.length : Int)) := by rw [e]; rfl
  rw [e2, vK_some]
  refine loop_st (fun i => [.int .i64 ((l.take i).foldl (fun s x => addZ s (sizeZ x)) 0), .int .i64 (i : Int)]) l.length 0 rfl (Nat.zero_le _) fun i again ρj _ hi Hag => ?_
  simp only [go_sem]
  refine iteK_dec (fun h0 => ?_) (fun h0 => ?_)
  · have hi' : i < l.length := by omega
    obtain ⟨p, e3, e4⟩ := H.int_at (k' := .i64) hi'
    simp only [go_sem, e3, e4]
    have hx := h64 _ (List.getElem_mem hi')
    refine (c_tapsSize hx).mono fun v1 h1 ⟨e1, w1⟩ => ?_
    subst e1 w1
    refine (c_fixedAdd (foldl_I64 (fun a b => addZ_i64 a (sizeZ b)) _ _ I64_zero) (sizeZ_I64 hx)).mono fun v1 h1 ⟨e1, w1⟩ => ?_
    subst e1 w1
    try simp only [go_sem]
    rw [w64 (by omega) (by omega)]
    have := Hag hi'
    rw [take_fold hi'] at this
    exact this
  · rw [List.take_of_length_le (by omega)]
    exact ⟨rfl, trivial⟩
theorem c_check1 {h : Heap} {x : Int} (hx : I64 x) : FCall Tryz.prog F_taps_check_c1 #[.int .i64 x] h fun r h' => r = .bool (decide (1099511627776 < sizeZ x)) ∧ h' = h := by
  apply ok_taps_check_c1
  unfold sh_taps_check_c1
  refine (c_tapsSize hx).mono fun v1 h1 ⟨e1, w1⟩ => ?_
  subst e1 w1
  simp only [go_sem]
  exact ⟨by simp, by simp⟩
section
attribute [local semireducible] clK
theorem clK_0 {f : FuncId} {a : Value} {h : Heap} {K : Value → Heap → Prop} : clK Tryz.prog (.func (.func f) #[] #[]) #[a] h K = FCall Tryz.prog f #[a] h K := rfl
theorem clK_2 {f : FuncId} {a b c : Value} {h : Heap} {K : Value → Heap → Prop} : clK Tryz.prog (.func (.func f) #[] #[c]) #[a, b] h K = FCall Tryz.prog f #[a, b, c] h K := rfl
end
theorem c_containsFn {Z : Nat → Prop} {h : Heap} {v : Value} {l : List Int} (H : SlI Z h v l) (h64 : ∀ x ∈ l, I64 x) (hl : l.length < 4611686018427387904) :
    FCall Tryz.prog F_slices_ContainsFunc_sl_int64_int64 #[v, .func (.func F_taps_check_c1) #[] #[]] h fun r h' => r = .bool (decide (∃ x ∈ l, 1099511627776 < sizeZ x)) ∧ h' = h := by
  apply ok_slices_ContainsFunc_sl_int64_int64
  unfold sh_slices_ContainsFunc_sl_int64_int64
  refine FCall.mono (K := fun r h' => (∃ n : Int, r = .int .i64 n ∧ (0 ≤ n ↔ ∃ x ∈ l, 1099511627776 < sizeZ x)) ∧ h' = h) ?_ ?_
  · apply ok_slices_IndexFunc_sl_int64_int64
    unfold sh_slices_IndexFunc_sl_int64_int64
    obtain ⟨a, cap, e⟩ := H.isSl
    have e2 : lenslV v = some (.int .i64 (l.length : Int)) := by rw [e]; rfl
    rw [e2, vK_some]
    refine loop_g l.length 0 (fun i (_ : Unit) => [.int .i64 (i : Int)]) (fun i _ h' => h' = h ∧ ∀ x ∈ l.take i, ¬ 1099511627776 < sizeZ x) () rfl (Nat.zero_le _) ⟨rfl, by simp⟩ fun i _ h1 again ρj _ hi ⟨hh, hI⟩ Hag => ?_
    subst hh
    simp only [go_sem]
    refine iteK_dec (fun h0 => ?_) (fun h0 => ?_)
    · have hi' : i < l.length := by omega
      obtain ⟨p, e3, e4⟩ := H.int_at (k' := .i64) hi'
      simp only [go_sem, e3, e4]
      rw [clK_0]
      refine (c_check1 (h64 _ (List.getElem_mem hi'))).mono fun v1 h2 ⟨e1, w1⟩ => ?_
      subst e1 w1
      refine iteK_dec (fun h3 => ?_) (fun h3 => ?_)
      · exact ⟨⟨i, rfl, fun _ => ⟨_, List.getElem_mem hi', h3⟩, fun _ => by omega⟩, rfl⟩
      · rw [w64 (by omega) (by omega)]
        refine Hag () _ hi' ⟨rfl, fun x hx => ?_⟩
        rw [List.take_succ_eq_append_getElem hi'] at hx
        rcases List.mem_append.1 hx with hx | hx
        · exact hI x hx
        · rw [List.mem_singleton.1 hx]; exact h3
    · rw [List.take_of_length_le (by omega)] at hI
      exact ⟨⟨-1, rfl, fun h => by omega, fun ⟨x, hx, h3⟩ => absurd h3 (hI x hx)⟩, by first | rfl | trivial⟩
  · rintro r h' ⟨⟨n, rfl, hn⟩, rfl⟩
    simp only [go_sem]
    refine ⟨?_, trivial⟩
    congr 1
    rw [decide_eq_decide]; exact hn
theorem c_tapsCheck {Z : Nat → Prop} {h : Heap} {v : Value} {l : List Int} (H : SlI Z h v l) (h64 : ∀ x ∈ l, I64 x) (hl : l.length < 4611686018427387904) : FCall Tryz.prog F_taps_check #[v] h fun r h' => r = .int .i64 (checkZ l) ∧ h' = h := by
  apply ok_taps_check
  unfold sh_taps_check
  obtain ⟨a, cap, e⟩ := H.isSl
  have e2 : lenslV v = some (.int .i64 (l.length : Int)) := by rw [e]; rfl
  simp only [go_sem, e2]
  unfold checkZ
  refine gK_f (fun hb => ?_) (fun hb => ?_)
  · have hb := of_decide_eq_false hb
    have e3 : decide ((l.length : Int) = 0 ∨ 1048576 < (l.length : Int)) = false := decide_eq_false hb
    simp only [go_sem, e3]
    refine (c_containsFn H h64 hl).mono fun v1 h1 ⟨e1, w1⟩ => ?_
    subst e1 w1
    simp only [go_sem]
    refine iteK_dec (fun h0 => ?_) (fun h0 => ?_)
    · have hB : badW l := .inr (.inr h0)
      rw [if_pos hB]; exact ⟨by simp, by simp⟩
    · have hB : ¬ badW l := by unfold badW; rintro (h2 | h2 | h2); omega; omega; exact h0 h2
      rw [if_neg hB]
      refine (c_tapsSum H h64 hl).mono fun v1 h1 ⟨e1, w1⟩ => ?_
      subst e1 w1
      simp only [go_sem]
      refine iteK_dec (fun h3 => ?_) (fun h3 => ?_)
      · rw [if_pos h3]; exact ⟨by simp, by simp⟩
      · rw [if_neg h3]; exact ⟨by simp, by simp⟩
  · have hb2 := of_decide_eq_true hb
    have hB : badW l := by unfold badW; rcases hb2 with h2 | h2; exact .inl (by omega); exact .inr (.inl (by omega))
    simp only [go_sem, hb]
    rw [if_pos hB]
    exact ⟨by simp, by simp⟩

/-! ### kernels -/
def userBad (l : List Int) : Prop := l.length % 2 = 0 ∨ 1024 < l.length ∨ sizesZ l < 1 ∨ 1048576 < sizesZ l
instance (l : List Int) : Decidable (userBad l) := by unfold userBad; infer_instance
/-- A user's kernel: the code, and the raw weights. -/
def userC (l : List Int) : Int := if userBad l then 7 else 0
def userW (l : List Int) : List Int := if userBad l then [] else l.map fun x => mulDivZ x 1073741824 (sizesZ l)
theorem map_take_succ {α β : Type} (g : α → β) (l : List α) {k : Nat} (h : k < l.length) : (l.map g).take (k + 1) = (l.map g).take k ++ [g l[k]] := by
  rw [List.take_succ_eq_append_getElem (by simpa using h)]
  simp
theorem c_tapsUser {Z : Nat → Prop} {h : Heap} {v : Value} {l : List Int} (H : SlI Z h v l) (h64 : ∀ x ∈ l, I64 x) (hl : l.length < 4611686018427387904) :
    FCall Tryz.prog F_taps_User #[v] h fun r h' => ∃ u, r = .tuple #[u, .int .i64 (userC l)] ∧ New (Rp.int .i64) h h' u (userW l) := by
  apply ok_taps_User
  unfold sh_taps_User
  refine (c_tapsSizes H h64 hl).mono fun v1 h1 ⟨e1, w1⟩ => ?_
  subst e1 w1
  obtain ⟨a, cap, e⟩ := H.isSl
  have e2 : lenslV v = some (.int .i64 (l.length : Int)) := by rw [e]; rfl
  simp only [go_sem, e2]
  rw [binV_rem _ _ _ _ (by omega), vK_some, Int.tmod_eq_emod_of_nonneg (by omega)]
  simp only [go_sem, e2]
  unfold userC userW
  have hs := sizesZ_I64 l
  refine iteK_dec (fun h0 => ?_) (fun h0 => ?_)
  · have : userBad l := by unfold userBad; omega
    rw [if_pos this, if_pos this]
    exact ⟨_, rfl, New.nil (Ext.refl _)⟩
  · have hn : ¬ userBad l := by unfold userBad; omega
    rw [if_neg hn, if_neg hn]
    refine loop_g l.length 0 (fun k u => [u, .int .i64 (k : Int)]) (fun k u h' => New (Rp.int .i64) h1 h' u ((l.map fun x => mulDivZ x 1073741824 (sizesZ l)).take k)) (.slice none 0 0) rfl (Nat.zero_le _) (New.nil (Ext.refl _)) fun k u h2 again ρj _ hk hI Hag => ?_
    simp only [go_sem]
    refine iteK_dec (fun h0 => ?_) (fun h0 => ?_)
    · have hk' : k < l.length := by omega
      obtain ⟨p, e3, e4⟩ := (H.ext hI.2.1).int_at (k' := .i64) hk'
      simp only [go_sem, e3, e4]
      refine (c_MulDiv (h64 _ (List.getElem_mem _)) (by unfold I64; omega) hs).mono fun v2 h3 ⟨e5, w5⟩ => ?_
      subst e5 w5
      have hlen : ((l.map fun x => mulDivZ x 1073741824 (sizesZ l)).take k).length = k := by rw [List.length_take, List.length_map]; omega
      unfold userBad at hn
      refine hI.push_int rfl (by rw [hlen]; omega) (by rw [hlen]; omega) fun s' h' H' => ?_
      try rw [binV_add, vK_some]
      rw [w64 (by omega) (by omega)]
      have := Hag s' h' hk' (by rw [map_take_succ _ _ hk']; exact H')
      exact this
    · rw [List.take_of_length_le (by rw [List.length_map]; omega)] at hI
      exact ⟨u, rfl, hI⟩
theorem userW_I64 (l : List Int) : ∀ x ∈ userW l, I64 x := by
  unfold userW
  split
  · simp
  · intro x hx
    obtain ⟨y, _, rfl⟩ := List.mem_map.1 hx
    exact mulDivZ_I64 _ _ _
def gaussBad (s : Int) : Prop := s < 1 ∨ 4194304 < s
instance (s : Int) : Decidable (gaussBad s) := by unfold gaussBad; infer_instance
def gaussRad (s : Int) : Int := (3 * s + 65535) / 65536
def gaussC (s : Int) : Int := if gaussBad s then 7 else 0
def gaussW (s : Int) : List Int := if gaussBad s then [] else (List.range (2 * gaussRad s + 1).toNat).map fun k : Nat => gaussZ ((k : Int) - gaussRad s) s
theorem gaussW_I64 (s : Int) : ∀ x ∈ gaussW s, I64 x := by
  unfold gaussW
  split
  · simp
  · intro x hx
    obtain ⟨y, _, rfl⟩ := List.mem_map.1 hx
    exact gaussZ_I64 _ _
theorem c_Gaussian {h : Heap} {s : Int} (hs : I64 s) : FCall Tryz.prog F_taps_Gaussian #[.int .i64 s] h fun r h' => ∃ u, r = .tuple #[u, .int .i64 (gaussC s)] ∧ New (Rp.int .i64) h h' u (gaussW s) := by
  apply ok_taps_Gaussian
  unfold sh_taps_Gaussian
  simp only [go_sem]
  unfold gaussC gaussW
  refine iteK_dec (fun h0 => ?_) (fun h0 => ?_)
  · have : gaussBad s := h0
    rw [if_pos this, if_pos this]
    exact ⟨_, rfl, New.nil (Ext.refl _)⟩
  · have hn : ¬ gaussBad s := h0
    rw [if_neg hn, if_neg hn]
    rw [w64 (n := 3 * s) (by omega) (by omega), w64 (n := 3 * s + 65536) (by omega) (by omega), w64 (n := 3 * s + 65536 - 1) (by omega) (by omega)]
    have e1 : binV .i .shr (.int .i64 (3 * s + 65536 - 1)) (.int .u64 16) = some (.int .i64 (gaussRad s)) := by
      show (if (16 : Int) < 0 then none else some (Value.int .i64 ((3 * s + 65536 - 1).fdiv (2 ^ (min (16 : Int).toNat 64))))) = _
      rw [if_neg (by omega), Int.fdiv_eq_ediv_of_nonneg _ (by decide)]
      unfold gaussRad
      congr 2
      rw [show 3 * s + 65536 - 1 = 3 * s + 65535 by omega]; rfl
    rw [e1, vK_some]
    have hr : 0 ≤ gaussRad s ∧ gaussRad s ≤ 193 := by unfold gaussRad; omega
    generalize gaussRad s = q at *
    simp only [go_sem]
    rw [w64 (n := 0 - q) (by omega) (by omega)]
    obtain ⟨N, hN⟩ : ∃ N, N = (2 * q + 1).toNat := ⟨_, rfl⟩
    rw [← hN]
    refine loop_g N 0 (fun k u => [u, .int .i64 ((k : Int) - q)]) (fun k u h' => New (Rp.int .i64) h h' u (((List.range N).map fun k : Nat => gaussZ ((k : Int) - q) s).take k)) (.slice none 0 0) rfl (Nat.zero_le _) (New.nil (Ext.refl _)) fun k u h2 again ρj _ hk hI Hag => ?_
    simp only [go_sem]
    refine iteK_dec (fun h3 => ?_) (fun h3 => ?_)
    · have hk' : k < N := by omega
      refine (c_Gauss (by unfold I64; omega) hs).mono fun v2 h3 ⟨e5, w5⟩ => ?_
      subst e5 w5
      have hlen : (((List.range N).map fun k : Nat => gaussZ ((k : Int) - q) s).take k).length = k := by rw [List.length_take, List.length_map, List.length_range]; omega
      refine hI.push_int rfl (by rw [hlen]; omega) (by rw [hlen]; omega) fun s' h' H' => ?_
      try rw [binV_add, vK_some]
      rw [w64 (by omega) (by omega)]
      have := Hag s' h' hk' (by rw [take_range_map _ _ _ hk']; exact H')
      rw [show ((k + 1 : Nat) : Int) - q = (k : Int) - q + 1 by omega] at this
      exact this
    · rw [List.take_of_length_le (by rw [List.length_map, List.length_range]; omega)] at hI
      exact ⟨u, rfl, hI⟩
end Go.Proofs.YtefdokfnnokagaaGreatDoor
