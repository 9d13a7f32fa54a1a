/- Tables (table): a filter's, of raw weights; a line, a reach: the program's. Conditions: none. -/
import Derived.Test.YtefdokfnnokagaaGreatDoorVd
import Derived.Test.YtefdokfnnokagaaGreatDoorGk
set_option linter.unusedVariables false
set_option linter.unusedSimpArgs false
set_option maxRecDepth 10000
namespace Go.Crisp
open Go
/-- What is wrong first. -/
def firstBad (g : Nat → Int) : Nat → Int
  | 0 => 0
  | k + 1 => if firstBad g k ≠ 0 then firstBad g k else g k
theorem firstBad_stop {g : Nat → Int} {k n : Nat} (h : firstBad g k ≠ 0) (hk : k ≤ n) : firstBad g n = firstBad g k := by
  induction n with
  | zero => have : k = 0 := by omega
            rw [this]
  | succ n ih =>
    rcases Nat.lt_or_ge n k with h1 | h1
    · have : k = n + 1 := by omega
      rw [this]
    · have := ih h1
      show (if firstBad g n ≠ 0 then firstBad g n else g n) = _
      rw [this, if_pos h]
end Go.Crisp
namespace Go.Proofs.YtefdokfnnokagaaGreatDoor
open Go Go.Crisp
attribute [local irreducible] FCall rowK newK stK iteK vK qK drawK gK joinK loopK mkK appK cpyK nextStrK rangeStrK bsK clK

def sideOk (n : Int) : Prop := 1 ≤ n ∧ n ≤ 65536
instance (n : Int) : Decidable (sideOk n) := by unfold sideOk; infer_instance
theorem fNameNil (f : Int) : fName f = [] ↔ ¬ (0 ≤ f ∧ f < 3) := by
  unfold fName
  split
  · constructor
    · intro h; cases h
    · intro h; omega
  split
  · constructor
    · intro h; cases h
    · intro h; omega
  split
  · constructor
    · intro h; cases h
    · intro h; omega
  · constructor
    · intro _; omega
    · intro _; rfl
def resizeC (f n m : Int) : Int := if ¬ (0 ≤ f ∧ f < 3) ∨ ¬ sideOk n ∨ ¬ sideOk m then 6 else firstBad (fun i => checkZ (rowAll f n m i)) m.toNat
def resizeT (f n m : Int) : Tbl := ⟨n, (List.range m.toNat).map fun i : Nat => (rowFirst f n m i, apportZ (rowAll f n m i))⟩
theorem rowAll_I64 (f n m i : Int) : ∀ x ∈ rowAll f n m i, I64 x := by
  unfold rowAll
  split
  · intro x hx
    unfold rowW at hx
    obtain ⟨k, _, rfl⟩ := List.mem_map.1 hx
    exact weighZ_I64 _ _ _ _ _
  · simp
theorem rowAll_len (f n m i : Int) : (rowAll f n m i).length < 4611686018427387904 := by
  unfold rowAll
  split
  · rename_i h
    unfold rowW
    rw [List.length_map, List.length_range]
    have := low_bd h
    omega
  · simp
/-- What is apportioned: its bounds. -/
theorem apportZ_bd {l : List Int} (h64 : ∀ x ∈ l, I64 x) : (apportZ l).length ≤ 1048576 ∧ ∀ x ∈ apportZ l, -67108864 ≤ x ∧ x ≤ 67108865 := by
  unfold apportZ
  split
  · rename_i h
    have G := goodW h64 h
    exact ⟨by rw [tapsOf_len]; exact G.len, tapsOf_bd G⟩
  · simp
theorem apportZ_I64 {l : List Int} (h64 : ∀ x ∈ l, I64 x) : ∀ x ∈ apportZ l, I64 x := fun x hx => by
  have := (apportZ_bd h64).2 x hx
  unfold I64; omega
/-- What a function hands on that makes a table, or tells what is wrong. -/
def TblOut (h : Heap) (code : Int) (t : Tbl) (r : Value) (h' : Heap) : Prop := ∃ p, r = .tuple #[p, .int .i64 code] ∧ Ext h h' ∧ (code ≠ 0 → p = .pointer none) ∧ (code = 0 → IsTbl (fun c => h.size ≤ c ∧ c < h'.size) h' p t)
theorem c_Resize {h : Heap} (G : GlobB h) {f n m : Int} (hf : I64 f) (hn : I64 n) (hm : I64 m) : FCall Tryz.prog F_table_Resize #[.int .i64 f, .int .i64 n, .int .i64 m] h (TblOut h (resizeC f n m) (resizeT f n m)) := by
  apply ok_table_Resize
  unfold sh_table_Resize
  refine (c_rawName G).mono fun v1 h1 ⟨e1, w1⟩ => ?_
  subst e1 w1
  rw [S_nil, binS_eql, vK_some]
  unfold resizeC
  have hnm := fNameNil f
  have bad : (¬ (0 ≤ f ∧ f < 3) ∨ ¬ sideOk n ∨ ¬ sideOk m) → TblOut h1 (if ¬ (0 ≤ f ∧ f < 3) ∨ ¬ sideOk n ∨ ¬ sideOk m then 6 else firstBad (fun i => checkZ (rowAll f n m i)) m.toNat) (resizeT f n m) (.tuple #[.pointer none, .int .i64 6]) h1 := by
    intro hb
    rw [if_pos hb]
    exact ⟨_, rfl, Ext.refl _, fun _ => rfl, fun h => by cases h⟩
  by_cases h0 : fName f = []
  · have hbad := bad (.inl (hnm.1 h0))
    simp only [go_sem, h0]
    exact hbad
  have hf3 : 0 ≤ f ∧ f < 3 := Decidable.of_not_not fun h => h0 (hnm.2 h)
  simp only [go_sem, h0]
  refine c_tableSide.mono fun v1 h2 ⟨e1, w1⟩ => ?_
  subst e1 w1
  by_cases hsn : ¬ sideOk n
  · have hbad := bad (.inr (.inl hsn))
    have q : (1 ≤ n ∧ n ≤ 65536) = False := eq_false hsn
    simp only [go_sem, q]
    exact hbad
  have hsn : sideOk n := Decidable.of_not_not hsn
  have q : (1 ≤ n ∧ n ≤ 65536) = True := eq_true hsn
  simp only [go_sem, q]
  refine c_tableSide.mono fun v1 h3 ⟨e1, w1⟩ => ?_
  subst e1 w1
  by_cases hsm : ¬ sideOk m
  · have hbad := bad (.inr (.inr hsm))
    have q : (1 ≤ m ∧ m ≤ 65536) = False := eq_false hsm
    simp only [go_sem, q]
    exact hbad
  have hsm : sideOk m := Decidable.of_not_not hsm
  have q : (1 ≤ m ∧ m ≤ 65536) = True := eq_true hsm
  simp only [go_sem, q, fill_41 (a := .int .i64 n) rfl, Option.map_some]
  rw [if_neg (by rintro (h | h | h); exact h hf3; exact h hsn; exact h hsm)]
  clear bad q
  refine newK_use fun b h4 r4 e4 n4 => ?_
  have hsn' := hsn
  have hsm' := hsm
  unfold sideOk at hsn' hsm'
  have lines_len : ∀ k : Nat, ((List.range k).map fun i : Nat => (rowFirst f n m i, apportZ (rowAll f n m i))).length = k := fun k => by simp
  refine loop_g m.toNat 0 (fun k (_ : Unit) => [.int .i64 (k : Int)]) (fun k _ h' => firstBad (fun i => checkZ (rowAll f n m i)) k = 0 ∧ ∃ Z lv, TblAt h3 Z h' b 55 lv n ((List.range k).map fun i : Nat => (rowFirst f n m i, apportZ (rowAll f n m i)))) () rfl (Nat.zero_le _)
    ⟨rfl, fun _ => False, _, e4, r4, Rp.Ow.nil, n4, fun c hc => hc.elim, id, id, fun c hc => hc.elim⟩ fun k _ h5 again ρj _ hk ⟨hg, Z, lv, T⟩ Hag => ?_
  try simp only [go_sem]
  refine iteK_dec (fun h6 => ?_) (fun h6 => ?_)
  · have hk' : k < m.toNat := by omega
    have G5 := G.ext T.ext
    refine (c_rawRow G5).mono fun w h7 ⟨v, e, Nw⟩ => ?_
    subst e
    try simp only [go_sem]
    refine (c_Apportion Nw.sl (rowAll_I64 _ _ _ _) (rowAll_len _ _ _ _)).mono fun w h8 ⟨u, e, Nu⟩ => ?_
    subst e
    try simp only [go_sem]
    refine iteK_dec (fun h9 => ?_) (fun h9 => ?_)
    · have hc : firstBad (fun i => checkZ (rowAll f n m i)) (k + 1) = checkZ (rowAll f n m k) := by
        show (if firstBad (fun i => checkZ (rowAll f n m i)) k ≠ 0 then _ else _) = _
        rw [if_neg (by rw [hg]; simp)]
      have hs := firstBad_stop (g := fun i => checkZ (rowAll f n m i)) (k := k + 1) (n := m.toNat) (by rw [hc]; exact h9) hk'
      rw [hs, hc]
      exact ⟨_, rfl, (T.ext.trans Nw.2.1).trans Nu.2.1, fun _ => rfl, fun h => absurd h h9⟩
    · have h9 : checkZ (rowAll f n m k) = 0 := Decidable.of_not_not h9
      have bd := apportZ_bd (rowAll_I64 f n m k)
      have T2 : TblAt h3 (fun c => Z c ∨ blk u c) h8 b 55 lv n _ := T.more (Z' := fun c => Z c ∨ blk u c) (Nw.2.1.trans Nu.2.1) (fun c => .inl) fun c hc hz => by
        rcases hc with hc | hc
        · exact absurd hc hz
        · exact ⟨Nat.le_trans Nw.2.1.1 (Nu.2.2 c hc), Nu.1.lt hc⟩
      refine (c_tableAdd T2 (Nu.sl.mono fun c _ hc => .inr hc) (apportZ_I64 (rowAll_I64 _ _ _ _)) (by omega) (by rw [lines_len]; omega)).mono fun w h10 ⟨lv', T3, _⟩ => ?_
      rw [w64 (by omega) (by omega)]
      refine Hag () h10 hk' ⟨?_, fun c => Z c ∨ blk u c, lv', ?_⟩
      · show (if firstBad (fun i => checkZ (rowAll f n m i)) k ≠ 0 then _ else _) = _
        rw [if_neg (by rw [hg]; simp)]
        exact h9
      · rw [List.range_succ, List.map_append]
        exact T3
  · have : k = m.toNat := by omega
    subst this
    exact ⟨_, by rw [hg], T.ext, fun h => absurd hg h, fun _ => T.done⟩
def filterC (l : List Int) (n : Int) : Int := if ¬ sideOk n then 6 else if l.length % 2 = 0 then 7 else checkZ l
def filterT (l : List Int) (n : Int) : Tbl := ⟨n, (List.range n.toNat).map fun i : Nat => ((i : Int) - (l.length / 2 : Nat), apportZ l)⟩
theorem c_Filter {h : Heap} {Z : Nat → Prop} {v : Value} {l : List Int} {n : Int} (H : SlI Z h v l) (h64 : ∀ x ∈ l, I64 x) (hl : l.length < 4611686018427387904) (hn : I64 n) : FCall Tryz.prog F_table_Filter #[v, .int .i64 n] h (TblOut h (filterC l n) (filterT l n)) := by
  apply ok_table_Filter
  unfold sh_table_Filter
  refine c_tableSide.mono fun v1 h1 ⟨e1, w1⟩ => ?_
  subst e1 w1
  unfold filterC
  obtain ⟨a, cap, e⟩ := H.isSl
  have e2 : lenslV v = some (.int .i64 (l.length : Int)) := by rw [e]; rfl
  by_cases hsn : ¬ sideOk n
  · rw [if_pos hsn]
    have q : (1 ≤ n ∧ n ≤ 65536) = False := eq_false hsn
    simp only [go_sem, q]
    exact ⟨_, rfl, Ext.refl _, fun _ => rfl, fun h => by cases h⟩
  rw [if_neg hsn]
  have hsn : sideOk n := Decidable.of_not_not hsn
  have q : (1 ≤ n ∧ n ≤ 65536) = True := eq_true hsn
  have hsn' := hsn
  unfold sideOk at hsn'
  simp only [go_sem, q, e2]
  rw [binV_rem _ _ _ _ (by omega), vK_some, Int.tmod_eq_emod_of_nonneg (by omega)]
  simp only [go_sem]
  refine iteK_dec (fun h0 => ?_) (fun h0 => ?_)
  · rw [if_pos (by omega)]
    exact ⟨_, rfl, Ext.refl _, fun _ => rfl, fun h => by cases h⟩
  rw [if_neg (by omega)]
  refine (c_Apportion H h64 hl).mono fun w h2 ⟨u, e, Nu⟩ => ?_
  subst e
  simp only [go_sem]
  refine iteK_dec (fun h9 => ?_) (fun h9 => ?_)
  · exact ⟨_, rfl, Nu.2.1, fun _ => rfl, fun h => absurd h h9⟩
  have h9 : checkZ l = 0 := Decidable.of_not_not h9
  have hal : (apportZ l).length = l.length := by unfold apportZ; rw [if_pos h9, tapsOf_len]
  have bd := apportZ_bd h64
  simp only [fill_41 (a := .int .i64 n) rfl, Option.map_some, vK_some, cells_agg]
  refine newK_use fun b h4 r4 e4 n4 => ?_
  have lines_len : ∀ k : Nat, ((List.range k).map fun i : Nat => ((i : Int) - (l.length / 2 : Nat), apportZ l)).length = k := fun k => by simp
  refine loop_g n.toNat 0 (fun k (_ : Unit) => [.int .i64 (k : Int)]) (fun k _ h' => ∃ lv, TblAt h1 (blk u) h' b 55 lv n ((List.range k).map fun i : Nat => ((i : Int) - (l.length / 2 : Nat), apportZ l)) ∧ SlI (blk u) h' u (apportZ l)) () rfl (Nat.zero_le _)
    ⟨_, ⟨Nu.2.1.trans e4, r4, Rp.Ow.nil, Nat.le_trans Nu.2.1.1 n4, fun c hc => hc.elim, fun hc => by have := Nu.1.lt hc; omega, id, fun c hc => ⟨Nu.2.2 c hc, by have := Nu.1.lt hc; have := e4.1; omega⟩⟩, Nu.sl.ext e4⟩ fun k _ h5 again ρj _ hk ⟨lv, T, Hu⟩ Hag => ?_
  try simp only [go_sem]
  refine iteK_dec (fun h6 => ?_) (fun h6 => ?_)
  · have hk' : k < n.toNat := by omega
    obtain ⟨au, cu, eu⟩ := Hu.isSl
    have eu2 : lenslV u = some (.int .i64 (l.length : Int)) := by rw [eu, hal]; rfl
    simp only [go_sem, eu2]
    rw [binV_quo _ _ _ _ (by omega), vK_some, Int.tdiv_eq_ediv_of_nonneg (by omega), w64 (n := (l.length : Int) / 2) (by omega) (by omega)]
    simp only [go_sem]
    rw [w64 (n := (k : Int) - (l.length : Int) / 2) (by omega) (by omega), show (k : Int) - (l.length : Int) / 2 = (k : Int) - (l.length / 2 : Nat) by omega]
    refine (c_tableAdd T Hu (apportZ_I64 h64) (by omega) (by rw [lines_len]; omega)).mono fun w h10 ⟨lv', T3, F3⟩ => ?_
    try simp only [go_sem]
    rw [w64 (by omega) (by omega)]
    have hd : ∀ c, blk u c → ¬ (c = b ∨ blk lv c) := fun c hc hm => by
      rcases hm with rfl | hm
      · exact T.zb hc
      · obtain ⟨ds, _, h2, _⟩ := T.ow
        exact h2 c hm hc
    refine Hag () h10 hk' ⟨lv', ?_, Hu.fr F3 fun c _ hc => hd c hc⟩
    rw [List.range_succ, List.map_append]
    exact T3
  · have : k = n.toNat := by omega
    subst this
    exact ⟨_, by rw [h9], T.ext, fun h => absurd h9 h, fun _ => T.done⟩

/-! ### what a table tells -/
theorem c_To {Z : Nat → Prop} {h : Heap} {p : Value} {t : Tbl} (H : IsTbl Z h p t) : FCall Tryz.prog F_table_Table_To #[p] h fun r h' => r = .int .i64 (t.lines.length : Int) ∧ h' = h := by
  apply ok_table_Table_To
  unfold sh_table_Table_To
  obtain ⟨b, lv, rfl, c0, c1, c2, c3, hl, _⟩ := H.open
  obtain ⟨a, cap, e⟩ := hl.isSl
  have e2 : lenslV lv = some (.int .i64 (t.lines.length : Int)) := by rw [e]; rfl
  simp only [go_sem, c1, e2]
  exact ⟨by simp, by simp⟩
theorem c_Most {Z : Nat → Prop} {h : Heap} {p : Value} {t : Tbl} (H : IsTbl Z h p t) : FCall Tryz.prog F_table_Table_Most #[p] h fun r h' => r = .int .i64 (mostL t.lines) ∧ h' = h := by
  apply ok_table_Table_Most
  unfold sh_table_Table_Most
  obtain ⟨b, lv, rfl, c0, c1, c2, c3, hl, _⟩ := H.open
  simp only [go_sem, c2]
  exact ⟨by simp, by simp⟩
theorem c_tblSize {Z : Nat → Prop} {h : Heap} {p : Value} {t : Tbl} (H : IsTbl Z h p t) : FCall Tryz.prog F_table_Table_Size #[p] h fun r h' => r = .int .i64 (sizeL t.lines) ∧ h' = h := by
  apply ok_table_Table_Size
  unfold sh_table_Table_Size
  obtain ⟨b, lv, rfl, c0, c1, c2, c3, hl, _⟩ := H.open
  simp only [go_sem, c3]
  exact ⟨by simp, by simp⟩
/-- A table's bounds. -/
structure _root_.Go.Crisp.Tbl.Wf (t : Tbl) : Prop where
  len : t.lines.length ≤ 65536
  taps : ∀ x ∈ t.lines, x.2.length ≤ 1048576 ∧ -70368744177664 ≤ x.1 ∧ x.1 ≤ 70368744177664
/-- A line of a table; of none a line of none. -/
def lineT (t : Tbl) (i : Int) : Int × List Int := if 0 ≤ i then t.lines.getD i.toNat (0, []) else (0, [])
/-- The source samples of some lines: the first one, and how many. -/
def reachF (ls : List (Int × List Int)) (x0 : Int) : Int := ls.foldl (fun m x => min m x.1) x0
def reachL (ls : List (Int × List Int)) (x0 : Int) : Int := ls.foldl (fun m x => max m (x.1 + (x.2.length : Int))) x0
def segT (t : Tbl) (i k : Nat) : List (Int × List Int) := (t.lines.drop i).take (k - i)
def reachT (t : Tbl) (i k : Int) : Int × Int :=
  if (min k (t.lines.length : Int)) ≤ max i 0 then (0, 0)
  else let i' := (max i 0).toNat; let k' := (min k (t.lines.length : Int)).toNat; let x0 := (t.lines.getD i' (0, [])).1
    (reachF (segT t i' k') x0, reachL (segT t i' k') x0 - reachF (segT t i' k') x0)
theorem fold_take_succ {β γ : Type} (f : γ → β → γ) (l : List β) {k : Nat} (h : k < l.length) (s : γ) : (l.take (k + 1)).foldl f s = f ((l.take k).foldl f s) l[k] := by
  rw [List.take_succ_eq_append_getElem h, List.foldl_append]; rfl
theorem reach_bd {ls : List (Int × List Int)} {x0 : Int} (h0 : -70368744177664 ≤ x0 ∧ x0 ≤ 70368744177664) (h : ∀ x ∈ ls, x.2.length ≤ 1048576 ∧ -70368744177664 ≤ x.1 ∧ x.1 ≤ 70368744177664) :
    (-70368744177664 ≤ reachF ls x0 ∧ reachF ls x0 ≤ 70368744177664) ∧ -70368744177664 ≤ reachL ls x0 ∧ reachL ls x0 ≤ 70369000000000 := by
  unfold reachF reachL
  have k1 : ∀ (ls : List (Int × List Int)) (m : Int), (∀ x ∈ ls, x.2.length ≤ 1048576 ∧ -70368744177664 ≤ x.1 ∧ x.1 ≤ 70368744177664) → -70368744177664 ≤ m ∧ m ≤ 70368744177664 → -70368744177664 ≤ ls.foldl (fun m x => min m x.1) m ∧ ls.foldl (fun m x => min m x.1) m ≤ 70368744177664 := by
    intro ls
    induction ls with
    | nil => intro m _ h; exact h
    | cons x ls ih => intro m h hm; have := h x (by simp); exact ih _ (fun y hy => h y (by simp [hy])) (by dsimp only; omega)
  have k2 : ∀ (ls : List (Int × List Int)) (m : Int), (∀ x ∈ ls, x.2.length ≤ 1048576 ∧ -70368744177664 ≤ x.1 ∧ x.1 ≤ 70368744177664) → -70368744177664 ≤ m ∧ m ≤ 70369000000000 → -70368744177664 ≤ ls.foldl (fun m x => max m (x.1 + (x.2.length : Int))) m ∧ ls.foldl (fun m x => max m (x.1 + (x.2.length : Int))) m ≤ 70369000000000 := by
    intro ls
    induction ls with
    | nil => intro m _ h; exact h
    | cons x ls ih => intro m h hm; have := h x (by simp); exact ih _ (fun y hy => h y (by simp [hy])) (by dsimp only; omega)
  exact ⟨k1 ls x0 h h0, k2 ls x0 h (by omega)⟩
end Go.Proofs.YtefdokfnnokagaaGreatDoor
