/- Tables (table): lines of taps, as they lie in memory; a line more. Conditions: none. -/
import Derived.Test.YtefdokfnnokagaaGreatDoorUh
set_option linter.unusedVariables false
set_option linter.unusedSimpArgs false
set_option maxRecDepth 10000
namespace Go.Crisp
open Go
theorem fill_0 (c : Array Value) : fillL c [] = some c := rfl
theorem fill_2 {a b x y : Value} (ha : oneCell a = true) (hb : oneCell b = true) : fillL #[x, y] [(0, 1, a), (1, 1, b)] = some #[a, b] := by
  simp only [fillL, cells_one ha, cells_one hb]
  rfl
theorem fill_41 {a x y z w : Value} (ha : oneCell a = true) : fillL #[x, y, z, w] [(0, 1, a)] = some #[a, y, z, w] := by
  simp only [fillL, cells_one ha]
  rfl
def mostL (ls : List (Int × List Int)) : Int := ls.foldl (fun m x => max m (x.2.length : Int)) 0
def sizeL (ls : List (Int × List Int)) : Int := ls.foldl (fun m x => max m (sizesZ x.2)) 0
theorem mostL_snoc (ls : List (Int × List Int)) (x : Int × List Int) : mostL (ls ++ [x]) = max (mostL ls) (x.2.length : Int) := by unfold mostL; rw [List.foldl_append]; rfl
theorem sizeL_snoc (ls : List (Int × List Int)) (x : Int × List Int) : sizeL (ls ++ [x]) = max (sizeL ls) (sizesZ x.2) := by unfold sizeL; rw [List.foldl_append]; rfl
/-- A line: the first one, and its taps. -/
def rLine : Rp (Int × List Int) where
  w := 2
  R := fun Z h cs x => ∃ v, cs = [.int .i64 x.1, v] ∧ Rp.Sl (Rp.int .i64) Z h v x.2
  len := by rintro _ _ _ _ ⟨v, rfl, _⟩; rfl
  one := by
    rintro _ _ _ _ ⟨v, rfl, H⟩ u hu
    rcases List.mem_cons.1 hu with rfl | hu
    · rfl
    · rw [List.mem_singleton.1 hu]; exact H.one
  fr := by rintro _ _ _ _ _ _ ⟨v, rfl, H⟩ f q; exact ⟨v, rfl, H.fr f q⟩
  mono := by rintro _ _ _ _ _ ⟨v, rfl, H⟩ q; exact ⟨v, rfl, H.mono q⟩
/-- A slice that isn't longer than its room. -/
def CapOk (v : Value) : Prop := ∃ a n c, v = .slice a n c ∧ n ≤ c
theorem Rp.Ow.cap {α : Type} {e : Rp α} {Z : Nat → Prop} {h : Heap} {v : Value} {l : List α} (H : Rp.Ow e Z h v l) : CapOk v := by
  obtain ⟨ds, o, _⟩ := H
  rcases o with ⟨rfl, _, _⟩ | ⟨b, cap, r, e, rfl, hc, _⟩
  · exact ⟨_, _, _, rfl, Nat.le_refl _⟩
  · exact ⟨_, _, _, rfl, hc⟩
structure Tbl where
  n : Int
  lines : List (Int × List Int)
/-- A table's variable. -/
def rTbl : Rp Tbl where
  w := 4
  R := fun Z h cs t => ∃ lv, cs = [.int .i64 t.n, lv, .int .i64 (mostL t.lines), .int .i64 (sizeL t.lines)] ∧ Rp.Sl rLine Z h lv t.lines ∧ CapOk lv
  len := by rintro _ _ _ _ ⟨v, rfl, _⟩; rfl
  one := by
    rintro _ _ _ _ ⟨v, rfl, H, _⟩
    exact ones_cons rfl (ones_cons H.one (ones_cons rfl (ones_cons rfl ones_nil)))
  fr := by rintro _ _ _ _ _ _ ⟨v, rfl, H, c⟩ f q; exact ⟨v, rfl, H.fr f q, c⟩
  mono := by rintro _ _ _ _ _ ⟨v, rfl, H, c⟩ q; exact ⟨v, rfl, H.mono q, c⟩
/-- A table, by its pointer. -/
abbrev IsTbl (Z : Nat → Prop) (h : Heap) (p : Value) (t : Tbl) : Prop := Rp.Pt rTbl Z h p t
theorem IsTbl.open {Z : Nat → Prop} {h : Heap} {p : Value} {t : Tbl} (H : IsTbl Z h p t) : ∃ b lv, p = .pointer (some ⟨b, 0, none⟩) ∧ cellOf h ⟨b, 0, none⟩ = some (.int .i64 t.n) ∧ cellOf h ⟨b, 1, none⟩ = some lv ∧ cellOf h ⟨b, 2, none⟩ = some (.int .i64 (mostL t.lines)) ∧
    cellOf h ⟨b, 3, none⟩ = some (.int .i64 (sizeL t.lines)) ∧ Rp.Sl rLine Z h lv t.lines ∧ Z b ∧ b < h.size ∧ CapOk lv := by
  obtain ⟨b, ds, ty, rfl, r, hz, lv, rfl, hl, hc⟩ := H
  exact ⟨b, lv, rfl, cell_row r, cell_row r, cell_row r, cell_row r, hl, hz, row_lt r, hc⟩
/-- A table that is being made. -/
structure TblAt (h0 : Heap) (Z : Nat → Prop) (h : Heap) (b : Nat) (ty : TypeId) (lv : Value) (n : Int) (ls : List (Int × List Int)) : Prop where
  ext : Ext h0 h
  row : h[b]? = some (.cells #[.int .i64 n, lv, .int .i64 (mostL ls), .int .i64 (sizeL ls)] ty (0, 0))
  ow : Rp.Ow rLine Z h lv ls
  nb : h0.size ≤ b
  nl : ∀ c, blk lv c → h0.size ≤ c
  zb : ¬ Z b
  lb : ¬ blk lv b
  zf : ∀ c, Z c → h0.size ≤ c ∧ c < h.size
theorem TblAt.more {h0 h : Heap} {Z Z' : Nat → Prop} {b : Nat} {ty : TypeId} {lv : Value} {n : Int} {ls : List (Int × List Int)} {h' : Heap} (T : TblAt h0 Z h b ty lv n ls) (e : Ext h h') (q : ∀ c, Z c → Z' c) (q1 : ∀ c, Z' c → ¬ Z c → h.size ≤ c ∧ c < h'.size) : TblAt h0 Z' h' b ty lv n ls where
  ext := T.ext.trans e
  row := e.row T.row
  ow := (T.ow.ext e).mono (fun c _ hz => q c hz) fun c hc hz => by
    by_cases h1 : Z c
    · obtain ⟨ds, _, h2, _⟩ := T.ow
      exact h2 c hc h1
    · have := q1 c hz h1
      have := T.ow.lt hc
      omega
  nb := T.nb
  nl := T.nl
  zb := fun hz => by
    by_cases h1 : Z b
    · exact T.zb h1
    · have := q1 b hz h1
      have := row_lt T.row
      omega
  lb := T.lb
  zf := fun c hz => by
    by_cases h1 : Z c
    · have := T.zf c h1
      have := e.1
      omega
    · have := q1 c hz h1
      have := T.ext.1
      omega
theorem TblAt.done {h0 h : Heap} {Z : Nat → Prop} {b : Nat} {ty : TypeId} {lv : Value} {n : Int} {ls : List (Int × List Int)} (T : TblAt h0 Z h b ty lv n ls) : IsTbl (fun c => h0.size ≤ c ∧ c < h.size) h (.pointer (some ⟨b, 0, none⟩)) ⟨n, ls⟩ :=
  ⟨b, [_, _, _, _], ty, rfl, T.row, ⟨T.nb, row_lt T.row⟩, lv, rfl, T.ow.sl.mono fun c _ hc => by
    rcases hc with hc | hc
    · exact T.zf c hc
    · exact ⟨T.nl c hc, T.ow.lt hc⟩, T.ow.cap⟩
end Go.Crisp
namespace Go.Proofs.YtefdokfnnokagaaGreatDoor
open Go Go.Crisp
attribute [local irreducible] FCall rowK newK stK iteK vK qK drawK gK joinK loopK mkK appK cpyK nextStrK rangeStrK bsK clK

theorem c_tableSide {h : Heap} {n : Int} : FCall Tryz.prog F_table_side #[.int .i64 n] h fun r h' => r = .bool (decide (1 ≤ n ∧ n ≤ 65536)) ∧ h' = h := by
  apply ok_table_side
  unfold sh_table_side
  try simp only [go_sem]
  exact ⟨by simp, by simp⟩
theorem c_tableAdd {h0 h : Heap} {Z : Nat → Prop} {b : Nat} {ty : TypeId} {lv u : Value} {n first : Int} {ls : List (Int × List Int)} {l : List Int} (T : TblAt h0 Z h b ty lv n ls) (H : SlI Z h u l) (h64 : ∀ x ∈ l, I64 x) (hl : l.length < 1048577) (hls : ls.length ≤ 65536) :
    FCall Tryz.prog F_table_Table_add #[.pointer (some ⟨b, 0, none⟩), .int .i64 first, u] h fun _ h' => ∃ lv', TblAt h0 Z h' b ty lv' n (ls ++ [(first, l)]) ∧ Fr (fun c => c = b ∨ blk lv c) h h' := by
  apply ok_table_Table_add
  unfold sh_table_Table_add
  have c1 : cellOf h ⟨b, 1, none⟩ = some lv := cell_row T.row
  obtain ⟨au, cu, eu⟩ := H.isSl
  have eu2 : lenslV u = some (.int .i64 (l.length : Int)) := by rw [eu]; rfl
  simp only [go_sem, c1, fill_2 (a := .int .i64 first) (b := u) rfl H.one, Option.map_some]
  refine Rp.push_ow (e := rLine) (cs := [.int .i64 first, u]) (x := (first, l)) T.ow ⟨u, rfl, H⟩ rfl rfl (by omega) (by omega) (fun c hc => (T.zf c hc).2) fun lv' h1 o1 f1 n1 => ?_
  have r1 := f1.row T.row T.lb
  have lb1 : ¬ blk lv' b := fun hb => by
    rcases n1 b hb with h2 | h2
    · exact T.lb h2
    · have := row_lt T.row; omega
  obtain ⟨al, cl, el⟩ := o1.isSl
  try simp only [go_sem]
  refine st_cell r1 (by simp) (by rw [el]; rfl) fun h2 r2 u2 => ?_
  have c2 : cellOf h2 ⟨b, 2, none⟩ = some (.int .i64 (mostL ls)) := cell_row r2
  simp only [go_sem, c2, eu2]
  refine st_cell r2 (by simp) rfl fun h3 r3 u3 => ?_
  have c3 : cellOf h3 ⟨b, 3, none⟩ = some (.int .i64 (sizeL ls)) := cell_row r3
  refine drawK_of (fun h' => h' = h3) rfl ?_
  try simp only [go_sem]
  refine qK_val _ (fun h' e => by rw [e]; exact c3) ?_
  have F3 : Fr (fun c => c = b ∨ blk lv c) h h3 := ((f1.mono fun c _ hc => .inr hc).trans (u2.fr.mono fun c _ hc => .inl hc)).trans (u3.fr.mono fun c _ hc => .inl hc)
  have H3 : SlI Z h3 u l := H.fr F3 fun c hc hz hm => by
    rcases hm with rfl | hm
    · exact T.zb hz
    · obtain ⟨ds, _, h2, _⟩ := T.ow
      exact h2 c hm hz
  refine (c_tapsSizes H3 h64 (by omega)).mono fun w h4 ⟨e4, w4⟩ => ?_
  subst e4 w4
  refine ⟨rfl, ?_⟩
  refine qK_val _ (fun h' _ => maxV_int _ _ _) ?_
  refine st_cell r3 (by simp) rfl fun h5 r5 u5 => ?_
  have F5 := F3.trans (u5.fr.mono (M' := fun c => c = b ∨ blk lv c) fun c _ hc => .inl hc)
  refine ⟨lv', ⟨?_, ?_, ?_, T.nb, ?_, T.zb, lb1, ?_⟩, F5⟩
  · exact T.ext.then_fr F5 fun c hc => by
      rcases hc with rfl | hc
      · exact T.nb
      · exact T.nl c hc
  · rw [mostL_snoc, sizeL_snoc]
    simpa using r5
  · have g : Fr (fun c => c = b) h1 h5 := (u2.fr.trans u3.fr).trans u5.fr
    exact o1.fr g (fun c _ hz he => T.zb (he ▸ hz)) fun c hc he => lb1 (he ▸ hc)
  · intro c hc
    rcases n1 c hc with h2 | h2
    · exact T.nl c h2
    · exact Nat.le_trans T.ext.1 h2
  · intro c hz
    have := T.zf c hz
    have := F5.1
    omega
end Go.Proofs.YtefdokfnnokagaaGreatDoor
