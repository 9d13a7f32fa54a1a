/- What is kept of an operation by its kind; operations that are the same. Conditions: none. -/
import Derived.Test.YtefdokfnnokagaaGreatDoorGk
import Derived.Test.YtefdokfnnokagaaGreatDoorEs
set_option linter.unusedVariables false
set_option linter.unusedSimpArgs false
set_option maxRecDepth 10000
namespace Go.Proofs.YtefdokfnnokagaaGreatDoor
open Go Go.Crisp
attribute [local irreducible] FCall rowK newK stK iteK vK qK drawK gK joinK loopK mkK appK cpyK nextStrK rangeStrK bsK

def cleanD (o : OpD) : OpD where
  kind := o.kind
  border := o.border
  sigma := if o.kind = 0 then o.sigma else 0
  radius := if o.kind = 1 then o.radius else 0
  x := if o.kind = 2 then o.x else []
  y := if o.kind = 2 then o.y else []
  filter := if o.kind = 3 then o.filter else 0
  w := if o.kind = 3 then o.w else 0
  hh := if o.kind = 3 then o.hh else 0
theorem i_one (k : IntKind) (n : Int) : oneCell (.int k n) = true := rfl
theorem ones9 {a b c d e f g i j : Value} (h1 : oneCell a = true) (h2 : oneCell b = true) (h3 : oneCell c = true) (h4 : oneCell d = true) (h5 : oneCell e = true) (h6 : oneCell f = true) (h7 : oneCell g = true) (h8 : oneCell i = true) (h9 : oneCell j = true) : ∀ v ∈ [a, b, c, d, e, f, g, i, j], oneCell v = true :=
  ones_cons h1 (ones_cons h2 (ones_cons h3 (ones_cons h4 (ones_cons h5 (ones_cons h6 (ones_cons h7 (ones_cons h8 (ones_cons h9 ones_nil))))))))

theorem c_Clean {h : Heap} {Z : Nat → Prop} {cs : List Value} {o : OpD} (H : rOp.R Z h cs o) (hx : o.x.length ≤ 1000000) (hy : o.y.length ≤ 1000000) :
    FCall Tryz.prog F_recipe_Clean #[.agg cs.toArray] h fun r h' => ∃ ds, r = .agg (List.toArray ds) ∧ rOp.R (fun b => h.size ≤ b) h' ds (cleanD o) ∧ Ext h h' := by
  apply ok_recipe_Clean
  unfold sh_recipe_Clean
  obtain ⟨s, t, rfl, Hx, Hy⟩ := H
  simp only [cells_agg]
  refine newK_use fun b1 h1 r1 e1 n1 => ?_
  have l1 := row_lt r1
  refine newK_use fun b3 h3 r3 e3 n3 => ?_
  have l3 := row_lt r3
  have r1 := e3.row r1
  have e13 := e1.trans e3
  simp only [go_sem, cell_row r1]
  have hf : ∀ a b : Value, oneCell a = true → oneCell b = true → fillL #[(.int .i64 0), (.int .i64 0), (.int .i64 0), (.int .i64 0), (.slice none 0 0), (.slice none 0 0), (.int .i64 0), (.int .i64 0), (.int .i64 0)] [(0, 1, a), (1, 1, b)] = some #[a, b, (.int .i64 0), (.int .i64 0), (.slice none 0 0), (.slice none 0 0), (.int .i64 0), (.int .i64 0), (.int .i64 0)] := fun a b ha hb => by
    simp [fillL, cells_one ha, cells_one hb]
  rw [hf _ _ rfl rfl, Option.map_some, vK_some]
  refine var_new (cs := [.int .i64 o.kind, .int .i64 o.border, (.int .i64 0), (.int .i64 0), (.slice none 0 0), (.slice none 0 0), (.int .i64 0), (.int .i64 0), (.int .i64 0)]) rfl (ones9 rfl rfl rfl rfl rfl rfl rfl rfl rfl) rfl fun b10 h4 r10 e4 n10 => ?_
  have l10 := row_lt r10
  have r1 := e4.row r1
  have r3 := e4.row r3
  have e14 := e13.trans e4
  have s13 := e13.1
  have s1 := e1.1
  have s3 := e3.1
  have d1 : b1 ≠ b10 := by omega
  have d3 : b3 ≠ b10 := by omega
  have fin : ∀ (h5 : Heap) (t1 t3 : TypeId) (old : Array Value) (ds : List Value), ds.length = 9 → h5[b10]? = some (.cells ds.toArray t1 (0, 0)) → h5[b3]? = some (.cells old t3 (0, 0)) → old.size = 9 → Ext h h5 →
      rOp.R (fun b => h4.size ≤ b) h5 ds (cleanD o) →
      vK (ldsV 9 h5 (.pointer (some ⟨b10, 0, none⟩))) fun v22 => stK 9 (.pointer (some ⟨b3, 0, none⟩)) v22 h5 fun v23 h24 => vK (ldsV 9 h24 (.pointer (some ⟨b3, 0, none⟩))) fun v25 =>
        ∃ ds, v25 = .agg (List.toArray ds) ∧ rOp.R (fun b => h.size ≤ b) h24 ds (cleanD o) ∧ Ext h h24 := fun h5 t1 t3 old ds hd w10 w3 ho e5 R5 => by
    rw [lds_row w10 9 hd, vK_some]
    refine st_var w3 (hd.trans ho.symm) (rOp.one R5) hd fun h6 w6 u6 => ?_
    rw [lds_row w6 9 hd, vK_some]
    exact ⟨ds, rfl, rOp.mono (rOp.fr (M := fun k => k = b3) R5 u6.fr fun b _ hb => by omega) fun b _ hb => by omega, e5.upd (by omega) u6⟩
  have nilR : ∀ {Z : Nat → Prop} {h : Heap}, Rp.Sl rI Z h (.slice none 0 0) [] := Rp.Sl.nil
  simp only [go_sem, cell_row r1]
  by_cases k0 : o.kind = 0
  · simp only [go_sem, cell_row r1, eq_true k0]
    refine st_cell r10 (by simp) rfl fun h5 r5 u5 => ?_
    refine fin h5 _ _ _ [.int .i64 o.kind, .int .i64 o.border, .int .i64 o.sigma, (.int .i64 0), (.slice none 0 0), (.slice none 0 0), (.int .i64 0), (.int .i64 0), (.int .i64 0)] rfl r5 (u5.row d3 r3) rfl (e14.upd (by omega) u5) ?_
    exact ⟨.slice none 0 0, .slice none 0 0, by simp [cleanD, k0], by simp [cleanD, k0]; exact nilR, by simp [cleanD, k0]; exact nilR⟩
  by_cases k1 : o.kind = 1
  · simp only [go_sem, cell_row r1, eq_false k0, eq_true k1]
    refine st_cell r10 (by simp) rfl fun h5 r5 u5 => ?_
    refine fin h5 _ _ _ [.int .i64 o.kind, .int .i64 o.border, (.int .i64 0), .int .i64 o.radius, (.slice none 0 0), (.slice none 0 0), (.int .i64 0), (.int .i64 0), (.int .i64 0)] rfl r5 (u5.row d3 r3) rfl (e14.upd (by omega) u5) ?_
    exact ⟨.slice none 0 0, .slice none 0 0, by simp [cleanD, k1], by simp [cleanD, k1]; exact nilR, by simp [cleanD, k1]; exact nilR⟩
  by_cases k2 : o.kind = 2
  · simp only [go_sem, cell_row r1, eq_false k0, eq_false k1, eq_true k2]
    refine drawK_ext ?_
    try simp only [go_sem]
    refine qK_val s (fun h' e => by simp only [go_sem, cell_row (e.row r1)]) ?_
    try simp only [go_sem]
    refine qK_val t (fun h' e => by simp only [go_sem, cell_row (e.row r1)]) ?_
    refine (c_Clone64 (Hx.ext e14) (by omega)).mono fun v5 h5 ⟨x5, e5⟩ => ⟨e5, ?_⟩
    try simp only [go_sem]
    refine (c_Clone64 (Hy.ext (e14.trans e5)) (by omega)).mono fun v6 h6 ⟨y6, e6⟩ => ⟨e5.trans e6, ?_⟩
    try simp only [go_sem]
    have x6 := x5.ext e6
    have e46 := e5.trans e6
    have s46 := e46.1
    have s45 := e5.1
    refine st_cell (e46.row r10) (by simp) x5.one fun h7 r7 u7 => ?_
    refine st_cell r7 (by simp) y6.one fun h8 r8 u8 => ?_
    have u78 := u7.trans u8
    refine fin h8 _ _ _ [.int .i64 o.kind, .int .i64 o.border, (.int .i64 0), (.int .i64 0), v5, v6, (.int .i64 0), (.int .i64 0), (.int .i64 0)] rfl r8 (u78.row d3 (e46.row r3)) rfl ((e14.trans e46).upd (by omega) u78) ?_
    refine ⟨v5, v6, by simp [cleanD, k2], ?_, ?_⟩
    · rw [show (cleanD o).x = o.x by simp [cleanD, k2]]
      exact x6.fr (M := fun k => k = b10) u78.fr fun b _ hb => by omega
    · rw [show (cleanD o).y = o.y by simp [cleanD, k2]]
      exact (y6.mono fun b _ hb => by omega).fr (M := fun k => k = b10) u78.fr fun b _ hb => by omega
  by_cases k3 : o.kind = 3
  · simp only [go_sem, cell_row r1, eq_false k0, eq_false k1, eq_false k2, eq_true k3]
    refine drawK_of (fun h' => h'[b1]? = h4[b1]?) rfl ?_
    try simp only [go_sem]
    refine qK_val (.int .i64 o.w) (fun h' e => by simp only [go_sem, cell_row (e.trans r1)]) ?_
    try simp only [go_sem]
    refine qK_val (.int .i64 o.hh) (fun h' e => by simp only [go_sem, cell_row (e.trans r1)]) ?_
    try simp only [go_sem]
    refine qK_val (.int .i64 o.filter) (fun h' e => by simp only [go_sem, cell_row (e.trans r1)]) ?_
    try simp only [go_sem]
    refine st_cell r10 (by simp) rfl fun h5 r5 u5 => ⟨u5.2 b1 d1, ?_⟩
    try simp only [go_sem]
    refine st_cell r5 (by simp) rfl fun h6 r6 u6 => ⟨(u5.trans u6).2 b1 d1, ?_⟩
    try simp only [go_sem]
    refine st_cell r6 (by simp) rfl fun h7 r7 u7 => ?_
    have u := (u5.trans u6).trans u7
    refine fin h7 _ _ _ [.int .i64 o.kind, .int .i64 o.border, (.int .i64 0), (.int .i64 0), (.slice none 0 0), (.slice none 0 0), .int .i64 o.filter, .int .i64 o.w, .int .i64 o.hh] rfl r7 (u.row d3 r3) rfl (e14.upd (by omega) u) ?_
    exact ⟨.slice none 0 0, .slice none 0 0, by simp [cleanD, k3], by simp [cleanD, k3]; exact nilR, by simp [cleanD, k3]; exact nilR⟩
  · simp only [go_sem, cell_row r1, eq_false k0, eq_false k1, eq_false k2, eq_false k3]
    refine fin h4 _ _ _ _ rfl r10 r3 rfl e14 ?_
    exact ⟨.slice none 0 0, .slice none 0 0, by simp [cleanD, k0, k1, k3], by simp [cleanD, k2]; exact nilR, by simp [cleanD, k2]; exact nilR⟩
end Go.Proofs.YtefdokfnnokagaaGreatDoor
