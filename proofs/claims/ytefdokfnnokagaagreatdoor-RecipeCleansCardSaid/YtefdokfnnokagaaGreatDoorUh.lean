/- Weights that come to one (taps.Apportion), and a blur's kernel (slices.Repeat): the program's. Conditions: none. -/
import Derived.Test.YtefdokfnnokagaaGreatDoorUg
import Derived.Test.YtefdokfnnokagaaGreatDoorVc
set_option linter.unusedVariables false
set_option linter.unusedSimpArgs false
set_option maxRecDepth 10000
namespace Go.Proofs.YtefdokfnnokagaaGreatDoor
open Go Go.Crisp
attribute [local irreducible] FCall rowK newK stK iteK vK qK drawK gK joinK loopK mkK appK cpyK nextStrK rangeStrK bsK clK

/-! ### three rows of noughts, and a variable that holds one, made in any order -/
abbrev zeroI : Value := .int .i64 0
structure Mk3 (n : Nat) (h0 : Heap) (rows : List Value) (vr : Option (Nat × TypeId × Value)) (h : Heap) : Prop where
  ext : Ext h0 h
  own : ∀ r ∈ rows, Own 1 h r n (List.replicate n zeroI) ∧ ∀ b, blk r b → h0.size ≤ b
  dis : rows.Pairwise fun r s => ∀ b, blk r b → ¬ blk s b
  var : ∀ p, vr = some p → h[p.1]? = some (.cells #[p.2.2] p.2.1 (0, 0)) ∧ h0.size ≤ p.1 ∧ ∀ r ∈ rows, ¬ blk r p.1
theorem Mk3.start (n : Nat) (h : Heap) : Mk3 n h [] none h := ⟨Ext.refl _, by simp, List.Pairwise.nil, by simp⟩
theorem Mk3.mkr {n : Nat} {h0 h : Heap} {rows : List Value} {vr : Option (Nat × TypeId × Value)} {t : TypeId} {K : Value → Heap → Prop} (M : Mk3 n h0 rows vr h) (hn : n ≤ 1048576)
    (H : ∀ v h', Mk3 n h0 (rows ++ [v]) vr h' → K v h') : mkK zeroI t 1 8 (.int .i64 (n : Int)) (.int .i64 (n : Int)) h K := by
  refine mkK_own rfl (by omega) (by omega) fun v h' o e f => H v h' ⟨M.ext.trans e, ?_, ?_, ?_⟩
  · intro r hr
    rcases List.mem_append.1 hr with hr | hr
    · exact ⟨(M.own r hr).1.fr (M := fun _ => False) e.fr fun _ _ => id, (M.own r hr).2⟩
    · rw [List.mem_singleton.1 hr]
      exact ⟨o, fun b hb => Nat.le_trans M.ext.1 (f b hb)⟩
  · rw [List.pairwise_append]
    refine ⟨M.dis, by simp, fun r hr s hs b hb hb2 => ?_⟩
    rw [List.mem_singleton.1 hs] at hb2
    have h1 := (M.own r hr).1.lt hb
    have h2 := f b hb2
    omega
  · intro p hp
    obtain ⟨h1, h2, h3⟩ := M.var p hp
    refine ⟨e.row h1, h2, fun r hr => ?_⟩
    rcases List.mem_append.1 hr with hr | hr
    · exact h3 r hr
    · rw [List.mem_singleton.1 hr]
      intro hb
      have := f _ hb
      have := row_lt h1
      omega
theorem Mk3.nw {n : Nat} {h0 h : Heap} {rows : List Value} {t : TypeId} {c : Value} {K : Value → Heap → Prop} (M : Mk3 n h0 rows none h)
    (H : ∀ b h', Mk3 n h0 rows (some (b, t, c)) h' → K (.pointer (some ⟨b, 0, none⟩)) h') : newK #[c] t h K := by
  refine newK_use fun b h' r e f => H b h' ⟨M.ext.trans e, fun s hs => ⟨(M.own s hs).1.fr (M := fun _ => False) e.fr fun _ _ => id, (M.own s hs).2⟩, M.dis, ?_⟩
  rintro p hp
  cases hp
  refine ⟨r, Nat.le_trans M.ext.1 f, fun s hs hb => ?_⟩
  have := (M.own s hs).1.lt hb
  simp only at this
  omega
theorem Mk3.st {n : Nat} {h0 h : Heap} {rows : List Value} {t : TypeId} {b : Nat} {c v : Value} {K : Value → Heap → Prop} (M : Mk3 n h0 rows (some (b, t, c)) h) (hv : v ∈ rows)
    (H : ∀ h', Mk3 n h0 rows (some (b, t, v)) h' → K undef h') : stK 1 (.pointer (some ⟨b, 0, none⟩)) v h K := by
  obtain ⟨h1, h2, h3⟩ := M.var _ rfl
  simp only at h1 h2 h3
  obtain ⟨a, cap, e⟩ := (M.own v hv).1.isSl
  refine st_cell h1 (by simp) (by rw [e]; rfl) fun h' r u => H h' ⟨M.ext.upd h2 u, ?_, M.dis, ?_⟩
  · intro s hs
    exact ⟨(M.own s hs).1.fr u.fr fun k hk he => h3 s hs (he ▸ hk), (M.own s hs).2⟩
  · rintro p hp
    cases hp
    exact ⟨by simpa using r, h2, h3⟩
/-- What three rows and the variable are behind it. -/
def Made3 (n : Nat) (h0 : Heap) (xs : List Value) (h : Heap) : Prop :=
  ∃ (x y z : Value) (b : Nat) (t : TypeId), xs = [x, y, .pointer (some ⟨b, 0, none⟩)] ∧ Ext h0 h ∧ (Own 1 h x n (List.replicate n zeroI) ∧ ∀ b, blk x b → h0.size ≤ b) ∧ (Own 1 h y n (List.replicate n zeroI) ∧ ∀ b, blk y b → h0.size ≤ b) ∧
    (Own 1 h z n (List.replicate n zeroI) ∧ ∀ b, blk z b → h0.size ≤ b) ∧ (∀ b, blk x b → ¬ blk y b) ∧ (∀ b, blk x b → ¬ blk z b) ∧ (∀ b, blk y b → ¬ blk z b) ∧
    h[b]? = some (.cells #[z] t (0, 0)) ∧ h0.size ≤ b ∧ ¬ blk x b ∧ ¬ blk y b ∧ ¬ blk z b
theorem Mk3.made {n : Nat} {h0 h : Heap} {rows : List Value} {t : TypeId} {b : Nat} {z : Value} (M : Mk3 n h0 rows (some (b, t, z)) h) (i j k : Nat) {x y : Value} (hx : rows[i]? = some x) (hy : rows[j]? = some y) (hz : rows[k]? = some z) (h1 : i ≠ j) (h2 : i ≠ k) (h3 : j ≠ k) :
    Made3 n h0 [x, y, .pointer (some ⟨b, 0, none⟩)] h := by
  obtain ⟨v1, v2, v3⟩ := M.var _ rfl
  simp only at v1 v2 v3
  have dis : ∀ (i j : Nat) (x y : Value), rows[i]? = some x → rows[j]? = some y → i ≠ j → ∀ b, blk x b → ¬ blk y b := by
    intro i j x y hx hy hij b hb hb2
    obtain ⟨li, ei⟩ := List.getElem?_eq_some_iff.1 hx
    obtain ⟨lj, ej⟩ := List.getElem?_eq_some_iff.1 hy
    rcases Nat.lt_or_ge i j with h | h
    · have := List.pairwise_iff_getElem.1 M.dis i j li lj h b (by rw [ei]; exact hb)
      rw [ej] at this
      exact this hb2
    · have := List.pairwise_iff_getElem.1 M.dis j i lj li (by omega) b (by rw [ej]; exact hb2)
      rw [ei] at this
      exact this hb
  exact ⟨x, y, z, b, t, rfl, M.ext, M.own x (List.mem_of_getElem? hx), M.own y (List.mem_of_getElem? hy), M.own z (List.mem_of_getElem? hz), dis i j x y hx hy h1, dis i k x z hx hz h2, dis j k y z hy hz h3, v1, v2, v3 x (List.mem_of_getElem? hx), v3 y (List.mem_of_getElem? hy), v3 z (List.mem_of_getElem? hz)⟩

/-- A row that is made by its places: one of them is written. -/
theorem Own.at_map {h : Heap} {v : Value} {n : Nat} {g : Nat → Int} (H : Own 1 h v n ((List.range n).map fun i => Value.int .i64 (g i))) {k : IntKind} {i : Nat} (hi : i < n) :
    ∃ p, idxV 1 v (.int k (i : Int)) = some p ∧ ldV h p = some (.int .i64 (g i)) ∧ ∀ (x : Int) (K : Value → Heap → Prop),
      (∀ h', Own 1 h' v n ((List.range n).map fun j => Value.int .i64 (if j = i then x else g j)) → Fr (blk v) h h' → K undef h') → stK 1 p (.int .i64 x) h K := by
  obtain ⟨p, h1, h2, h3⟩ := Own.at1 H (k := k) hi
  refine ⟨p, h1, by rw [h2]; simp, fun x K HK => h3 _ _ rfl fun h' o f _ => HK h' ?_ f⟩
  rw [set_range_map _ _ _ _ hi] at o
  have e : (fun j => if j = i then Value.int .i64 x else Value.int .i64 (g j)) = fun j => Value.int .i64 (if j = i then x else g j) := by
    funext j; split <;> rfl
  rw [e] at o
  exact o
theorem rep_map (n : Nat) : List.replicate n zeroI = (List.range n).map fun i => Value.int .i64 ((fun _ => 0 : Nat → Int) i) := by
  apply List.ext_getElem <;> simp

theorem c_compare {h : Heap} {a b : Int} : FCall Tryz.prog F_cmp_Compare_int64 #[.int .i64 a, .int .i64 b] h fun r h' => (∃ c : Int, r = .int .i64 c ∧ (c < 0 ↔ a < b)) ∧ h' = h := by
  have nan : ∀ {x : Int} {h : Heap}, FCall Tryz.prog F_cmp_isNaN_int64 #[.int .i64 x] h fun r h' => r = .bool false ∧ h' = h := by
    intro x h
    apply ok_cmp_isNaN_int64
    unfold sh_cmp_isNaN_int64
    try simp only [go_sem]
    exact ⟨by simp, by simp⟩
  apply ok_cmp_Compare_int64
  unfold sh_cmp_Compare_int64
  refine nan.mono fun v1 h1 ⟨e1, w1⟩ => ?_
  subst e1 w1
  refine nan.mono fun v1 h1 ⟨e1, w1⟩ => ?_
  subst e1 w1
  try simp only [go_sem]
  refine iteK_dec (fun h0 => ⟨⟨-1, rfl, by omega⟩, by first | rfl | trivial⟩) (fun h0 => ?_)
  refine iteK_dec (fun h0 => ⟨⟨1, rfl, by omega⟩, by first | rfl | trivial⟩) (fun h0 => ⟨⟨0, rfl, by omega⟩, by first | rfl | trivial⟩)
/-- What holds while indices are put in order by their rests. -/
def RestP (b : Nat) (t : TypeId) (z : Value) (n : Nat) (r : Nat → Int) (h : Heap) : Prop := h[b]? = some (.cells #[z] t (0, 0)) ∧ Own 1 h z n ((List.range n).map fun i => Value.int .i64 (r i))
theorem cmp_rest {v z : Value} {b n : Nat} {t : TypeId} {r : Nat → Int} (h1 : ¬ blk v b) (h2 : ∀ b, blk v b → ¬ blk z b) : CmpOK v (.func (.func F_taps_Apportion_c1) #[] #[.pointer (some ⟨b, 0, none⟩)]) (RestP b t z n r) r n where
  call := fun {h a c K} ⟨p1, p2⟩ ha hc H => by
    rw [clK_2]
    apply ok_taps_Apportion_c1
    unfold sh_taps_Apportion_c1
    obtain ⟨p, e1, e2, _⟩ := Own.at_map p2 (k := .i64) ha
    obtain ⟨q, e3, e4, _⟩ := Own.at_map p2 (k := .i64) hc
    have ez : ldV h (.pointer (some ⟨b, 0, none⟩)) = some z := by rw [ldV_ptr, cell_row p1]; rfl
    refine drawK_of (fun h' => h' = h) rfl ?_
    refine qK_val z (fun h' e => by rw [e]; exact ez) ?_
    simp only [go_sem, e3]
    refine qK_val _ (fun h' e => by rw [e]; exact e4) ?_
    refine qK_val z (fun h' e => by rw [e]; exact ez) ?_
    simp only [go_sem, e1]
    refine qK_val _ (fun h' e => by rw [e]; exact e2) ?_
    refine c_compare.mono fun w h' ⟨⟨m, e, hm⟩, hh⟩ => ?_
    subst e hh
    exact H m hm
  fr := fun {h h'} ⟨p1, p2⟩ f => ⟨f.row p1 h1, p2.fr f fun k hk hb => h2 k hb hk⟩

/-- What is apportioned. -/
theorem rank_at {l : List Int} {S : List Nat} (hp : S.Perm (List.range l.length)) (hs : S.Pairwise (lead (restT l))) {k i : Nat} (hk : k < S.length) (hi : i < l.length) : (if (rank (restT l) l.length i : Int) < ((k + 1 : Nat) : Int) then (1 : Int) else 0) = if i = S[k] then (if (rank (restT l) l.length i : Int) < (k : Int) then (1 : Int) else 0) + 1 else if (rank (restT l) l.length i : Int) < (k : Int) then 1 else 0 := by
  have hr := rank_sorted hp hs hk
  have hkl : S[k] < l.length := by have := hp.mem_iff.1 (List.getElem_mem hk); simpa using this
  by_cases he : i = S[k]
  · rw [if_pos he, he, hr, if_pos (by omega), if_neg (by omega)]; rfl
  · rw [if_neg he]
    have : rank (restT l) l.length i ≠ k := fun e => he (rank_inj hi hkl (e.trans hr.symm))
    by_cases h : rank (restT l) l.length i < k
    · rw [if_pos (by omega), if_pos (by omega)]
    · rw [if_neg (by omega), if_neg (by omega)]
theorem c_Apportion {Z : Nat → Prop} {h : Heap} {v : Value} {l : List Int} (H : SlI Z h v l) (h64 : ∀ x ∈ l, I64 x) (hl : l.length < 4611686018427387904) :
    FCall Tryz.prog F_taps_Apportion #[v] h fun r h' => ∃ u, r = .tuple #[u, .int .i64 (checkZ l)] ∧ New (Rp.int .i64) h h' u (apportZ l) := by
  apply ok_taps_Apportion
  unfold sh_taps_Apportion
  refine (c_tapsCheck H h64 hl).mono fun v1 h1 ⟨e1, w1⟩ => ?_
  subst e1 w1
  obtain ⟨a, cap, e⟩ := H.isSl
  have e2 : lenslV v = some (.int .i64 (l.length : Int)) := by rw [e]; rfl
  simp only [binV_neq, vK_some]
  unfold apportZ
  by_cases hc : ¬ checkZ l = 0
  · have q : (checkZ l = 0) = False := eq_false hc
    rw [if_neg hc]
    simp only [go_sem, q]
    exact ⟨_, rfl, New.nil (Ext.refl _)⟩
  have hc : checkZ l = 0 := Decidable.of_not_not hc
  have G := goodW h64 hc
  have q : (checkZ l = 0) = True := eq_true hc
  rw [if_pos hc]
  simp only [go_sem, q]
  refine (c_tapsSum H h64 hl).mono fun v1 h1 ⟨e1, w1⟩ => ?_
  subst e1 w1
  have hn := G.len
  refine joinK_intro (Made3 l.length h1) ?_ ?_
  · refine drawK_of (Ext h1) (Ext.refl _) ?_
    refine qK_val _ (fun h' _ => e2) ?_
    refine qK_val _ (fun h' _ => e2) ?_
    refine qK_val _ (fun h' _ => e2) ?_
    have M0 := Mk3.start l.length h1
    repeat' first
      | exact Mk3.ext ‹Mk3 _ _ _ _ _›
      | exact Mk3.made ‹Mk3 _ _ _ _ _› 0 1 2 rfl rfl rfl (by decide) (by decide) (by decide)
      | exact Mk3.made ‹Mk3 _ _ _ _ _› 0 2 1 rfl rfl rfl (by decide) (by decide) (by decide)
      | exact Mk3.made ‹Mk3 _ _ _ _ _› 1 0 2 rfl rfl rfl (by decide) (by decide) (by decide)
      | exact Mk3.made ‹Mk3 _ _ _ _ _› 1 2 0 rfl rfl rfl (by decide) (by decide) (by decide)
      | exact Mk3.made ‹Mk3 _ _ _ _ _› 2 0 1 rfl rfl rfl (by decide) (by decide) (by decide)
      | exact Mk3.made ‹Mk3 _ _ _ _ _› 2 1 0 rfl rfl rfl (by decide) (by decide) (by decide)
      | refine And.intro ?_ ?_
      | refine Mk3.mkr ‹Mk3 _ _ _ _ _› hn fun v' h' M => ?_
      | refine Mk3.nw ‹Mk3 _ _ _ _ _› fun b' h' M => ?_
      | refine Mk3.st ‹Mk3 _ _ _ _ _› (by simp) fun h' M => ?_
  rintro xs ρj h2 ⟨x, y, z, b, t, rfl, E2, ⟨ox, fx⟩, ⟨oy, fy⟩, ⟨oz, fz⟩, dxy, dxz, dyz, hb, hb0, nx, ny, nz⟩
  simp only [ix_0, ix_1, ix_2, e2, vK_some]
  have s1 := G.sum
  have s64 := sumZ_I64 l
  -- quotients and rests
  refine loop_g l.length 0 (fun k (_ : Unit) => [.int .i64 (leftK l k), .int .i64 (k : Int)]) (fun k _ h' => Ext h1 h' ∧ Own 1 h' x l.length ((List.range l.length).map fun i => Value.int .i64 (if i < k then baseT l i else 0)) ∧
      Own 1 h' y l.length ((List.range l.length).map fun i => Value.int .i64 (if i < k then (i : Int) else 0)) ∧ Own 1 h' z l.length ((List.range l.length).map fun i => Value.int .i64 (if i < k then restT l i else 0)) ∧ h'[b]? = some (.cells #[z] t (0, 0))) () rfl (Nat.zero_le _)
    ⟨E2, by rw [rep_map] at ox; simpa using ox, by rw [rep_map] at oy; simpa using oy, by rw [rep_map] at oz; simpa using oz, hb⟩ fun k _ h3 again ρj2 _ hk ⟨E3, o1, o2, o3, hb3⟩ Hag => ?_
  try simp only [go_sem]
  refine iteK_dec (fun h0 => ?_) (fun h0 => ?_)
  · have hk' : k < l.length := by omega
    have H3 := H.ext E3
    obtain ⟨p, e3, e4⟩ := H3.int_at (k' := .i64) hk'
    simp only [go_sem, e3, e4]
    have eg : l.getD k 0 = l[k] := by simp [List.getD_eq_getElem?_getD, hk']
    have hx := G.small k
    rw [eg] at hx
    refine drawK_of (fun h' => h'[b]? = some (.cells #[z] t (0, 0))) hb3 ?_
    refine qK_val z (fun h' e => by rw [cell_row e]; rfl) ?_
    rw [w64 (n := l[k] * 16384) (by omega) (by omega)]
    refine (c_Floor (by unfold I64; omega) s64).mono fun v1 h4 ⟨e5, w5⟩ => ?_
    subst e5 w5
    refine ⟨hb3, ?_⟩
    rw [floorZ_pos (by unfold I64; omega) (by omega)]
    refine (c_Mod (by unfold I64; omega) s64 (by omega)).mono fun v1 h4 ⟨e5, w5⟩ => ?_
    subst e5 w5
    refine ⟨hb3, ?_⟩
    have eb : l[k] * 16384 / sumZ l = baseT l k := by unfold baseT; rw [eg]
    have er : l[k] * 16384 % sumZ l = restT l k := by unfold restT; rw [eg]
    rw [eb, er]
    obtain ⟨px, x1, x2, x3⟩ := Own.at_map o1 (k := .i64) hk'
    simp only [go_sem, x1]
    refine x3 _ _ fun h5 o1a f5 => ?_
    have o3a := o3.fr f5 fun c hc hx => dxz c hx hc
    have o2a := o2.fr f5 fun c hc hx => dxy c hx hc
    have hb5 := f5.row hb3 nx
    refine ⟨hb5, ?_⟩
    obtain ⟨pz, z1, z2, z3⟩ := Own.at_map o3a (k := .i64) hk'
    simp only [go_sem, z1]
    refine z3 _ _ fun h6 o3b f6 => ?_
    have o2b := o2a.fr f6 fun c hc hz => dyz c hc hz
    have o1b := o1a.fr f6 fun c hc hz => dxz c hc hz
    have hb6 := f6.row hb5 nz
    obtain ⟨py, y1, y2, y3⟩ := Own.at_map o2b (k := .i64) hk'
    simp only [go_sem, y1]
    refine y3 _ _ fun h7 o2c f7 => ?_
    have o1c := o1b.fr f7 fun c hc hy => dxy c hc hy
    have o3c := o3b.fr f7 fun c hc hy => dyz c hy hc
    have hb7 := f7.row hb6 ny
    obtain ⟨px2, x1', x2', _⟩ := Own.at_map o1c (k := .i64) hk'
    rw [x1] at x1'
    cases x1'
    simp only [if_true] at x2'
    have hbt := baseT_bd G k
    have hlk := leftK_bd G k
    simp only [go_sem, x1, x2']
    rw [w64 (n := leftK l k - baseT l k) (by omega) (by omega), w64 (n := (k : Int) + 1) (by omega) (by omega)]
    have E7 : Ext h1 h7 := ((E3.then_fr f5 fx).then_fr f6 fz).then_fr f7 fy
    refine Hag () h7 hk' ⟨E7, ?_, ?_, ?_, hb7⟩
    · have e : (List.range l.length).map (fun j => Value.int .i64 (if j = k then baseT l k else if j < k then baseT l j else 0)) = (List.range l.length).map fun i => Value.int .i64 (if i < k + 1 then baseT l i else 0) := map_range_congr fun i _ => by
        congr 1
        by_cases h1 : i = k
        · subst h1; simp
        · rw [if_neg h1]
          by_cases h2 : i < k
          · rw [if_pos h2, if_pos (by omega)]
          · rw [if_neg h2, if_neg (by omega)]
      rw [← e]; exact o1c
    · have e : (List.range l.length).map (fun j => Value.int .i64 (if j = k then (k : Int) else if j < k then (j : Int) else 0)) = (List.range l.length).map fun i => Value.int .i64 (if i < k + 1 then (i : Int) else 0) := map_range_congr fun i _ => by
        congr 1
        by_cases h1 : i = k
        · subst h1; simp
        · rw [if_neg h1]
          by_cases h2 : i < k
          · rw [if_pos h2, if_pos (by omega)]
          · rw [if_neg h2, if_neg (by omega)]
      rw [← e]; exact o2c
    · have e : (List.range l.length).map (fun j => Value.int .i64 (if j = k then restT l k else if j < k then restT l j else 0)) = (List.range l.length).map fun i => Value.int .i64 (if i < k + 1 then restT l i else 0) := map_range_congr fun i _ => by
        congr 1
        by_cases h1 : i = k
        · subst h1; simp
        · rw [if_neg h1]
          by_cases h2 : i < k
          · rw [if_pos h2, if_pos (by omega)]
          · rw [if_neg h2, if_neg (by omega)]
      rw [← e]; exact o3c
  · have hkn : k = l.length := by omega
    subst hkn
    have o1 : Own 1 h3 x l.length ((List.range l.length).map fun i => Value.int .i64 (baseT l i)) := by
      rw [← map_range_congr (g := fun i => Value.int .i64 (if i < l.length then baseT l i else 0)) (fun i hi => by rw [if_pos hi])]; exact o1
    have o3 : Own 1 h3 z l.length ((List.range l.length).map fun i => Value.int .i64 (restT l i)) := by
      rw [← map_range_congr (g := fun i => Value.int .i64 (if i < l.length then restT l i else 0)) (fun i hi => by rw [if_pos hi])]; exact o3
    have o2 : Own 1 h3 y (List.range' 0 l.length).length ((List.range' 0 l.length).map iv) := by
      rw [List.length_range', ← List.range_eq_range', ← map_range_congr (g := fun i => Value.int .i64 (if i < l.length then (i : Int) else 0)) (fun i hi => by rw [if_pos hi])]; exact o2
    have IX : IxRow y (RestP b t z l.length (restT l)) l.length h3 (List.range' 0 l.length) := ⟨o2, ⟨hb3, o3⟩, by simpa using hl, fun i hi => by simpa using hi⟩
    refine (c_sortStable (cmp_rest ny dyz) IX hn).mono fun w h4 ⟨S, hp, hs, IX2, f4⟩ => ?_
    obtain ⟨L0, L1⟩ := left_bd G
    obtain ⟨m, hm⟩ : ∃ m : Nat, leftT l = (m : Int) := ⟨(leftT l).toNat, by omega⟩
    have hSl : S.length = l.length := by rw [hp.length_eq]; simp
    obtain ⟨v', q1, q2, q3⟩ := slc_front 1 IX2.own (k := .i64) (hi := m) (by omega)
    have o1 := o1.fr f4 fun c hc hy => dxy c hc hy
    have hlm : leftK l l.length = (m : Int) := hm
    rw [hlm, q1, vK_some]
    obtain ⟨a', cap', e'⟩ := q2.isSl
    have e'2 : lenslV v' = some (.int .i64 (m : Int)) := by rw [e']; rfl
    rw [e'2, vK_some]
    refine loop_g m 0 (fun k (_ : Unit) => [.int .i64 (k : Int)]) (fun k _ h' => Ext h1 h' ∧ Own 1 h' x l.length ((List.range l.length).map fun i => Value.int .i64 (baseT l i + (if (rank (restT l) l.length i : Int) < (k : Int) then 1 else 0))) ∧ Fr (blk x) h4 h') () rfl (Nat.zero_le _)
      ⟨E3.then_fr f4 fy, by
        rw [map_range_congr (f := fun i => Value.int .i64 (baseT l i)) (fun i hi => by rw [if_neg (by omega), Int.add_zero])]; exact o1, Fr.refl _ _⟩ fun k _ h5 again5 ρj5 _ hk ⟨E5, o5, f5⟩ Hag5 => ?_
    try simp only [go_sem]
    refine iteK_dec (fun h6 => ?_) (fun h6 => ?_)
    · have hk' : k < m := by omega
      have q5 := q2.fr f5 fun c _ hc hx => dxy c hx (q3 c hc)
      obtain ⟨p, p1, p2⟩ := q5.at1 (k := .i64) hk'
      have hkS : k < S.length := by omega
      have p2 : ldV h5 p = some (iv S[k]) := by
        rw [p2]; simp
      have hSk : S[k] < l.length := by have := hp.mem_iff.1 (List.getElem_mem hkS); simpa using this
      obtain ⟨px, x1, x2, x3⟩ := Own.at_map o5 (k := .i64) hSk
      simp only [go_sem, p1, p2, x1, x2]
      have hbt := baseT_bd G S[k]
      rw [w64 (n := baseT l S[k] + (if (rank (restT l) l.length S[k] : Int) < (k : Int) then 1 else 0) + 1) (by split <;> omega) (by split <;> omega)]
      refine x3 _ _ fun h7 o7 f7 => ?_
      rw [w64 (n := (k : Int) + 1) (by omega) (by omega)]
      refine Hag5 () h7 hk' ⟨E5.then_fr f7 fx, ?_, f5.trans f7⟩
      rw [map_range_congr (f := fun j => Value.int .i64 (if j = S[k] then baseT l S[k] + (if (rank (restT l) l.length S[k] : Int) < (k : Int) then 1 else 0) + 1 else baseT l j + if (rank (restT l) l.length j : Int) < (k : Int) then 1 else 0)) (fun i hi => by
        rw [rank_at hp hs hkS hi]
        congr 1
        by_cases he : i = S[k]
        · rw [if_pos he, if_pos he, ← he]; omega
        · rw [if_neg he, if_neg he])]
      exact o7
    · have : k = m := by omega
      subst this
      refine ⟨x, by rw [hc], ⟨(tapsOf l).map fun n => Value.int .i64 n, ?_, fun c _ => id, fun i hi => ?_⟩, E5, fx⟩
      · rw [tapsOf_len]
        unfold tapsOf
        rw [List.map_map]
        simp only [← hm] at o5
        exact o5
      · have e : Rp.el (Rp.int .i64).w ((tapsOf l).map fun n => Value.int .i64 n) i = [Value.int .i64 (tapsOf l)[i]] := by
          have := Rp.el_one (ds := (tapsOf l).map fun n => Value.int .i64 n) (i := i) (by simpa using hi)
          rw [List.getElem_map] at this
          exact this
        exact e

/-! ### a blur's kernel -/
theorem c_bitsMul {h : Heap} {x y : Nat} (hx : x < 18446744073709551616) (hy : y < 18446744073709551616) :
    FCall Tryz.prog F_math_bits_Mul #[.int .u64 (x : Int), .int .u64 (y : Int)] h fun r h' => r = .tuple #[.int .u64 ((x * y / 18446744073709551616 : Nat) : Int), .int .u64 ((x * y % 18446744073709551616 : Nat) : Int)] ∧ h' = h := by
  apply ok_math_bits_Mul
  unfold sh_math_bits_Mul
  rw [iteK_false]
  refine (c_Mul64 hx hy).mono fun v h1 ⟨e, w⟩ => ?_
  subst e w
  try simp only [go_sem]
  exact ⟨by simp, by simp⟩
theorem rep_ints (n : Nat) (x : Int) : List.replicate n (Value.int .i64 x) = (List.replicate n x).map fun n => Value.int .i64 n := by simp
/-- A row of numbers of one's own. -/
theorem ow_ints {k : IntKind} {h : Heap} {v : Value} {l : List Int} (H : Own 1 h v l.length (l.map fun n => Value.int k n)) : Rp.Ow (Rp.int k) (fun _ => False) h v l :=
  ⟨l.map fun n => Value.int k n, H, fun c _ => id, fun i hi => by
    have := Rp.el_one (ds := l.map fun n => Value.int k n) (i := i) (by simpa using hi)
    rw [List.getElem_map] at this
    exact this⟩
theorem c_Repeat1 {Z : Nat → Prop} {h : Heap} {v : Value} {x : Int} {n : Nat} (H : SlI Z h v [x]) (hn : 1 ≤ n) (hn2 : n ≤ 4096) :
    FCall Tryz.prog F_slices_Repeat_sl_int64_int64 #[v, .int .i64 (n : Int)] h fun r h' => New (Rp.int .i64) h h' r (List.replicate n x) := by
  apply ok_slices_Repeat_sl_int64_int64
  unfold sh_slices_Repeat_sl_int64_int64
  have hneg : ((n : Int) < 0) = False := eq_false (by omega)
  simp only [go_sem, hneg]
  refine joinK_intro (fun _ h' => h' = h) rfl fun xs ρj h' e => ?_
  subst e
  obtain ⟨ds, hs, hz, he⟩ := H
  have hdl := hs.1
  have hd : ds = [Value.int .i64 x] := by
    have h1 := he 0 (by simp)
    have hl1 : ds.length = 1 := by simpa [Rp.int] using hdl
    obtain ⟨d, rfl⟩ := List.length_eq_one_iff.1 hl1
    exact h1
  subst hd
  obtain ⟨a, cap, ev⟩ := hs.isSl
  have e2 : lenslV v = some (.int .i64 ((1 : Nat) : Int)) := by rw [ev]; rfl
  simp only [go_sem, e2]
  rw [u64_nat (by omega), u64_nat (m := n) (by omega)]
  refine (c_bitsMul (x := 1) (y := n) (by omega) (by omega)).mono fun w h1 ⟨e, hh⟩ => ?_
  subst e hh
  try simp only [go_sem]
  rw [show 1 * n / 18446744073709551616 = 0 by omega, show 1 * n % 18446744073709551616 = n by omega]
  refine joinK_intro (fun _ h' => h' = h1) ?_ fun xs ρj2 h2 e => ?_
  · refine iteK_dec (fun h0 => absurd h0 (by omega)) (fun _ => rfl)
  subst e
  try simp only [go_sem]
  rw [w64 (n := (n : Int)) (by omega) (by omega)]
  refine mkK_own rfl (by omega) (by omega) fun u h3 o e f => ?_
  have hs3 : SlC 1 h3 v 1 [Value.int .i64 x] := hs.ext e
  refine cpyK_own o hs3 (by simp [oneCell]) fun h4 o4 f4 z4 => ?_
  have E4 : Ext h2 h4 := e.then_fr f4 f
  have hmin : Nat.min 1 n = 1 := Nat.min_eq_left hn
  rw [hmin]
  obtain ⟨a2, cap2, eu⟩ := o4.isSl
  have e3 : lenslV u = some (.int .i64 (n : Int)) := by rw [eu]; rfl
  have st : Own 1 h4 u n (List.replicate 1 (Value.int .i64 x) ++ List.replicate (n - 1) (.int .i64 0)) := by
    have e : [Value.int .i64 x].take n ++ (List.replicate n (Value.int .i64 0)).drop 1 = List.replicate 1 (Value.int .i64 x) ++ List.replicate (n - 1) (.int .i64 0) := by
      rw [List.take_of_length_le (by simpa using hn), List.drop_replicate]; rfl
    rw [← e]; exact o4
  refine loopK_var (fun d xs h' => ∃ m : Nat, d = n - m ∧ xs = [.int .i64 (m : Int)] ∧ 1 ≤ m ∧ m ≤ n ∧ Ext h2 h' ∧ Own 1 h' u n (List.replicate m (Value.int .i64 x) ++ List.replicate (n - m) (.int .i64 0))) (n - 1) ⟨1, rfl, rfl, Nat.le_refl _, hn, E4, st⟩ ?_
  rintro d xs ρj3 h5 again ⟨m, rfl, rfl, h1m, hmn, E5, o5⟩ Hag
  simp only [ix_0, e3, vK_some, binV_lss]
  refine iteK_dec (fun h0 => ?_) (fun h0 => ?_)
  · refine drawK_of (fun h' => h' = h5) rfl ?_
    obtain ⟨w, w1, w2, w3⟩ := slc_front 1 o5 (k := .i64) (hi := m) hmn
    have w2 : SlC 1 h5 w m (List.replicate m (Value.int .i64 x)) := by
      have e : (List.replicate m (Value.int .i64 x) ++ List.replicate (n - m) (Value.int .i64 0)).take (m * 1) = List.replicate m (Value.int .i64 x) := by
        rw [Nat.mul_one, List.take_append_of_le_length (by simp), List.take_of_length_le (by simp)]
      rw [e] at w2; exact w2
    obtain ⟨d, d1, d2⟩ := cpy_tail o5 (show m < n by omega) w2 (fun y hy => by rw [(List.mem_replicate.1 hy).2]; rfl) (kk := .i64)
    rw [d1, vK_some, w1, vK_some]
    refine d2 _ fun h6 o6 f6 => ?_
    have hmin2 : Nat.min m (n - m) = min m (n - m) := rfl
    rw [hmin2, binV_add, vK_some, w64 (by omega) (by omega), show (m : Int) + ((min m (n - m) : Nat) : Int) = ((m + min m (n - m) : Nat) : Int) by omega]
    refine Hag _ h6 (n - (m + min m (n - m))) (by omega) ⟨m + min m (n - m), rfl, rfl, by omega, by omega, E5.then_fr f6 f, ?_⟩
    have e : (List.replicate m (Value.int .i64 x) ++ List.replicate (n - m) (Value.int .i64 0)).take m ++ (List.replicate m (Value.int .i64 x)).take (n - m) ++ (List.replicate m (Value.int .i64 x) ++ List.replicate (n - m) (Value.int .i64 0)).drop (m + m)
        = List.replicate (m + min m (n - m)) (Value.int .i64 x) ++ List.replicate (n - (m + min m (n - m))) (.int .i64 0) := by
      rw [List.take_append_of_le_length (by simp), List.take_of_length_le (by simp), List.take_replicate, List.drop_append, List.drop_eq_nil_of_le (by simp), List.nil_append, List.drop_replicate, List.length_replicate, List.replicate_append_replicate, Nat.min_comm]
      congr 2; omega
    rw [← e]; exact o6
  · have : m = n := by omega
    subst this
    refine ⟨ow_ints ?_, E5, f⟩
    rw [List.length_replicate, ← rep_ints]
    simpa using o5
def blurBad (r : Int) : Prop := r < 0 ∨ 511 < r
instance (r : Int) : Decidable (blurBad r) := by unfold blurBad; infer_instance
def blurC (r : Int) : Int := if blurBad r then 7 else userC (List.replicate (2 * r + 1).toNat 1)
def blurW (r : Int) : List Int := if blurBad r then [] else userW (List.replicate (2 * r + 1).toNat 1)
theorem blurW_I64 (r : Int) : ∀ x ∈ blurW r, I64 x := by
  unfold blurW
  split
  · simp
  · exact userW_I64 _
theorem c_Blur {h : Heap} {r : Int} (hr : I64 r) : FCall Tryz.prog F_taps_Blur #[.int .i64 r] h fun w h' => ∃ u, w = .tuple #[u, .int .i64 (blurC r)] ∧ New (Rp.int .i64) h h' u (blurW r) := by
  apply ok_taps_Blur
  unfold sh_taps_Blur
  try simp only [go_sem]
  unfold blurC blurW
  refine iteK_dec (fun h0 => ?_) (fun h0 => ?_)
  · have : blurBad r := h0
    rw [if_pos this, if_pos this]
    exact ⟨_, rfl, New.nil (Ext.refl _)⟩
  · have hn : ¬ blurBad r := h0
    rw [if_neg hn, if_neg hn]
    refine rowK_use (Rp.fill_one rfl) fun b h1 r1 e1 n1 => ?_
    rw [w64 (n := 2 * r) (by omega) (by omega)]
    try simp only [go_sem]
    rw [w64 (n := 2 * r + 1) (by omega) (by omega)]
    have hs : SlI (fun _ => True) h1 (.slice (some ⟨b, 0, none⟩) 1 1) [1] := ⟨[Value.int .i64 1], Rp.SlC.single (cs := [Value.int .i64 1]) r1, fun _ _ _ => trivial, fun i hi => by
      have : i = 0 := by simpa using hi
      subst this
      rfl⟩
    obtain ⟨N, hN⟩ : ∃ N : Nat, N = (2 * r + 1).toNat := ⟨_, rfl⟩
    rw [← hN, show 2 * r + 1 = (N : Int) by omega]
    refine (c_Repeat1 hs (n := N) (by omega) (by omega)).mono fun v h2 H2 => ?_
    refine (c_tapsUser H2.sl (fun x hx => by rw [(List.mem_replicate.1 hx).2]; unfold I64; omega) (by rw [List.length_replicate]; omega)).mono fun w h3 ⟨u, e, H3⟩ => ?_
    subst e
    try simp only [go_sem]
    exact ⟨u, rfl, H3.before (e1.trans H2.2.1)⟩
end Go.Proofs.YtefdokfnnokagaaGreatDoor
