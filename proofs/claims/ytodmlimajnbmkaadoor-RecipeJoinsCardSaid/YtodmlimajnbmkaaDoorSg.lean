/- RecipeJoins. Conditions: none. -/
import Derived.Test.YtodmlimajnbmkaaDoorSf
import Derived.Test.YtodmlimajnbmkaaDoorRc
set_option linter.unusedVariables false
set_option linter.unusedSimpArgs false
set_option maxRecDepth 10000
namespace Go.Proofs.YtodmlimajnbmkaaDoor
open Go Go.Crisp
attribute [local irreducible] FCall rowK newK stK iteK vK qK drawK gK joinK loopK mkK appK cpyK nextStrK rangeStrK

theorem join_append (sep : List UInt8) (a b : List (List UInt8)) (ha : a ≠ []) (hb : b ≠ []) : Lib.join (a ++ b) sep = Lib.join a sep ++ sep ++ Lib.join b sep := by
  match a, b, ha, hb with
  | x :: a, y :: b, _, _ =>
    rw [List.cons_append, Lib.join_cons, Lib.join_cons, Lib.join_cons]
    simp [Lib.joinTail]
theorem wordL_ne {o : OpD} (h : o.ok) : wordL o ≠ [] := by
  unfold wordL
  rw [if_pos h]
  intro e
  have := congrArg List.length e
  simp at this
theorem join_ne (sep : List UInt8) (a : List (List UInt8)) (ha : a ≠ []) (h : ∀ x ∈ a, x ≠ []) : Lib.join a sep ≠ [] := by
  match a, ha with
  | x :: a, _ =>
    rw [Lib.join_cons]
    intro e
    exact h x (List.mem_cons_self ..) (List.append_eq_nil_iff.1 e).1
theorem printL_nil {l : List OpD} (h : allOk l) : printL l = [] ↔ l = [] := by
  constructor
  · intro e
    by_cases hl : l = []
    · exact hl
    · exact absurd e (join_ne _ _ (by simpa using hl) fun x hx => by
        obtain ⟨o, ho, rfl⟩ := List.mem_map.1 hx
        exact wordL_ne (h o ho))
  · rintro rfl; rfl
theorem printL_append {l m : List OpD} (hl : l ≠ []) (hm : m ≠ []) : printL (l ++ m) = printL l ++ [59] ++ printL m := by
  unfold printL
  rw [List.map_append]
  exact join_append _ _ _ (by simpa using hl) (by simpa using hm)
theorem allOk_app {l m : List OpD} : allOk (l ++ m) ↔ allOk l ∧ allOk m := by
  unfold allOk
  constructor
  · exact fun h => ⟨fun o ho => h o (List.mem_append.2 (.inl ho)), fun o ho => h o (List.mem_append.2 (.inr ho))⟩
  · rintro ⟨h1, h2⟩ o ho
    rcases List.mem_append.1 ho with h | h
    · exact h1 o h
    · exact h2 o h

theorem c_RecipeJoins {h : Heap} (G : GlobH h) {v u : Value} {l m : List OpD} (H : Rp.Sl rOp (fun _ => True) h v l) (K : Rp.Sl rOp (fun _ => True) h u m) (wl : ∀ o ∈ l, o.Wf) (wm : ∀ o ∈ m, o.Wf) (hl : l.length ≤ 4398046511104) (hm : m.length ≤ 4398046511104) :
    FCall Tryd.prog F_law13_RecipeJoins #[v, u] h fun r h' => r = .bool true ∧ Ext h h' := by
  apply ok_law13_RecipeJoins
  unfold sh_law13_RecipeJoins
  have H0 := H.mono (Z' := fun b => b < h.size) fun b hb _ => hb
  have K0 := K.mono (Z' := fun b => b < h.size) fun b hb _ => hb
  have hvl := H.isSl
  have hul := K.isSl
  refine (c_Lives G).mono fun v1 h1 ⟨hv1, e1⟩ => ?_
  subst hv1
  simp only [go_sem]
  refine (c_few (H.ext e1) hl).mono fun v2 h2 ⟨hv2, e2⟩ => ?_
  subst hv2
  have e12 := e1.trans e2
  by_cases f1 : fewL l
  case neg =>
    simp only [go_sem, f1]
    exact (c_Lives (G.ext e12)).mono fun r h3 ⟨hr, e3⟩ => ⟨hr, e12.trans e3⟩
  simp only [go_sem, f1]
  refine (c_few (K.ext e12) hm).mono fun v3 h3 ⟨hv3, e3⟩ => ?_
  subst hv3
  have e13 := e12.trans e3
  by_cases f2 : fewL m
  case neg =>
    simp only [go_sem, f2]
    exact (c_Lives (G.ext e13)).mono fun r h4 ⟨hr, e4⟩ => ⟨hr, e13.trans e4⟩
  obtain ⟨a1, c1, rfl⟩ := hvl
  obtain ⟨a2, c2, rfl⟩ := hul
  have b1 := f1.2
  have b2 := f2.2
  simp only [go_sem, f2]
  rw [w64 (by omega) (by omega)]
  refine iteK_dec (fun h5 => ?_) (fun h5 => ?_)
  · exact (c_Lives (G.ext e13)).mono fun r h4 ⟨hr, e4⟩ => ⟨hr, e13.trans e4⟩
  have sl : Small 60 l := fun o ho => ⟨wl o ho, f1.1 o ho⟩
  have sm : Small 60 m := fun o ho => ⟨wm o ho, f2.1 o ho⟩
  have up : ∀ {l : List OpD}, Small 60 l → Small 1000 l := fun s o ho => ⟨(s o ho).1, by have := (s o ho).2.1; omega, by have := (s o ho).2.2; omega⟩
  refine (c_Print (G.ext e13) (H.ext e13) (up sl) (by omega)).mono fun v4 h4 ⟨hv4, e4⟩ => ?_
  subst hv4
  have e14 := e13.trans e4
  simp only [go_sem]
  refine (c_Print (G.ext e14) (K.ext e14) (up sm) (by omega)).mono fun v5 h5' ⟨hv5, e5⟩ => ?_
  subst hv5
  have e15 := e14.trans e5
  simp only [go_sem]
  refine rowK_use (c' := #[]) rfl fun b6 h6 r6 e6 n6 => ?_
  have e16 := e15.trans e6
  have O6 : Rp.Ow rOp (fun b => b < h.size) h6 (.slice (some ⟨b6, 0, none⟩) 0 0) [] :=
    ⟨[], .inr ⟨b6, 0, [], _, rfl, Nat.le_refl _, rfl, rfl, r6⟩, fun b hb hb' => by have : b = b6 := hb; have := e15.1; omega, fun i hi => absurd hi (by simp)⟩
  obtain ⟨d1, s1, z1, q1⟩ := H0.ext e16
  refine Rp.app_ow (l := []) (l2 := l) O6 s1 q1 rfl (by simp; omega) (by simp; omega) (fun b hb => Nat.lt_of_lt_of_le hb e16.1) fun v7 h7 O7 f7 n7 => ?_
  rw [List.nil_append] at O7
  have nb6 : ∀ b, blk (.slice (some ⟨b6, 0, none⟩) 0 0) b → h.size ≤ b := fun b hb => by have : b = b6 := hb; have := e15.1; omega
  have e17 := e16.then_fr f7 nb6
  have nb7 : ∀ b, blk v7 b → h.size ≤ b := fun b hb => by
    rcases n7 b hb with h8 | h8
    · exact nb6 b h8
    · exact Nat.le_trans e16.1 h8
  obtain ⟨d2, s2, z2, q2⟩ := K0.ext e17
  refine Rp.app_ow (l := l) (l2 := m) O7 s2 q2 rfl (by omega) (by omega) (fun b hb => Nat.lt_of_lt_of_le hb e17.1) fun v8 h8 O8 f8 n8 => ?_
  have e18 := e17.then_fr f8 nb7
  have slm : Small 60 (l ++ m) := fun o ho => by
    rcases List.mem_append.1 ho with h9 | h9
    · exact sl o h9
    · exact sm o h9
  refine (c_Print (G.ext e18) O8.sl (up slm) (by simp; omega)).mono fun v9 h9 ⟨hv9, e9⟩ => ?_
  subst hv9
  have e19 := e18.trans e9
  simp only [go_sem]
  by_cases k1 : allOk l
  case neg =>
    have k3 : ¬ allOk (l ++ m) := fun h => k1 (allOk_app.1 h).1
    rw [if_neg k1, if_neg k3, if_neg k3]
    simp only [go_sem, six_zero]
    exact ⟨trivial, e19⟩
  by_cases k2 : allOk m
  case neg =>
    have k3 : ¬ allOk (l ++ m) := fun h => k2 (allOk_app.1 h).2
    rw [if_pos k1, if_neg k2, if_neg k3, if_neg k3]
    simp only [go_sem, six_zero]
    exact ⟨trivial, e19⟩
  have k3 : allOk (l ++ m) := allOk_app.2 ⟨k1, k2⟩
  have t1 := printL_length sl
  have t2 := printL_length sm
  have t1' : (71 + 44 * 60) * l.length ≤ (71 + 44 * 60) * 20 := Nat.mul_le_mul_left _ b1
  have t2' : (71 + 44 * 60) * m.length ≤ (71 + 44 * 60) * 20 := Nat.mul_le_mul_left _ b2
  simp only [if_pos k1, if_pos k2, if_pos k3]
  simp only [go_sem]
  rw [binS_add (by simp; omega), vK_some, binS_add (by simp; omega), vK_some]
  by_cases l0 : l = []
  · subst l0
    have e0 : printL [] = [] := rfl
    simp only [go_sem, e0, List.nil_append]
    rw [binS_add (by simp; omega), vK_some]
    simp only [go_sem, List.nil_append]
    exact ⟨trivial, e19⟩
  by_cases m0 : m = []
  · subst m0
    have e0 : printL [] = [] := rfl
    have p1 : ¬ printL l = [] := fun h => l0 ((printL_nil k1).1 h)
    simp only [go_sem, e0, p1, List.append_nil]
    rw [binS_add (by simp; omega), vK_some]
    simp only [go_sem, List.append_nil]
    exact ⟨trivial, e19⟩
  have p1 : ¬ printL l = [] := fun h => l0 ((printL_nil k1).1 h)
  have p2 : ¬ printL m = [] := fun h => m0 ((printL_nil k2).1 h)
  simp only [go_sem, p1, p2]
  rw [printL_append l0 m0]
  simp only [go_sem]
  exact ⟨trivial, e19⟩

/-! ### arguments -/
abbrev tI : TS := .int .i64
abbrev tIs : TS := .sl (.int .i64) 8
abbrev tOp : TS := .pair tI (.pair tI (.pair tI (.pair tI (.pair tIs (.pair tIs (.pair tI (.pair tI (.pair tI .unit))))))))
def opOf (x : tOp.T) : OpD := ⟨x.1, x.2.1, x.2.2.1, x.2.2.2.1, x.2.2.2.2.1, x.2.2.2.2.2.1, x.2.2.2.2.2.2.1, x.2.2.2.2.2.2.2.1, x.2.2.2.2.2.2.2.2.1⟩
theorem sl_of_slc {h : Heap} {v : Value} {l : List Int} (H : SlC 1 h v l.length (l.map (Value.int .i64))) : Rp.Sl rI (fun _ => True) h v l :=
  ⟨_, H, fun _ _ _ => trivial, fun i hi => by
    show Rp.el 1 _ i = [.int .i64 l[i]]
    rw [Rp.el_one (by simpa using hi), List.getElem_map]⟩
theorem i64s_rd {h : Heap} {cs : List Value} {l : List Int} (H : Rd tIs h cs l) : ∃ v, cs = [v] ∧ Rp.Sl rI (fun _ => True) h v l ∧ ∀ n ∈ l, I64 n := by
  obtain ⟨v, rfl, h1, h2, _⟩ := sl1_rd (e := .int .i64) (Value.int .i64) I64 rfl (fun ds x hr => ⟨hr.1, i64_wf hr.2⟩) H
  exact ⟨v, rfl, sl_of_slc h1, h2⟩
theorem op_rd {h : Heap} {cs : List Value} {x : tOp.T} (H : Rd tOp h cs x) : rOp.R (fun _ => True) h cs (opOf x) ∧ (opOf x).Wf := by
  obtain ⟨_, _, rfl, ⟨rfl, a1⟩, _, _, rfl, ⟨rfl, a2⟩, _, _, rfl, ⟨rfl, a3⟩, _, _, rfl, ⟨rfl, a4⟩, _, _, rfl, a5, _, _, rfl, a6, _, _, rfl, ⟨rfl, a7⟩, _, _, rfl, ⟨rfl, a8⟩, _, _, rfl, ⟨rfl, a9⟩, rfl⟩ := H
  obtain ⟨s, rfl, s1, s2⟩ := i64s_rd a5
  obtain ⟨t, rfl, t1, t2⟩ := i64s_rd a6
  exact ⟨⟨s, t, rfl, s1, t1⟩, ⟨i64_wf a1, i64_wf a2, i64_wf a3, i64_wf a4, i64_wf a7, i64_wf a8, i64_wf a9, s2, t2⟩⟩
theorem sl_mem {e : TS} {z : Nat} {h : Heap} {cs : List Value} {l : List e.T} (H : Rd (.sl e z) h cs l) : ∀ x ∈ l, ∃ ds, Rd e h ds x := by
  obtain ⟨a, cap, rfl, h1, _, h2, hl⟩ := H
  rcases hl with hl | ⟨b, o, ha, hl⟩
  · have : l = [] := List.eq_nil_of_length_eq_zero hl
    subst this
    exact fun x hx => absurd hx (by simp)
  · intro x hx
    obtain ⟨i, hi, rfl⟩ := List.mem_iff_getElem.1 hx
    obtain ⟨ds, _, _, hr⟩ := hl i hi
    exact ⟨ds, hr⟩
theorem ops_rd {h : Heap} {cs : List Value} {l : List tOp.T} (H : Rd (.sl (.st tOp) 104) h cs l) :
    ∃ v m, cs = [v] ∧ Rp.Sl rOp (fun _ => True) h v m ∧ (∀ o ∈ m, o.Wf) ∧ m.length ≤ 4398046511104 := by
  obtain ⟨v, rfl, h1, h2⟩ := sl_rd (e := .st tOp) (E := rOp) opOf rfl (by decide) (fun ds x hr => (op_rd hr).1) H
  have h3 : l.length ≤ 4398046511104 := by have h2 : List.length (α := tOp.T) l * 104 ≤ 140737488351232 := h2; show List.length (α := tOp.T) l ≤ _; omega
  refine ⟨v, l.map opOf, rfl, h1, fun o ho => ?_, by rw [List.length_map]; exact h3⟩
  obtain ⟨x, hx, rfl⟩ := List.mem_map.1 ho
  obtain ⟨ds, hr⟩ := sl_mem (e := .st tOp) H x hx
  exact (op_rd hr).2
theorem r_RecipeJoins {L : List (String × DataW Unit)} (l : Lists L) (h : Heap) (args : Array Value) (H : Listed Tryd.prog L h) (R : ArgsRd [.sl (.st tOp) 104, .sl (.st tOp) 104] h args.toList) :
    FCall Tryd.prog F_law13_RecipeJoins args h fun r h' => r = .bool true ∧ Ext h h' := by
  obtain ⟨v, r, hr, ⟨x, hx⟩, u, r', hr', ⟨y, hy⟩, h0⟩ := R
  have h0 : r' = [] := h0
  subst h0 hr'
  obtain ⟨v', m, e1, k1, w1, l1⟩ := ops_rd hx
  obtain ⟨u', n, e2, k2, w2, l2⟩ := ops_rd hy
  obtain rfl : v = v' := by simpa using e1
  obtain rfl : u = u' := by simpa using e2
  obtain rfl : args = #[v, u] := by cases args; simp_all
  exact c_RecipeJoins (l.glob H) k1 k2 w1 w2 l1 l2
end Go.Proofs.YtodmlimajnbmkaaDoor
