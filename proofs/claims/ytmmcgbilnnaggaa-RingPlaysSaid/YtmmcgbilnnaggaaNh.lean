/- The document's ring: a row that is put; whether a ring is the document's. Conditions: none. -/
import Derived.Test.YtmmcgbilnnaggaaNg
set_option linter.unusedVariables false
set_option linter.unusedSimpArgs false
namespace Go.Proofs.Ytmmcgbilnnaggaa
open Go Go.Crisp
attribute [local irreducible] FCall rowK newK stK iteK vK qK drawK gK joinK loopK mkK appK cpyK mapPutK mapDelK newmK rangeMapK nextMapK entryK

theorem ow_own {Z : Nat → Prop} {h : Heap} {v : Value} {l : List Int} (H : Rp.Ow rI Z h v l) : OwnI h v l := by
  obtain ⟨ds, hs, _, he⟩ := H
  have hl : ds.length = l.length := by have := hs.sl.1; simpa [Rp.int] using this
  have : ds = l.map vi := by
    apply List.ext_getElem (by simp [hl])
    intro i h1 h2
    have h3 := he i (by omega)
    have h4 : Rp.el 1 ds i = [.int .i64 l[i]] := h3
    rw [Rp.el_one h1] at h4
    rw [List.getElem_map]
    simpa [vi] using h4
  subst this
  exact hs

def rowL (n : Nat) (v : Int) : List Int := (List.range n).map fun (i : Nat) => IntKind.i64.wrap (v + (i : Int))
theorem rowL_len (n : Nat) (v : Int) : (rowL n v).length = n := by simp [rowL]
theorem c_row {h : Heap} (n : Nat) (v : Int) (hn : n ≤ 1000) : FCall Try.prog F_law16_row #[.int .i64 (n : Int), .int .i64 v] h fun r h' => OwnI h' r (rowL n v) ∧ Ext h h' ∧ ∀ b, blk r b → h.size ≤ b := by
  apply ok_law16_row
  unfold sh_law16_row
  refine loopK_var (fun d xs h' => Ext h h' ∧ ∃ (k : Nat) (s : Value), k ≤ n ∧ d = n - k ∧ xs = [s, .int .i64 (k : Int)] ∧ Rp.Ow rI (fun _ => False) h' s (rowL k v) ∧ ∀ b, blk s b → h.size ≤ b) n
    ⟨Ext.refl h, 0, _, by omega, rfl, rfl, Rp.Ow.nil, fun b hb => hb.elim⟩ ?_
  rintro d _ ρj h1 again ⟨e1, k, s, hk, rfl, rfl, o1, n1⟩ hag
  simp only [go_sem]
  refine iteK_dec (fun hlt => ?_) (fun hge => ?_)
  · have wk : IntKind.i64.wrap ((k : Int) + 1) = (k : Int) + 1 := w64 (by omega) (by omega)
    simp only [wk]
    refine Rp.push_ow1 (e := rI) rfl (x := IntKind.i64.wrap (v + (k : Int))) o1 rfl rfl (by rw [rowL_len]; omega) (by rw [rowL_len]; omega) (fun b hb => hb.elim) fun s' h2 o2 f2 n2 => ?_
    refine hag _ _ (n - (k + 1)) (by omega) ⟨e1.then_fr f2 n1, k + 1, s', by omega, rfl, rfl, ?_, fun b hb => (n2 b hb).elim (n1 b) fun h5 => Nat.le_trans e1.1 h5⟩
    have : rowL (k + 1) v = rowL k v ++ [IntKind.i64.wrap (v + (k : Int))] := by unfold rowL; rw [List.range_succ, List.map_append]; rfl
    rw [this]; exact o2
  · obtain rfl : k = n := by omega
    exact ⟨ow_own o1, e1, n1⟩

/-- A row in its place. -/
def insL (j : Int) (l : List Int) : List (Int × List Int) → List (Int × List Int)
  | [] => [(j, l)]
  | x :: r => if j < x.1 then (j, l) :: x :: r else x :: insL j l r
theorem insL_all {j : Int} {l : List Int} : ∀ {xs : List (Int × List Int)}, (∀ x ∈ xs, ¬ j < x.1) → insL j l xs = xs ++ [(j, l)]
  | [], _ => rfl
  | x :: r, h => by
    rw [insL, if_neg (h x (List.mem_cons_self ..)), insL_all fun y hy => h y (List.mem_cons_of_mem _ hy)]; rfl
theorem insL_snoc {j : Int} {l : List Int} {y : Int × List Int} : ∀ {xs : List (Int × List Int)}, (∃ x ∈ xs, j < x.1) → insL j l (xs ++ [y]) = insL j l xs ++ [y]
  | [], h => by obtain ⟨x, hx, _⟩ := h; cases hx
  | x :: r, h => by
    rw [List.cons_append, insL, insL]
    by_cases hx : j < x.1
    · rw [if_pos hx, if_pos hx]; rfl
    · rw [if_neg hx, if_neg hx, insL_snoc]
      · rfl
      · obtain ⟨z, hz, hj⟩ := h
        rcases List.mem_cons.1 hz with rfl | hz
        · exact absurd hj hx
        · exact ⟨z, hz, hj⟩
theorem insL_first {j : Int} {l : List Int} {y : Int × List Int} : ∀ {xs : List (Int × List Int)}, (∀ x ∈ xs, ¬ j < x.1) → j < y.1 → insL j l (xs ++ [y]) = xs ++ [(j, l)] ++ [y]
  | [], _, hy => by rw [List.nil_append, insL, if_pos hy]; rfl
  | x :: r, h, hy => by
    rw [List.cons_append, insL, if_neg (h x (List.mem_cons_self ..)), insL_first (fun z hz => h z (List.mem_cons_of_mem _ hz)) hy]; rfl
theorem insL_perm (j : Int) (l : List Int) : ∀ xs : List (Int × List Int), (insL j l xs).Perm (xs ++ [(j, l)])
  | [] => List.Perm.refl _
  | x :: r => by
    unfold insL
    split
    · exact (List.perm_append_comm (l₁ := [(j, l)]) (l₂ := x :: r))
    · exact (insL_perm j l r).cons x
theorem insL_rising {j : Int} {l : List Int} : ∀ {xs : List (Int × List Int)}, Rising xs → kGet j xs = none → Rising (insL j l xs)
  | [], _, _ => by simp [insL, Rising]
  | x :: r, h, hg => by
    unfold Rising at h
    rw [List.pairwise_cons] at h
    unfold kGet at hg
    split at hg
    · cases hg
    · rename_i hne
      unfold insL
      split
      · rename_i hlt
        unfold Rising
        rw [List.pairwise_cons, List.pairwise_cons]
        refine ⟨fun y hy => ?_, h.1, h.2⟩
        rcases List.mem_cons.1 hy with rfl | hy
        · exact hlt
        · have := h.1 y hy
          simp only; omega
      · rename_i hge
        unfold Rising
        rw [List.pairwise_cons]
        refine ⟨fun y hy => ?_, insL_rising h.2 hg⟩
        rcases List.mem_append.1 ((insL_perm j l r).mem_iff.1 hy) with hy | hy
        · exact h.1 y hy
        · rw [List.mem_singleton.1 hy]; simp only; omega

def baseL (room : Nat) (rows : List (Int × List Int)) : List (Int × List Int) := if fullB room rows = true then rows.tail else rows
theorem min_rising {x : Int × List Int} {r : List (Int × List Int)} (h : Rising (x :: r)) : minL ((x :: r).map Prod.fst) = x.1 := by
  unfold Rising at h
  rw [List.pairwise_cons] at h
  have hm := minL_mem (l := (x :: r).map Prod.fst) (by simp)
  have h1 : x.1 ≤ minL ((x :: r).map Prod.fst) := by
    obtain ⟨y, hy, hyx⟩ := List.mem_map.1 hm
    rw [← hyx]
    rcases List.mem_cons.1 hy with rfl | hy
    · exact Int.le_refl _
    · have := h.1 y hy; omega
  have h2 : minL ((x :: r).map Prod.fst) ≤ x.1 := by
    have key : ∀ (l : List Int) (x : Int), l.foldl min x ≤ x := by
      intro l
      induction l with
      | nil => intro x; simp
      | cons z l ih => intro x; rw [List.foldl_cons]; have := ih (min x z); omega
    exact key _ _
  omega
theorem base_del {room : Nat} {rows : List (Int × List Int)} (h : Rising rows) : baseL room rows = roomFor room rows := by
  unfold baseL roomFor
  split
  · cases rows with
    | nil => rfl
    | cons x r => rw [min_rising h, kDel, if_pos rfl]; rfl
  · rfl
theorem kGet_perm {j : Int} {a b : List (Int × List Int)} (p : a.Perm b) (hb : (b.map Prod.fst).Nodup) : kGet j a = kGet j b := by
  have ha : (a.map Prod.fst).Nodup := (p.map Prod.fst).nodup_iff.2 hb
  cases h : kGet j b with
  | none =>
    rw [kGet_none] at h ⊢
    exact fun hm => h ((p.map Prod.fst).mem_iff.1 hm)
  | some v => exact kGet_of_mem ha (p.mem_iff.2 (kGet_mem h))
theorem kDel_permS {j : Int} {a b : List (Int × List Int)} (p : a.Perm b) (hb : (b.map Prod.fst).Nodup) : (kDel j a).Perm (kDel j b) := by
  have hg := kGet_perm (j := j) p hb
  cases h : kGet j b with
  | none =>
    rw [kDel_none h, kDel_none (hg.trans h)]; exact p
  | some v =>
    have h1 := kDel_perm (hg.trans h)
    have h2 := kDel_perm h
    exact List.Perm.cons_inv ((h1.symm.trans p).trans h2)
theorem putOk_perm {room w : Nat} {a b : List (Int × List Int)} {j : Int} {l : List Int} (p : a.Perm b) (hb : (b.map Prod.fst).Nodup) : putOk room w a j l = putOk room w b j l := by
  unfold putOk fullB
  rw [kGet_perm p hb, p.length_eq, minL_perm (p.map Prod.fst)]
theorem putR_perm {room w : Nat} {a b : List (Int × List Int)} {j : Int} {l : List Int} (p : a.Perm b) (hb : Rising b) : (putR room w a j l).Perm (if putOk room w b j l = true then insL j l (baseL room b) else b) := by
  unfold putR
  rw [putOk_perm p hb.nodup]
  split
  · refine List.Perm.trans (List.Perm.append_right _ ?_) (insL_perm j l _).symm
    rw [base_del hb]
    unfold roomFor fullB
    rw [p.length_eq, minL_perm (p.map Prod.fst)]
    split
    · exact kDel_permS p hb.nodup
    · exact p
  · exact p
theorem base_rising {room : Nat} {b : List (Int × List Int)} (hb : Rising b) : Rising (baseL room b) := by
  unfold baseL
  split
  · unfold Rising at hb ⊢
    exact hb.sublist (List.tail_sublist b)
  · exact hb
theorem put_rising {room w : Nat} {b : List (Int × List Int)} {j : Int} {l : List Int} (hb : Rising b) : Rising (if putOk room w b j l = true then insL j l (baseL room b) else b) := by
  split
  · rename_i hp
    refine insL_rising (base_rising hb) ?_
    unfold putOk at hp
    simp only [Bool.and_eq_true, Option.isNone_iff_eq_none] at hp
    rw [base_del hb]
    unfold roomFor
    split
    · rw [kGet_del hb.nodup, hp.2.1]; split <;> rfl
    · exact hp.2.1
  · exact hb

/-- What is behind so many rows. -/
def partL (room : Nat) (rows : List (Int × List Int)) (i : Nat) : List (Int × List Int) := if fullB room rows = true then (rows.take i).tail else rows.take i
theorem partL_step {room : Nat} {rows : List (Int × List Int)} {i : Nat} (hi : i < rows.length) : partL room rows (i + 1) = if i = 0 ∧ fullB room rows = true then [] else partL room rows i ++ [rows[i]] := by
  unfold partL
  rw [List.take_succ_eq_append_getElem hi]
  by_cases hf : fullB room rows = true
  · rw [if_pos hf, if_pos hf]
    by_cases h0 : i = 0
    · subst h0; rw [if_pos ⟨rfl, hf⟩]; simp
    · rw [if_neg (fun h => h0 h.1)]
      have : rows.take i ≠ [] := fun h => by
        have h9 := congrArg List.length h
        rw [List.length_take, List.length_nil] at h9
        omega
      rw [List.tail_append_of_ne_nil this]
  · rw [if_neg hf, if_neg hf, if_neg (fun h => hf h.2)]

/-- The rows that are made: in memory of their own. -/
def OutOk (Z : Nat → Prop) (h : Heap) (b1 b3 : Nat) (hh : Heap) (Zk : Nat → Prop) (out : Value) (L : List (Int × List Int)) : Prop :=
  (∀ b, Zk b → (Z b ∨ h.size ≤ b) ∧ b < hh.size ∧ b ≠ b1 ∧ b ≠ b3) ∧ (∀ b, Z b → Zk b) ∧ Rp.Ow rRow Zk hh out L ∧ ∀ b, blk out b → h.size ≤ b ∧ b ≠ b1 ∧ b ≠ b3
theorem OutOk.ext {Z : Nat → Prop} {h : Heap} {b1 b3 : Nat} {hh h' : Heap} {Zk : Nat → Prop} {out : Value} {L : List (Int × List Int)} (H : OutOk Z h b1 b3 hh Zk out L) (e : Ext hh h') : OutOk Z h b1 b3 h' Zk out L :=
  ⟨fun b hb => ⟨(H.1 b hb).1, Nat.lt_of_lt_of_le (H.1 b hb).2.1 e.1, (H.1 b hb).2.2⟩, H.2.1, H.2.2.1.ext e, H.2.2.2⟩
theorem out_push {Z : Nat → Prop} {h : Heap} {b1 b3 : Nat} {hh : Heap} {Zk : Nat → Prop} {out : Value} {L : List (Int × List Int)} {t t' : TypeId} {cs : List Value} {y : Int × List Int} {K : Value → Heap → Prop} (H : OutOk Z h b1 b3 hh Zk out L) (e : Ext h hh)
    (h1 : b1 < hh.size) (h3 : b3 < hh.size) (hx : rRow.R Zk hh cs y) (hl : L.length ≤ 100000) (HK : ∀ out' h', OutOk Z h b1 b3 h' Zk out' (L ++ [y]) → Fr (blk out) hh h' → K out' h') :
    rowK #[(.int .i64 0), (.slice none 0 0)] t 1 [(0, 2, .agg cs.toArray)] hh fun v71 h72 => appK (.agg #[.int .i64 0, .slice none 0 0]) t' 2 32 out v71 h72 K := by
  refine Rp.push_ow (e := rRow) H.2.2.1 hx rfl rfl (by omega) (by omega) (fun b hb => (H.1 b hb).2.1) fun s' h' o' f' n' => HK s' h' ⟨fun b hb => ⟨(H.1 b hb).1, Nat.lt_of_lt_of_le (H.1 b hb).2.1 f'.1, (H.1 b hb).2.2⟩, H.2.1, o', fun b hb => ?_⟩ f'
  rcases n' b hb with h5 | h5
  · exact H.2.2.2 b h5
  · exact ⟨Nat.le_trans e.1 h5, by omega, by omega⟩
theorem out_ins {Z : Nat → Prop} {h : Heap} {b1 b3 : Nat} {hh : Heap} {Zk : Nat → Prop} {out u : Value} {L : List (Int × List Int)} {t t' t2 : TypeId} {j : Int} {l : List Int} {K : Value → Heap → Prop} (H : OutOk Z h b1 b3 hh Zk out L) (e : Ext h hh)
    (h1 : b1 < hh.size) (h3 : b3 < hh.size) (hu : Ints hh u l) (hul : l.length ≤ 1000) (hl : L.length ≤ 100000) (HK : ∀ out' h' Zk', OutOk Z h b1 b3 h' Zk' out' (L ++ [(j, l)]) → (∀ b, Zk b → Zk' b) → Fr (blk out) hh h' → K out' h') :
    rowK #[] t2 0 [] hh fun v66 h67 => appK (.int .i64 0) t2 1 8 v66 u h67 fun v68 h69 => vK ((fillL #[(.int .i64 0), (.slice none 0 0)] [(0, 1, (.int .i64 j)), (1, 1, v68)]).map .agg) fun v70 =>
      rowK #[(.int .i64 0), (.slice none 0 0)] t 1 [(0, 2, v70)] h69 fun v71 h72 => appK (.agg #[.int .i64 0, .slice none 0 0]) t' 2 32 out v71 h72 K := by
  refine clone_own hu (by omega) fun c hc oc ec nc => ?_
  have c1 := own_one oc
  have hfill : fillL #[(.int .i64 0), (.slice none 0 0)] [(0, 1, (.int .i64 j)), (1, 1, c)] = some #[.int .i64 j, c] := by
    obtain ⟨ca, cc, rfl⟩ := oc.sl.isSl
    kernel_rfl
  rw [vK_map _ _ hfill]
  have OK : OutOk Z h b1 b3 hc (fun b => Zk b ∨ (blk c b)) out L := by
    have hO := H.2.2.1
    refine ⟨fun b hb => ?_, fun b hb => .inl (H.2.1 b hb), (hO.ext ec).mono (fun b _ hb => .inl hb) fun b hb hz => ?_, H.2.2.2⟩
    · rcases hb with hb | hb
      · exact ⟨(H.1 b hb).1, Nat.lt_of_lt_of_le (H.1 b hb).2.1 ec.1, (H.1 b hb).2.2⟩
      · have := nc b hb
        exact ⟨.inr (Nat.le_trans e.1 this), oc.lt hb, by omega, by omega⟩
    · rcases hz with hz | hz
      · obtain ⟨_, _, hd, _⟩ := hO; exact hd b hb hz
      · have := hO.lt hb; have := nc b hz; omega
  refine out_push (cs := [.int .i64 j, c]) OK (e.trans ec) (Nat.lt_of_lt_of_le h1 ec.1) (Nat.lt_of_lt_of_le h3 ec.1) ⟨c, rfl, ints_sl_rp oc.ints fun _ b hb => .inr hb⟩ hl fun out' h' O' f' => HK out' h' _ O' (fun b hb => .inl hb) (ec.fr.trans f')

theorem c_refPut {Z : Nat → Prop} {h : Heap} {v u : Value} {room w : Nat} {rows : List (Int × List Int)} (H : IsRef Z h v room w rows) (hr : Rising rows) (hlen : rows.length ≤ room) (hroom : 1 ≤ room ∧ room ≤ 1000) {j : Int} {l : List Int} (hu : Ints h u l) (hul : l.length ≤ 1000) (hZ : ∀ b, Z b → b < h.size) :
    FCall Try.prog F_ref16_Put #[v, .int .i64 j, u] h fun r h' => ∃ v' Z', r = .tuple #[v', .bool (putOk room w rows j l)] ∧ IsRef Z' h' v' room w (if putOk room w rows j l = true then insL j l (baseL room rows) else rows) ∧ Ext h h' ∧ (∀ b, Z' b → Z b ∨ h.size ≤ b) ∧ ∀ b, Z' b → b < h'.size := by
  have H0 := H
  obtain ⟨s, rfl, hs⟩ := H
  apply ok_ref16_Put
  unfold sh_ref16_Put
  simp only [cells_agg]
  refine newK_use fun b1 h1 r1 e1 n1 => newK_use fun b3 h3 r3 e3 n3 => ?_
  have e03 := e1.trans e3
  have r13 := e3.row r1
  have hs1 := hs.one
  have hs0 := hs
  obtain ⟨sa, sc, rfl⟩ := hs.isSl
  have hu0 := hu
  obtain ⟨ua, uc, rfl, _⟩ := hu
  have b31 : b3 ≠ b1 := by have := row_lt r1; omega
  have b1o : h.size ≤ b1 := n1
  have b3o : h.size ≤ b3 := Nat.le_trans e1.1 n3
  -- nothing happens
  have no : putOk room w rows j l = false → ∀ hh, Ext h3 hh → vK (ldsV 3 hh (.pointer (some ⟨b1, 0, none⟩))) (fun v15 => stK 3 (.pointer (some ⟨b3, 0, none⟩)) v15 hh fun v16 h17 => vK (ldsV 3 h17 (.pointer (some ⟨b3, 0, none⟩))) fun v18 =>
      ∃ v' Z', Value.tuple #[v18, .bool false] = .tuple #[v', .bool (putOk room w rows j l)] ∧ IsRef Z' h17 v' room w (if putOk room w rows j l = true then insL j l (baseL room rows) else rows) ∧ Ext h h17 ∧ (∀ b, Z' b → Z b ∨ h.size ≤ b) ∧ ∀ b, Z' b → b < h17.size) := by
    intro hp hh ee
    rw [lds_row (l := [.int .i64 room, .int .i64 w, .slice sa rows.length sc]) (ee.row r13) 3 rfl, vK_some]
    refine st_var (l := [.int .i64 room, .int .i64 w, .slice sa rows.length sc]) (ee.row r3) rfl (by repeat' (first | rfl | assumption | exact ones_nil | refine ones_cons ?_ ?_)) rfl fun h5 r5 u5 => ?_
    have e5 := (e03.trans ee).upd b3o u5
    rw [lds_row r5 3 rfl, vK_some, hp]
    exact ⟨_, Z, rfl, H0.ext e5, e5, fun b hb => .inl hb, fun b hb => Nat.lt_of_lt_of_le (hZ b hb) e5.1⟩
  by_cases hw : l.length = w
  · have hw' : (l.length : Int) = (w : Int) := by omega
    simp only [go_sem, cell_row r13, hw', lds_row (l := [.int .i64 room, .int .i64 w, .slice sa rows.length sc]) r13 3 rfl]
    refine (c_Find (H0.ext e03) j (by omega)).mono ?_
    rintro _ h4 ⟨⟨fi, rfl, hfi⟩, e4⟩
    have r14 := e4.row r13
    simp only [go_sem, hfi]
    cases hg : kGet j rows with
    | some q =>
      simp only [Option.isSome_some, go_sem]
      exact no (by simp [putOk, hg]) h4 e4
    | none =>
      simp only [Option.isSome_none, go_sem, cell_row r14]
      have e04 := e03.trans e4
      have fin : putOk room w rows j l = true → ∀ (hh : Heap) (Zk : Nat → Prop) (out : Value), Ext h hh → hh[b1]? = some (.cells #[.int .i64 room, .int .i64 w, .slice sa rows.length sc] 57 (0, 0)) → hh[b3]? = some (.cells #[.int .i64 0, .int .i64 0, .slice none 0 0] 57 (0, 0)) →
          Rp.Ow rRow Zk hh out (insL j l (baseL room rows)) → (∀ b, blk out b → h.size ≤ b ∧ b ≠ b1 ∧ b ≠ b3) → (∀ b, Zk b → (Z b ∨ h.size ≤ b) ∧ b < hh.size ∧ b ≠ b1 ∧ b ≠ b3) →
          stK 1 (.pointer (some ⟨b1, 2, none⟩)) out hh fun v98 h99 => vK (ldsV 3 h99 (.pointer (some ⟨b1, 0, none⟩))) fun v100 => stK 3 (.pointer (some ⟨b3, 0, none⟩)) v100 h99 fun v101 h102 => vK (ldsV 3 h102 (.pointer (some ⟨b3, 0, none⟩))) fun v103 =>
          ∃ v' Z', Value.tuple #[v103, .bool true] = .tuple #[v', .bool (putOk room w rows j l)] ∧ IsRef Z' h102 v' room w (if putOk room w rows j l = true then insL j l (baseL room rows) else rows) ∧ Ext h h102 ∧ (∀ b, Z' b → Z b ∨ h.size ≤ b) ∧ ∀ b, Z' b → b < h102.size := by
        intro hp hh Zk out ee q1 q3 oo nn zz
        have out1 := oo.one
        refine st_cell (o := 2) q1 (by simp) out1 fun h5 r5 u5 => ?_
        have r5 : h5[b1]? = some (.cells (List.toArray [.int .i64 room, .int .i64 w, out]) 57 (0, 0)) := r5
        rw [lds_row r5 3 rfl, vK_some]
        refine st_var (l := [.int .i64 room, .int .i64 w, out]) (u5.row b31 q3) rfl (by repeat' (first | rfl | assumption | exact ones_nil | refine ones_cons ?_ ?_)) rfl fun h6 r6 u6 => ?_
        rw [lds_row r6 3 rfl, vK_some, hp]
        have e6 := (ee.upd b1o u5).upd b3o u6
        have o6 : Rp.Ow rRow Zk h6 out (insL j l (baseL room rows)) := (oo.fr u5.fr (fun b _ hb => (zz b hb).2.2.1) fun b hb => (nn b hb).2.1).fr u6.fr (fun b _ hb => (zz b hb).2.2.2) fun b hb => (nn b hb).2.2
        have sz : h6.size = hh.size := u6.1.trans u5.1
        refine ⟨_, fun b => Zk b ∨ blk out b, rfl, ⟨out, rfl, o6.sl⟩, e6, fun b hb => ?_, fun b hb => ?_⟩
        · rcases hb with hb | hb
          · exact (zz b hb).1
          · exact .inr (nn b hb).1
        · rcases hb with hb | hb
          · rw [sz]; exact (zz b hb).2.1
          · exact o6.lt hb
      -- the first row, then the others
      have hposs : fullB room rows = true ∨ fullB room rows = false := by cases fullB room rows <;> simp
      have hlt0 : rows.length ≤ 1000 := by omega
      rcases hposs with hf | hf
      case' inl =>
        have hfe : (rows.length : Int) = (room : Int) := by
          unfold fullB at hf; simp at hf; omega
        have h0 : 0 < rows.length := by omega
        obtain ⟨b0, o0, cs, hp0, hcl, hcs, hcR, _⟩ := (hs0.ext e04).atp (show 0 < rRow.w by decide) (k := .i64) h0
        have hp0 : idxV 2 (.slice sa rows.length sc) (.int .i64 0) = some (.pointer (some ⟨b0, o0, none⟩)) := hp0
        obtain ⟨x0, rfl, _⟩ := hcR
        have hc0 := hcs 0 (by simp)
        simp only [Nat.add_zero, List.getElem_cons_zero] at hc0
        simp only [go_sem, cell_row r14, hfe]
        rw [← hfe]
        simp only [go_sem, hp0, Nat.add_zero, hc0]
        have hmin : minL (rows.map Prod.fst) = rows[0].1 := by
          cases rows with
          | nil => simp at h0
          | cons x r => exact min_rising hr
        refine iteK_dec (fun hlt => ?_) (fun hge => ?_)
        · exact no (by simp [putOk, hf, hmin, hlt]) h4 e4
        have hp : putOk room w rows j l = true := by simp [putOk, hf, hmin, hge, hg, hw]
        try rw [← hfe]
      case' inr =>
        have hfe : ¬ (rows.length : Int) = (room : Int) := by
          unfold fullB at hf; simp at hf; omega
        simp only [go_sem, hfe]
        have hp : putOk room w rows j l = true := by simp [putOk, hf, hg, hw]
      all_goals
        refine loopK_var (fun d xs h' => Ext h h' ∧ h'[b1]? = some (.cells #[.int .i64 room, .int .i64 w, .slice sa rows.length sc] 57 (0, 0)) ∧ h'[b3]? = some (.cells #[.int .i64 0, .int .i64 0, .slice none 0 0] 57 (0, 0)) ∧
          ∃ (i : Nat) (out : Value) (done : Bool) (Zk : Nat → Prop) (L : List (Int × List Int)), i ≤ rows.length ∧ d = rows.length - i ∧ xs = [out, .bool done, .int .i64 (i : Int)] ∧ OutOk Z h b1 b3 h' Zk out L ∧
          ((done = false ∧ L = partL room rows i ∧ ∀ x ∈ partL room rows i, ¬ j < x.1) ∨ (done = true ∧ L = insL j l (partL room rows i) ∧ ∃ x ∈ partL room rows i, j < x.1))) rows.length
          ⟨e04, r14, e4.row r3, 0, _, false, Z, [], by omega, rfl, rfl, ⟨fun b hb => ⟨.inl hb, Nat.lt_of_lt_of_le (hZ b hb) e04.1, by have := hZ b hb; omega, by have := hZ b hb; omega⟩, fun b hb => hb, Rp.Ow.nil, fun b hb => hb.elim⟩, .inl ⟨rfl, by unfold partL; split <;> simp, fun x hx => absurd hx (by unfold partL; split <;> simp)⟩⟩ ?_
        rintro d _ ρj h5 again ⟨e5, q1, q3, i, out, done, Zk, L, hi, rfl, rfl, OK, hL⟩ hag
        simp only [go_sem]
        have hLlen : L.length ≤ rows.length + 1 := by
          have h9 : (partL room rows i).length ≤ rows.length := by
            unfold partL; split <;> simp <;> omega
          rcases hL with ⟨_, rfl, _⟩ | ⟨_, rfl, _⟩
          · omega
          · rw [(insL_perm j l _).length_eq]; simp; omega
        refine iteK_dec (fun hlt => ?_) (fun hge => ?_)
        · have hlt : i < rows.length := by omega
          have wi : IntKind.i64.wrap ((i : Int) + 1) = (i : Int) + 1 := w64 (by omega) (by omega)
          refine row_var (hs0.ext e5) hlt rfl fun b6 h6 x hx r6 e6 n6 => ?_
          have e06 := e5.trans e6
          have OK6 := OK.ext e6
          have q16 := e6.row q1
          have q36 := e6.row q3
          have xR : rRow.R Zk h6 [.int .i64 rows[i].1, x] rows[i] := ⟨x, rfl, hx.mono fun b _ hb => OK.2.1 b hb⟩
          have hb6 : ∀ b, blk out b → b ≠ b6 := fun b hb hbb => by have := OK.2.2.1.lt hb; omega
          have hst := partL_step (room := room) hlt
          by_cases hskip : i = 0 ∧ fullB room rows = true
          · obtain ⟨h0, hff⟩ := hskip
            subst h0
            have hfe2 : (rows.length : Int) = (room : Int) := by
              unfold fullB at hff; simp at hff; omega
            have wi0 : IntKind.i64.wrap ((0 : Int) + 1) = ((0 + 1 : Nat) : Int) := rfl
            simp only [go_sem, Int.natCast_zero, cell_row q16, hfe2, wi0]
            rw [if_pos ⟨rfl, hff⟩] at hst
            refine hag _ _ (rows.length - (0 + 1)) (by omega) ⟨e06, q16, q36, 0 + 1, out, done, Zk, L, hlt, rfl, rfl, OK6, ?_⟩
            rw [hst]
            have hp0 : partL room rows 0 = [] := by unfold partL; split <;> simp
            rw [hp0] at hL
            exact hL
          · rw [if_neg hskip] at hst
            have body : ∀ (K : Value → Prop), K (.bool false) → vK (gV (.bool (decide ((i : Int) = 0))) true (fldV 2 (.pointer (some ⟨b1, 0, none⟩)))) (fun v52 =>
              vK (gV (.bool (decide ((i : Int) = 0))) true (ldV h6 v52)) fun v53 =>
              vK (gV (.bool (decide ((i : Int) = 0))) true (lenslV v53)) fun v54 =>
              vK (gV (.bool (decide ((i : Int) = 0))) true (fldV 0 (.pointer (some ⟨b1, 0, none⟩)))) fun v55 =>
              vK (gV (.bool (decide ((i : Int) = 0))) true (ldV h6 v55)) fun v56 =>
              vK (gV (.bool (decide ((i : Int) = 0))) true (binV .i .eql v54 v56)) fun v57 =>
              vK (pickV (.bool (decide ((i : Int) = 0))) v57 (.bool false)) K) := by
              intro K hK
              by_cases h0 : i = 0
              · subst h0
                have hfe2 : ¬ (rows.length : Int) = (room : Int) := fun hh => hskip ⟨rfl, by unfold fullB; simp; omega⟩
                simp only [go_sem, Int.natCast_zero, cell_row q16, hfe2]
                exact hK
              · have h0' : ¬ (i : Int) = 0 := by omega
                simp only [go_sem, h0']
                exact hK
            refine body _ ?_
            try simp only [go_sem]
            have lt1 := row_lt q16
            have lt3 := row_lt q36
            have keep : ∀ h7, Fr (blk out) h6 h7 → h7[b1]? = some (.cells #[.int .i64 room, .int .i64 w, .slice sa rows.length sc] 57 (0, 0)) ∧ h7[b3]? = some (.cells #[.int .i64 0, .int .i64 0, .slice none 0 0] 57 (0, 0)) ∧ h7[b6]? = some (.cells #[.int .i64 rows[i].1, x] 112 (0, 0)) ∧ Ext h h7 := fun h7 f7 =>
              ⟨f7.row q16 fun hb => (OK.2.2.2 _ hb).2.1 rfl, f7.row q36 fun hb => (OK.2.2.2 _ hb).2.2 rfl, f7.row r6 fun hb => hb6 _ hb rfl, e06.then_fr f7 fun b hb => (OK.2.2.2 b hb).1⟩
            try simp only [go_sem, cell_row r6]
            cases done with
            | false =>
              obtain ⟨_, hLp, hLn⟩ : (false = false ∧ L = partL room rows i ∧ ∀ x ∈ partL room rows i, ¬ j < x.1) := by
                rcases hL with hL | hL
                · exact hL
                · exact absurd hL.1 (by simp)
              simp only [go_sem, cell_row r6]
              refine iteK_dec (fun hjx => ?_) (fun hjx => ?_)
              · refine out_ins OK6 e06 lt1 lt3 (hu0.ext e06) hul (by omega) fun out' h7 Zk' O7 zz f7 => ?_
                obtain ⟨q17, q37, r67, e07⟩ := keep h7 f7
                rw [lds_row (l := [.int .i64 rows[i].1, x]) r67 2 rfl, vK_some]
                have xR7 : rRow.R Zk' h7 [.int .i64 rows[i].1, x] rows[i] := by
                  have : rRow.R Zk h7 [.int .i64 rows[i].1, x] rows[i] := rRow.fr xR f7 fun b _ hz hb => by obtain ⟨_, _, hd, _⟩ := OK6.2.2.1; exact hd b hb hz
                  exact rRow.mono this fun b _ hb => zz b hb
                refine out_push (cs := [.int .i64 rows[i].1, x]) O7 e07 (row_lt q17) (row_lt q37) xR7 (by simp; omega) fun out'' h8 O8 f8 => ?_
                simp only [go_sem, wi]
                refine hag _ _ (rows.length - (i + 1)) (by omega) ⟨e07.then_fr f8 fun b hb => (O7.2.2.2 b hb).1, f8.row q17 fun hb => (O7.2.2.2 _ hb).2.1 rfl, f8.row q37 fun hb => (O7.2.2.2 _ hb).2.2 rfl, i + 1, out'', true, Zk', _, hlt, rfl, rfl, O8, .inr ⟨rfl, ?_, ?_⟩⟩
                · rw [hst, insL_first hLn hjx, hLp]
                · rw [hst]; exact ⟨rows[i], by simp, hjx⟩
              · rw [lds_row (l := [.int .i64 rows[i].1, x]) r6 2 rfl, vK_some]
                refine out_push (cs := [.int .i64 rows[i].1, x]) OK6 e06 lt1 lt3 xR (by omega) fun out' h7 O7 f7 => ?_
                obtain ⟨q17, q37, r67, e07⟩ := keep h7 f7
                simp only [go_sem, wi]
                refine hag _ _ (rows.length - (i + 1)) (by omega) ⟨e07, q17, q37, i + 1, out', false, Zk, _, hlt, rfl, rfl, O7, .inl ⟨rfl, by rw [hst, hLp], fun y hy => ?_⟩⟩
                rw [hst] at hy
                rcases List.mem_append.1 hy with hy | hy
                · exact hLn y hy
                · rw [List.mem_singleton.1 hy]; exact hjx
            | true =>
              obtain ⟨_, hLp, hLe⟩ : (true = true ∧ L = insL j l (partL room rows i) ∧ ∃ x ∈ partL room rows i, j < x.1) := by
                rcases hL with hL | hL
                · exact absurd hL.1 (by simp)
                · exact hL
              try simp only [go_sem]
              rw [lds_row (l := [.int .i64 rows[i].1, x]) r6 2 rfl, vK_some]
              refine out_push (cs := [.int .i64 rows[i].1, x]) OK6 e06 lt1 lt3 xR (by omega) fun out' h7 O7 f7 => ?_
              obtain ⟨q17, q37, r67, e07⟩ := keep h7 f7
              simp only [go_sem, wi]
              refine hag _ _ (rows.length - (i + 1)) (by omega) ⟨e07, q17, q37, i + 1, out', true, Zk, _, hlt, rfl, rfl, O7, .inr ⟨rfl, by rw [hst, insL_snoc hLe, hLp], ?_⟩⟩
              rw [hst]
              obtain ⟨y, hy, hjy⟩ := hLe
              exact ⟨y, List.mem_append_left _ hy, hjy⟩
        · have hil : i = rows.length := by omega
          subst hil
          have hpb : partL room rows rows.length = baseL room rows := by unfold partL baseL; rw [List.take_length]
          rw [hpb] at hL
          cases done with
          | false =>
            obtain ⟨_, hLp, hLn⟩ : (false = false ∧ L = baseL room rows ∧ ∀ x ∈ baseL room rows, ¬ j < x.1) := by
              rcases hL with hL | hL
              · exact hL
              · exact absurd hL.1 (by simp)
            simp only [go_sem]
            refine out_ins OK e5 (row_lt q1) (row_lt q3) (hu0.ext e5) hul (by omega) fun out' h7 Zk' O7 zz f7 => ?_
            try simp only [go_sem]
            refine fin hp h7 Zk' out' (e5.then_fr f7 fun b hb => (OK.2.2.2 b hb).1) (f7.row q1 fun hb => (OK.2.2.2 _ hb).2.1 rfl) (f7.row q3 fun hb => (OK.2.2.2 _ hb).2.2 rfl) ?_ O7.2.2.2 O7.1
            rw [insL_all hLn, ← hLp]
            exact O7.2.2.1
          | true =>
            obtain ⟨_, hLp, hLe⟩ : (true = true ∧ L = insL j l (baseL room rows) ∧ ∃ x ∈ baseL room rows, j < x.1) := by
              rcases hL with hL | hL
              · exact absurd hL.1 (by simp)
              · exact hL
            simp only [go_sem]
            refine fin hp h5 Zk out e5 q1 q3 ?_ OK.2.2.2 OK.1
            rw [← hLp]
            exact OK.2.2.1
  · have hw' : ¬ (l.length : Int) = (w : Int) := by omega
    simp only [go_sem, cell_row r13, hw']
    exact no (by simp [putOk, hw]) h3 (Ext.refl _)
end Go.Proofs.Ytmmcgbilnnaggaa
