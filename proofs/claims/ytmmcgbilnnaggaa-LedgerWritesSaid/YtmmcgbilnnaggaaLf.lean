/- LedgerWrites. Conditions: none. -/
import Derived.Test.YtmmcgbilnnaggaaLd
import Derived.Test.YtmmcgbilnnaggaaMc
import Derived.Test.YtmmcgbilnnaggaaNc
set_option linter.unusedVariables false
set_option linter.unusedSimpArgs false
namespace Go.Proofs.Ytmmcgbilnnaggaa
open Go Go.Crisp
attribute [local irreducible] FCall rowK newK stK iteK vK qK drawK gK joinK loopK mkK appK cpyK mapPutK mapDelK newmK

def hitsB (buf : Int) (a : Acc) : Bool := a.wr && decide (a.buf = buf)
def hitsP (buf x : Int) (a : Acc) : Bool := hitsB buf a && (decide (a.lo ≤ x) && decide (x < a.hi))

/-- One access of a ledger is read into a variable. -/
theorem acc_var {Z : Nat → Prop} {h : Heap} {s : Value} {c : Array Value} {t : TypeId} {l : List Acc} {k : Nat} {K : Value → Heap → Prop} (H : Rp.Sl rAcc Z h s l) (hk : k < l.length) (hc : c.size = 6)
    (HK : ∀ b h' x, Ints h' x l[k].when_ → h'[b]? = some (.cells #[.int .i64 l[k].who, x, .int .i64 l[k].buf, .int .i64 l[k].lo, .int .i64 l[k].hi, .bool l[k].wr] t (0, 0)) → Ext h h' → h.size ≤ b → K (.pointer (some ⟨b, 0, none⟩)) h') :
    vK (idxV 6 s (.int .i64 (k : Int))) fun v11 => vK (ldsV 6 h v11) fun v12 => newK c t h fun v13 h14 => stK 6 v13 v12 h14 fun v15 h16 => K v13 h16 := by
  obtain ⟨p, cs, hp, hq, hcs⟩ := H.atw (show 0 < rAcc.w by decide) (k := .i64) hk
  have hp : idxV 6 s (.int .i64 (k : Int)) = some p := hp
  have hq : ldsV 6 h p = some (.agg cs.toArray) := hq
  have one := rAcc.one hcs
  obtain ⟨x, rfl, hx⟩ := hcs
  rw [hp, vK_some, hq, vK_some]
  refine var_new (by rw [hc]; rfl) one rfl fun b h' r e n => ?_
  exact HK b h' x ((sl_ints hx).ext e) r e n

theorem c_Written {M Z : Nat → Prop} {h : Heap} {v : Value} {l : List Acc} (H : IsLedger M Z h v l) (buf x : Int) (hl : l.length ≤ 1000) :
    FCall Try.prog F_ledger_Ledger_Written #[v, .int .i64 buf, .int .i64 x] h fun r h' => r = .int .i64 ((l.countP (hitsP buf x) : Nat) : Int) ∧ Ext h h' := by
  obtain ⟨bx, sl, t, rfl, L⟩ := H
  apply ok_ledger_Ledger_Written
  unfold sh_ledger_Ledger_Written
  obtain ⟨sa, sc, rfl⟩ := L.own.isSl
  simp only [go_sem, cell_row L.var]
  refine loopK_var (fun d xs h' => Ext h h' ∧ ∃ k : Nat, k ≤ l.length ∧ d = l.length - k ∧ xs = [.int .i64 (((l.take k).countP (hitsP buf x) : Nat) : Int), .int .i64 (k : Int)]) l.length
    ⟨Ext.refl h, 0, by omega, rfl, rfl⟩ ?_
  rintro d _ ρj h1 again ⟨e1, k, hk, rfl, rfl⟩ hag
  simp only [go_sem]
  refine iteK_dec (fun hlt => ?_) (fun hge => ?_)
  · have hlt : k < l.length := by omega
    have hc : (l.take k).countP (hitsP buf x) ≤ k := Nat.le_trans List.countP_le_length (by rw [List.length_take]; omega)
    have wk : IntKind.i64.wrap ((k : Int) + 1) = (k : Int) + 1 := w64 (by omega) (by omega)
    have wc : IntKind.i64.wrap ((((l.take k).countP (hitsP buf x) : Nat) : Int) + 1) = (((l.take k).countP (hitsP buf x) + 1 : Nat) : Int) := by rw [w64 (by omega) (by omega)]; omega
    have hst : (l.take (k + 1)).countP (hitsP buf x) = (l.take k).countP (hitsP buf x) + if hitsP buf x l[k] = true then 1 else 0 := by
      rw [List.take_succ_eq_append_getElem hlt, List.countP_append, List.countP_cons, List.countP_nil, Nat.zero_add]
    refine acc_var (L.own.ext e1).sl hlt rfl fun b3 h3 y hy r3 e3 n3 => ?_
    have go0 : hitsP buf x l[k] = false → again [.int .i64 (((l.take k).countP (hitsP buf x) : Nat) : Int), .int .i64 ((k : Int) + 1)] h3 := fun hh => by
      refine hag _ _ (l.length - (k + 1)) (by omega) ⟨e1.trans e3, k + 1, hlt, rfl, ?_⟩
      rw [hst, hh]; rfl
    have go1 : hitsP buf x l[k] = true → again [.int .i64 (((l.take k).countP (hitsP buf x) + 1 : Nat) : Int), .int .i64 ((k : Int) + 1)] h3 := fun hh => by
      refine hag _ _ (l.length - (k + 1)) (by omega) ⟨e1.trans e3, k + 1, hlt, rfl, ?_⟩
      rw [hst, if_pos hh]; rfl
    cases h1 : l[k].wr with
    | false =>
      simp only [go_sem, cell_row r3, h1, wk]
      exact go0 (by simp [hitsP, hitsB, h1])
    | true =>
      by_cases h2 : l[k].buf = buf
      · by_cases h4 : l[k].lo ≤ x
        · by_cases h5 : x < l[k].hi
          · simp only [go_sem, cell_row r3, h1, h2, h4, h5, wk, wc]
            exact go1 (by simp [hitsP, hitsB, h1, h2, h4, h5])
          · simp only [go_sem, cell_row r3, h1, h2, h4, h5, wk]
            exact go0 (by simp [hitsP, hitsB, h1, h2, h4]; omega)
        · simp only [go_sem, cell_row r3, h1, h2, h4, wk]
          exact go0 (by simp [hitsP, hitsB, h1, h2, h4])
      · simp only [go_sem, cell_row r3, h1, h2, wk]
        exact go0 (by simp [hitsP, hitsB, h1, h2])
  · have : k = l.length := by omega
    subst this
    rw [List.take_length]
    exact ⟨by trivial, e1⟩

/-- These keys, just those of the accesses that hit. -/
def KeysOf (buf : Int) (l : List Acc) (kv : List (Int × Value)) : Prop := ∀ k, k ∈ kv.map Prod.fst ↔ ∃ a ∈ l, hitsB buf a = true ∧ a.who = k
theorem put_keys {α : Type} {j : Int} {v : α} : ∀ (kv : List (Int × α)) (k : Int), k ∈ (kPut j v kv).map Prod.fst ↔ k = j ∨ k ∈ kv.map Prod.fst
  | [], k => by simp [kPut]
  | (i, u) :: r, k => by
    unfold kPut
    split
    · rename_i hi
      subst hi
      simp
    · have := put_keys (j := j) (v := v) r k
      simp only [List.map_cons, List.mem_cons, this]
      constructor
      · rintro (h | h | h)
        · exact .inr (.inl h)
        · exact .inl h
        · exact .inr (.inr h)
      · rintro (h | h | h)
        · exact .inr (.inl h)
        · exact .inl h
        · exact .inr (.inr h)
theorem KeysOf.hit {buf : Int} {l : List Acc} {kv : List (Int × Value)} {a : Acc} {v : Value} (H : KeysOf buf l kv) (ha : hitsB buf a = true) : KeysOf buf (l ++ [a]) (kPut a.who v kv) := fun k => by
  rw [put_keys, H k]
  constructor
  · rintro (rfl | ⟨b, hb, h1⟩)
    · exact ⟨a, by simp, ha, rfl⟩
    · exact ⟨b, by simp [hb], h1⟩
  · rintro ⟨b, hb, h1, h2⟩
    rcases List.mem_append.1 hb with hb | hb
    · exact .inr ⟨b, hb, h1, h2⟩
    · rw [List.mem_singleton.1 hb] at h2; exact .inl h2.symm
theorem KeysOf.miss {buf : Int} {l : List Acc} {kv : List (Int × Value)} {a : Acc} (H : KeysOf buf l kv) (ha : hitsB buf a = false) : KeysOf buf (l ++ [a]) kv := fun k => by
  rw [H k]
  constructor
  · rintro ⟨b, hb, h1⟩
    exact ⟨b, by simp [hb], h1⟩
  · rintro ⟨b, hb, h1, h2⟩
    rcases List.mem_append.1 hb with hb | hb
    · exact ⟨b, hb, h1, h2⟩
    · rw [List.mem_singleton.1 hb, ha] at h1; cases h1
theorem put_len {α : Type} {j : Int} {v : α} : ∀ kv : List (Int × α), (kPut j v kv).length ≤ kv.length + 1
  | [] => by simp [kPut]
  | (i, u) :: r => by
    unfold kPut
    split
    · simp
    · have := put_len (j := j) (v := v) r
      simp; omega
theorem put_all {α : Type} {j : Int} {v : α} {Q : Int × α → Prop} (hj : Q (j, v)) : ∀ kv : List (Int × α), (∀ p ∈ kv, Q p) → ∀ p ∈ kPut j v kv, Q p
  | [], _, p, hp => by
    rw [List.mem_singleton.1 hp]; exact hj
  | (i, u) :: r, h, p, hp => by
    unfold kPut at hp
    split at hp
    · rcases List.mem_cons.1 hp with rfl | hp
      · exact hj
      · exact h p (List.mem_cons_of_mem _ hp)
    · rcases List.mem_cons.1 hp with rfl | hp
      · exact h _ (List.mem_cons_self ..)
      · exact put_all hj r (fun q hq => h q (List.mem_cons_of_mem _ hq)) p hp

theorem c_Writers {M Z : Nat → Prop} {h : Heap} {v : Value} {l : List Acc} (H : IsLedger M Z h v l) (buf : Int) (hl : l.length ≤ 1000) (hw : ∀ a ∈ l, (Lit.int .i64 a.who).wf = true) :
    FCall Try.prog F_ledger_Ledger_Writers #[v, .int .i64 buf] h fun r h' => ∃ ss : List Int, OwnI h' r ss ∧ ss.Pairwise (fun a b => a < b) ∧ (∀ k, k ∈ ss ↔ ∃ a ∈ l, hitsB buf a = true ∧ a.who = k) ∧ Ext h h' := by
  obtain ⟨bx, sl, t, rfl, L⟩ := H
  apply ok_ledger_Ledger_Writers
  unfold sh_ledger_Ledger_Writers
  refine new_map fun bm h1 m1 e1 n1 => ?_
  have L1 := L.fr (Q := fun _ => False) e1.fr fun _ _ _ => id
  obtain ⟨sa, sc, rfl⟩ := L.own.isSl
  simp only [go_sem, cell_row L1.var]
  refine loop_count l.length (fun k h' => k ≤ l.length ∧ Ext h h' ∧ ∃ kv, MapI h' bm kv ∧ KeysOf buf (l.take k) kv ∧ kv.length ≤ k) ⟨by omega, e1, [], m1, fun k => by simp, by simp⟩ ?_
  rintro k h2 again ρj ⟨hk, e2, kv, m2, hkv, hkl⟩ hag
  simp only [go_sem]
  refine iteK_dec (fun hlt => ?_) (fun hge => ?_)
  · have hlt : k < l.length := by omega
    have wk : IntKind.i64.wrap ((k : Int) + 1) = (k : Int) + 1 := w64 (by omega) (by omega)
    have ht : l.take (k + 1) = l.take k ++ [l[k]] := List.take_succ_eq_append_getElem hlt
    refine acc_var (L.own.ext e2).sl hlt rfl fun b3 h3 y hy r3 e3 n3 => ?_
    have m3 := m2.ext e3
    have go0 : hitsB buf l[k] = false → again [.int .i64 ((k : Int) + 1)] h3 := fun hh =>
      hag h3 hlt ⟨hlt, e2.trans e3, kv, m3, by rw [ht]; exact hkv.miss hh, by omega⟩
    cases h1 : l[k].wr with
    | false =>
      simp only [go_sem, cell_row r3, h1, wk]
      exact go0 (by simp [hitsB, h1])
    | true =>
      by_cases h2 : l[k].buf = buf
      · simp only [go_sem, cell_row r3, h1, h2]
        refine put_map m3 fun h4 m4 u4 => ?_
        simp only [go_sem, wk]
        have hh : hitsB buf l[k] = true := by simp [hitsB, h1, h2]
        have hp := put_len (j := l[k].who) (v := Value.bool true) kv
        exact hag h4 hlt ⟨hlt, (e2.trans e3).upd n1 u4, _, m4, by rw [ht]; exact hkv.hit hh, by omega⟩
      · simp only [go_sem, cell_row r3, h1, h2, wk]
        exact go0 (by simp [hitsB, h1, h2])
  · have hkk : k = l.length := by omega
    subst hkk
    rw [List.take_length] at hkv
    apply ok_maps_Keys_map_int_bool_int_bool
    unfold sh_maps_Keys_map_int_bool_int_bool
    refine newK_use fun b3 h3 r3 e3 n3 => ?_
    have m3 := m2.ext e3
    refine (c_SortedB r3 m3 (fun p hp => ?_) (by omega)).mono ?_
    · obtain ⟨a, ha, _, hak⟩ := (hkv p.1).1 (List.mem_map.2 ⟨p, hp, rfl⟩)
      rw [← hak]; exact hw a ha
    rintro r h4 ⟨ss, hp, o4, e4, n4⟩
    refine ⟨sortI ss, o4, sortI_lt (hp.nodup_iff.2 m3.nodup), fun k => ?_, (e2.trans e3).trans e4⟩
    rw [← hkv k, ← hp.mem_iff]
    exact (List.mergeSort_perm ss _).mem_iff

theorem c_LedgerWrites {h : Heap} {v : Value} {l : List Acc} {buf x : Int} (hv : Accs h v l) (hn : l.length ≤ 9223372036854775807) (hww : ∀ a ∈ l, (Lit.int .i64 a.who).wf = true) :
    FCall Try.prog F_law20_LedgerWrites #[v, .int .i64 buf, .int .i64 x] h fun r h' => r = .bool true ∧ Ext h h' := by
  apply ok_law20_LedgerWrites
  unfold sh_law20_LedgerWrites
  refine c_Lives.mono ?_
  rintro _ h1 ⟨rfl, e1⟩
  simp only [go_sem]
  refine (c_few (hv.ext e1) hn).mono ?_
  rintro _ h2 ⟨rfl, e2⟩
  have e02 := e1.trans e2
  cases hf : fewB l with
  | false =>
    simp only [go_sem]
    refine c_Lives.mono ?_
    rintro _ h3 ⟨rfl, e3⟩
    exact ⟨rfl, e02.trans e3⟩
  | true =>
    obtain ⟨hl40, hw20⟩ := few_of hf
    simp only [go_sem]
    refine newK_use fun bx h3 r3 e3 n3 => ?_
    have e03 := e02.trans e3
    refine new_map fun bm h4 m4 e4 n4 => ?_
    have e04 := e03.trans e4
    obtain ⟨A, cap, rfl, hA⟩ := hv
    simp only [go_sem]
    have lbx := row_lt r3
    refine loopK_var (fun d xs h' => Ext h h' ∧ ∃ (k : Nat) (M Z : Nat → Prop) (kept : List Acc) (kv : List (Int × Value)), k ≤ l.length ∧ d = l.length - k ∧ xs = [.int .i64 ((kept.countP (hitsP buf x) : Nat) : Int), .int .i64 (k : Int)] ∧
        IsLedger M Z h' (.pointer (some ⟨bx, 0, none⟩)) kept ∧ kept.length ≤ k ∧ (∀ a ∈ kept, a ∈ l) ∧ MapI h' bm kv ∧ KeysOf buf kept kv ∧ (∀ p ∈ kv, ∃ c : Int, p.2 = .int .i64 c ∧ 1 ≤ c ∧ c ≤ k) ∧ (∀ b, M b ∨ Z b → h.size ≤ b ∧ b ≠ bm)) l.length
      ⟨e04, 0, fun k => k = bx, fun _ => False, [], [], by omega, rfl, rfl, (ledger_new r3).ext e4, by simp, fun a ha => absurd ha (by simp), m4, fun k => by simp, fun p hp => absurd hp (by simp), fun b hb => by
        rcases hb with hb | hb
        · rw [hb]; exact ⟨Nat.le_trans e02.1 n3, by omega⟩
        · exact hb.elim⟩ ?_
    rintro d _ ρj h5 again ⟨e5, k, M, Z, kept, kv, hk, rfl, rfl, L5, hkl, hsub, m5, hkv, hpos, mz5⟩ hag
    simp only [go_sem]
    refine iteK_dec (fun hlt => ?_) (fun hge => ?_)
    · have hlt : k < l.length := by omega
      have wk : IntKind.i64.wrap ((k : Int) + 1) = (k : Int) + 1 := w64 (by omega) (by omega)
      rcases hA with rfl | ⟨b, o, rfl, hA⟩
      · simp at hlt
      obtain ⟨cs, hcs, hcell, hacc⟩ := hA k hlt
      obtain ⟨s, rfl, hs⟩ := isAcc_cells hacc
      have hmem : l[k] ∈ l := List.getElem_mem hlt
      have hsw : l[k].when_.length ≤ 20 := hw20 _ hmem
      simp only [idxV_nat hlt, vK_some]
      rw [ldsV_row _ 6 hcs fun j hj => e5.cell (hcell j hj), vK_some]
      have hs1 : oneCell s = true := by obtain ⟨_, _, rfl, _⟩ := hs; rfl
      refine var_new hcs (by repeat' (first | rfl | assumption | exact ones_nil | refine ones_cons ?_ ?_)) hcs fun b6 h6 r6 e6 n6 => ?_
      have e06 := e5.trans e6
      rw [lds_row (l := [.int .i64 l[k].who, s, .int .i64 l[k].buf, .int .i64 l[k].lo, .int .i64 l[k].hi, .bool l[k].wr]) r6 6 rfl, vK_some]
      have A6 : IsAcc h6 (.agg #[.int .i64 l[k].who, s, .int .i64 l[k].buf, .int .i64 l[k].lo, .int .i64 l[k].hi, .bool l[k].wr]) l[k] := ⟨s, rfl, hs.ext e06⟩
      have L6 := L5.ext e6
      have b6M : ¬ M b6 := fun hm => by have := L5.lt (.inl hm); omega
      refine (c_Add L6 A6 (by omega) (by omega)).mono ?_
      rintro _ h7 ⟨rfl, M', Z', L7, f7, mz7⟩
      have e07 : Ext h h7 := e06.then_fr f7 fun b hb => (mz5 b (.inl hb)).1
      have r7 := f7.row r6 b6M
      have lbm := m5.lt
      have m7 : MapI h7 bm kv := (m5.ext e6).fr f7 fun hm => (mz5 bm (.inl hm)).2 rfl
      have mz7' : ∀ b, M' b ∨ Z' b → h.size ≤ b ∧ b ≠ bm := fun b hb => by
        rcases mz7 b hb with h8 | h8 | h8
        · exact mz5 b (.inl h8)
        · exact mz5 b (.inr h8)
        · exact ⟨Nat.le_trans e06.1 h8, by have := e6.1; omega⟩
      have hpos' : ∀ p ∈ kv, ∃ c : Int, p.2 = .int .i64 c ∧ 1 ≤ c ∧ c ≤ ((k + 1 : Nat) : Int) := fun p hp => by obtain ⟨c, h8, h9, h10⟩ := hpos p hp; exact ⟨c, h8, h9, by omega⟩
      have hcnt : kept.countP (hitsP buf x) ≤ kept.length := List.countP_le_length
      -- nothing is counted
      have skip : ∀ kept', addA kept l[k] = kept' → (kept' = kept ∨ (kept' = kept ++ [l[k]] ∧ hitsB buf l[k] = false)) → again [.int .i64 ((kept.countP (hitsP buf x) : Nat) : Int), .int .i64 ((k : Int) + 1)] h7 := by
        intro kept' hadd hor
        rw [hadd] at L7
        rcases hor with rfl | ⟨rfl, hmiss⟩
        · exact hag _ _ (l.length - (k + 1)) (by omega) ⟨e07, k + 1, M', Z', kept', kv, hlt, rfl, rfl, L7, by omega, hsub, m7, hkv, hpos', mz7'⟩
        · refine hag _ _ (l.length - (k + 1)) (by omega) ⟨e07, k + 1, M', Z', _, kv, hlt, rfl, ?_, L7, by simp; omega, fun a ha => ?_, m7, hkv.miss hmiss, hpos', mz7'⟩
          · have : hitsP buf x l[k] = false := by simp [hitsP, hmiss]
            rw [List.countP_append, List.countP_cons, this]; rfl
          · rcases List.mem_append.1 ha with ha | ha
            · exact hsub a ha
            · rw [List.mem_singleton.1 ha]; exact hmem
      cases hm : mayA l[k] with
      | false =>
        simp only [go_sem, wk]
        exact skip kept (by unfold addA; rw [hm]; rfl) (.inl rfl)
      | true =>
        have hadd : addA kept l[k] = kept ++ [l[k]] := by unfold addA; rw [if_pos hm]
        cases hwr : l[k].wr with
        | false =>
          simp only [go_sem, cell_row r7, hwr, wk]
          exact skip _ hadd (.inr ⟨rfl, by simp [hitsB, hwr]⟩)
        | true =>
          by_cases hb : l[k].buf = buf
          · have hh : hitsB buf l[k] = true := by simp [hitsB, hwr, hb]
            have hlook : ∃ c : Int, lookR false (.int .i64 0) (kGet l[k].who kv) = .int .i64 c ∧ 0 ≤ c ∧ c ≤ k := by
              cases hg : kGet l[k].who kv with
              | none => exact ⟨0, rfl, by omega, by omega⟩
              | some u =>
                obtain ⟨c, h8, h9, h10⟩ := hpos _ (kGet_mem hg)
                exact ⟨c, h8, by omega, h10⟩
            obtain ⟨c, hc, hc0, hck⟩ := hlook
            have wc : IntKind.i64.wrap (c + 1) = c + 1 := w64 (by omega) (by omega)
            simp only [go_sem, cell_row r7, hwr, hb, bne_self_eq_false, beq_self_eq_true, look_map m7, hc, wc]
            refine put_map m7 fun h8 m8 u8 => ?_
            have r8 := u8.row (fun hbb => by have := lbm; omega) r7
            rw [hadd] at L7
            have L8 := L7.fr u8.fr fun b _ hb hbb => (mz7' b hb).2 hbb
            have e08 : Ext h h8 := e07.upd (Nat.le_trans e03.1 n4) u8
            have hall : ∀ p ∈ kPut l[k].who (Value.int .i64 (c + 1)) kv, ∃ c : Int, p.2 = .int .i64 c ∧ 1 ≤ c ∧ c ≤ ((k + 1 : Nat) : Int) := put_all ⟨c + 1, rfl, by omega, by omega⟩ kv hpos'
            have hsub' : ∀ a ∈ kept ++ [l[k]], a ∈ l := fun a ha => by
              rcases List.mem_append.1 ha with ha | ha
              · exact hsub a ha
              · rw [List.mem_singleton.1 ha]; exact hmem
            have hst : (kept ++ [l[k]]).countP (hitsP buf x) = kept.countP (hitsP buf x) + if hitsP buf x l[k] = true then 1 else 0 := by
              rw [List.countP_append, List.countP_cons, List.countP_nil, Nat.zero_add]
            have wn : IntKind.i64.wrap (((kept.countP (hitsP buf x) : Nat) : Int) + 1) = ((kept.countP (hitsP buf x) + 1 : Nat) : Int) := by rw [w64 (by omega) (by omega)]; omega
            by_cases h9 : l[k].lo ≤ x
            · by_cases h10 : x < l[k].hi
              · simp only [go_sem, cell_row r8, h9, h10, wk, wn]
                refine hag _ _ (l.length - (k + 1)) (by omega) ⟨e08, k + 1, M', Z', _, _, hlt, rfl, ?_, L8, by simp; omega, hsub', m8, hkv.hit hh, hall, mz7'⟩
                rw [hst, if_pos (by simp [hitsP, hh, h9, h10])]; rfl
              · simp only [go_sem, cell_row r8, h9, h10, wk]
                refine hag _ _ (l.length - (k + 1)) (by omega) ⟨e08, k + 1, M', Z', _, _, hlt, rfl, ?_, L8, by simp; omega, hsub', m8, hkv.hit hh, hall, mz7'⟩
                rw [hst, if_neg (by simp [hitsP, h10])]; rfl
            · simp only [go_sem, cell_row r8, h9, wk]
              refine hag _ _ (l.length - (k + 1)) (by omega) ⟨e08, k + 1, M', Z', _, _, hlt, rfl, ?_, L8, by simp; omega, hsub', m8, hkv.hit hh, hall, mz7'⟩
              rw [hst, if_neg (by simp [hitsP, h9])]; rfl
          · simp only [go_sem, cell_row r7, hwr, hb, wk]
            exact skip _ hadd (.inr ⟨rfl, by simp [hitsB, hb]⟩)
    · have hwk : ∀ a ∈ kept, (Lit.int .i64 a.who).wf = true := fun a ha => hww a (hsub a ha)
      refine (c_Writers L5 buf (by omega) hwk).mono ?_
      rintro r h6 ⟨ss, o6, hss, hmem, e6⟩
      have m6 := m5.ext e6
      have hperm : ss.Perm (kv.map Prod.fst) := by
        refine (List.perm_ext_iff_of_nodup ?_ m6.nodup).2 fun k => by rw [hmem k, hkv k]
        exact hss.imp fun h => by omega
      have hlen : ss.length = kv.length := by rw [hperm.length_eq, List.length_map]
      have hkvl : kv.length ≤ 40 ∨ True := .inr trivial
      obtain ⟨ra, rc, rfl⟩ := o6.sl.isSl
      have S6 := o6.sl
      simp only [go_sem]
      have hsl : ss.length ≤ 9223372036854775807 - 1 := by
        have h7 : ss.length ≤ kept.length := by
          have hsub2 : ss ⊆ kept.map Acc.who := fun k hk => by
            obtain ⟨a, ha, _, hak⟩ := (hmem k).1 hk
            exact List.mem_map.2 ⟨a, ha, hak⟩
          have hnd : ss.Nodup := hss.imp fun h => by omega
          have := (List.nodup_iff_count.1 hnd)
          have := List.Nodup.length_le_of_subset hnd hsub2
          rwa [List.length_map] at this
        omega
      refine loop_count ss.length (fun k h' => k ≤ ss.length ∧ Ext h6 h') ⟨by omega, Ext.refl _⟩ ?_
      rintro k7 h7 again7 ρj7 ⟨hk7, e7⟩ hag7
      simp only [go_sem]
      refine iteK_dec (fun hlt7 => ?_) (fun hge7 => ?_)
      · have hlt7 : k7 < ss.length := by omega
        have wk : IntKind.i64.wrap ((k7 : Int) + 1) = (k7 : Int) + 1 := w64 (by omega) (by omega)
        obtain ⟨p, hp, hq⟩ := (S6.ext e7).at1 (k := .i64) hlt7
        rw [List.getElem_map] at hq
        have hg : ∃ c : Int, kGet ss[k7] kv = some (.int .i64 c) ∧ 1 ≤ c := by
          have h8 : ss[k7] ∈ kv.map Prod.fst := hperm.mem_iff.1 (List.getElem_mem hlt7)
          obtain ⟨q, hq1, hq2⟩ := List.mem_map.1 h8
          obtain ⟨c, h9, h10, _⟩ := hpos q hq1
          exact ⟨c, by rw [← hq2, ← h9]; exact kGet_of_mem m6.nodup hq1, h10⟩
        obtain ⟨c, hg, hc1⟩ := hg
        have hc0 : ¬ c = 0 := by omega
        by_cases h0 : k7 = 0
        · subst h0
          have hp0 : idxV 1 (.slice ra ss.length rc) (.int .i64 0) = some p := hp
          simp only [go_sem, Int.natCast_zero, hp0, hq, vi, look_map (m6.ext e7), hg, lookR, cond_false, hc0, show ¬ (0 : Int) < 0 by omega]
          exact hag7 h7 hlt7 ⟨hlt7, e7⟩
        · obtain ⟨k8, rfl⟩ : ∃ m, k7 = m + 1 := ⟨k7 - 1, by omega⟩
          have hpos8 : (0 : Int) < ((k8 + 1 : Nat) : Int) := by omega
          have wm : IntKind.i64.wrap (((k8 + 1 : Nat) : Int) - 1) = (k8 : Int) := by rw [w64 (by omega) (by omega)]; omega
          have hlt8 : k8 < ss.length := by omega
          obtain ⟨p8, hp8, hq8⟩ := (S6.ext e7).at1 (k := .i64) hlt8
          rw [List.getElem_map] at hq8
          have hrise : ss[k8] < ss[k8 + 1] := List.pairwise_iff_getElem.1 hss k8 (k8 + 1) hlt8 hlt7 (by omega)
          have hng : ¬ ss[k8 + 1] ≤ ss[k8] := by omega
          simp only [go_sem, hp, hq, vi, look_map (m6.ext e7), hg, lookR, cond_false, hc0, hpos8, wm, hp8, hq8, hng, wk]
          exact hag7 h7 hlt7 ⟨hlt7, e7⟩
      · refine (c_Written ((L5.ext e6).ext e7) buf x (by omega)).mono ?_
        rintro _ h8 ⟨rfl, e8⟩
        have hlen' : (ss.length : Int) = (kv.length : Int) := by omega
        simp only [go_sem, len_map ((m6.ext e7).ext e8), hlen']
        exact ⟨trivial, ((e5.trans e6).trans e7).trans e8⟩

theorem accs_rdw {h : Heap} {cs : List Value} {z : Nat} {l : List tAcc.T} (H : Rd (.sl (.st tAcc) z) h cs l) : ∃ v l', cs = [v] ∧ Accs h v l' ∧ l'.length * z ≤ 140737488351232 ∧ ∀ a ∈ l', (Lit.int .i64 a.who).wf = true := by
  have hz := ints_len H
  obtain ⟨a, cap, rfl, _, _, _, hl⟩ := H
  refine ⟨_, l.map fun (x : tAcc.T) => (⟨x.1, x.2.1, x.2.2.1, x.2.2.2.1, x.2.2.2.2.1, x.2.2.2.2.2.1⟩ : Acc), rfl, ⟨a, cap, by rw [List.length_map]; rfl, ?_⟩, by rw [List.length_map]; exact hz, ?_⟩
  · rcases hl with hl | ⟨b, o, ha, hl⟩
    · left
      have : l = [] := List.eq_nil_of_length_eq_zero hl
      rw [this]; rfl
    · refine .inr ⟨b, o, ha.resolve_left (by decide), fun i hi => ?_⟩
      rw [List.length_map] at hi
      obtain ⟨ds, hd, hc, hr⟩ := hl i hi
      refine ⟨ds, hd, fun j hj => hc j hj, ?_⟩
      have := (acc_rd (cs := ds) hr).1
      rw [List.getElem_map]
      exact this
  · intro c hc
    obtain ⟨x, hx, rfl⟩ := List.mem_map.1 hc
    rcases hl with hl | ⟨b, o, ha, hl⟩
    · have : l = [] := List.eq_nil_of_length_eq_zero hl
      rw [this] at hx
      exact absurd hx (by simp)
    · obtain ⟨i, hi, rfl⟩ := List.mem_iff_getElem.1 hx
      obtain ⟨ds, hd, hc, hr⟩ := hl i hi
      obtain ⟨c1, _, _, ⟨_, hw⟩, _⟩ : Rd tAcc h ds (l.get ⟨i, hi⟩) := hr
      exact hw
theorem r_LedgerWrites (h : Heap) (args : Array Value) (H : ArgsRd [.sl (.st tAcc) 64, .int .i64, .int .i64] h args.toList) : FCall Try.prog F_law20_LedgerWrites args h fun r h' => r = .bool true ∧ Ext h h' := by
  obtain ⟨v, r, hr, ⟨x, hx⟩, u, r', hr', ⟨y, hy, wy⟩, z, r2, hr2, ⟨t, ht, wt⟩, h0⟩ := H
  have h0 : r2 = [] := h0
  subst h0 hr' hr2
  obtain rfl : u = .int .i64 y := by simpa using hy
  obtain rfl : z = .int .i64 t := by simpa using ht
  obtain rfl : args = #[v, .int .i64 y, .int .i64 t] := by cases args; simp_all
  obtain ⟨_, l', h1, h2, h3, h4⟩ := accs_rdw hx
  cases h1
  exact c_LedgerWrites h2 (by omega) h4
end Go.Proofs.Ytmmcgbilnnaggaa
