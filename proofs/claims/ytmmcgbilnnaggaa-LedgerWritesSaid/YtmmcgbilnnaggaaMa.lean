/- Maps in memory whose keys are numbers: what is looked up, put, deleted, counted. Conditions: none. -/
import Derived.Test.YtmmcgbilnnaggaaEe
import Derived.MapKept
set_option linter.unusedVariables false
set_option linter.unusedSimpArgs false
namespace Go.Crisp
open Go Go.MapKept

section
variable {α : Type}
def kGet (j : Int) : List (Int × α) → Option α
  | [] => none
  | (k, v) :: r => if k = j then some v else kGet j r
def kPut (j : Int) (v : α) : List (Int × α) → List (Int × α)
  | [] => [(j, v)]
  | (k, u) :: r => if k = j then (j, v) :: r else (k, u) :: kPut j v r
def kDel (j : Int) : List (Int × α) → List (Int × α)
  | [] => []
  | (k, u) :: r => if k = j then r else (k, u) :: kDel j r
def kFind (j : Int) : List (Int × α) → Nat → Option (Nat × α)
  | [], _ => none
  | (k, v) :: r, i => if k = j then some (i, v) else kFind j r (i + 1)
/-- The same keys, other values. -/
def kMap {β : Type} (f : α → β) (l : List (Int × α)) : List (Int × β) := l.map fun p => (p.1, f p.2)
theorem kMap_keys {β : Type} (f : α → β) (l : List (Int × α)) : (kMap f l).map Prod.fst = l.map Prod.fst := by simp [kMap, List.map_map, Function.comp_def]
theorem kGet_map {β : Type} (f : α → β) (j : Int) : ∀ l : List (Int × α), kGet j (kMap f l) = (kGet j l).map f
  | [] => rfl
  | (k, v) :: r => by
    have ih := kGet_map f j r
    unfold kMap at ih ⊢
    simp only [List.map_cons, kGet]
    split
    · rfl
    · exact ih
theorem kDel_map {β : Type} (f : α → β) (j : Int) : ∀ l : List (Int × α), kDel j (kMap f l) = kMap f (kDel j l)
  | [] => rfl
  | (k, v) :: r => by
    have ih := kDel_map f j r
    unfold kMap at ih ⊢
    simp only [List.map_cons, kDel]
    split
    · rfl
    · simp [ih]
theorem kPut_map {β : Type} (f : α → β) (j : Int) (x : α) : ∀ l : List (Int × α), kPut j (f x) (kMap f l) = kMap f (kPut j x l)
  | [] => rfl
  | (k, v) :: r => by
    have ih := kPut_map f j x r
    unfold kMap at ih ⊢
    simp only [List.map_cons, kPut]
    split
    · rfl
    · simp [ih]
end

/-- These entries, in order. -/
def esKv (es : List MapEntry) (kv : List (Int × Value)) : Prop := es.map (fun e => (e.key, e.val)) = kv.map fun p => (Value.int .i64 p.1, p.2)
/-- A map in memory. -/
def MapI (h : Heap) (b : Nat) (kv : List (Int × Value)) : Prop := ∃ es c, h[b]? = some (.map es c) ∧ Stamped es c ∧ esKv es.toList kv

theorem esKv.length {es : List MapEntry} {kv : List (Int × Value)} (H : esKv es kv) : es.length = kv.length := by
  have := congrArg List.length H
  simpa using this
theorem MapI.nodup {h : Heap} {b : Nat} {kv : List (Int × Value)} (H : MapI h b kv) : (kv.map Prod.fst).Nodup := by
  obtain ⟨es, c, _, hs, he⟩ := H
  have h1 : es.toList.map (·.key) = (kv.map Prod.fst).map (Value.int .i64) := by
    have := congrArg (List.map Prod.fst) he
    simpa [List.map_map, Function.comp_def] using this
  have h2 := hs.2.2
  rw [h1] at h2
  unfold List.Nodup at h2 ⊢
  rw [List.pairwise_map] at h2
  exact h2.imp fun h e => h (by rw [e])
theorem MapI.row {h h' : Heap} {b : Nat} {kv : List (Int × Value)} (H : MapI h b kv) (r : h'[b]? = h[b]?) : MapI h' b kv := by
  obtain ⟨es, c, h1, h2⟩ := H
  exact ⟨es, c, r.trans h1, h2⟩
theorem MapI.lt {h : Heap} {b : Nat} {kv : List (Int × Value)} (H : MapI h b kv) : b < h.size := by
  obtain ⟨es, c, h1, _⟩ := H
  exact row_lt h1
theorem MapI.fr {M : Nat → Prop} {h h' : Heap} {b : Nat} {kv : List (Int × Value)} (H : MapI h b kv) (f : Fr M h h') (hm : ¬ M b) : MapI h' b kv := H.row (f.2 b H.lt hm)
theorem MapI.ext {h h' : Heap} {b : Nat} {kv : List (Int × Value)} (H : MapI h b kv) (e : Ext h h') : MapI h' b kv := H.row (e.2 b H.lt)

theorem find_kv (j : Int) : ∀ (es : List MapEntry) (kv : List (Int × Value)) (i : Nat), esKv es kv → Instr.findNow (.int .i64) (.int .i64 j) es i = some (kFind j kv i)
  | [], kv, i, H => by
    have : kv = [] := List.eq_nil_of_length_eq_zero (by rw [← esKv.length H]; rfl)
    subst this; rfl
  | e :: es, [], i, H => by have := esKv.length H; simp at this
  | e :: es, (k, v) :: kv, i, H => by
    unfold esKv at H
    simp only [List.map_cons, List.cons.injEq, Prod.mk.injEq] at H
    obtain ⟨⟨h1, h2⟩, H⟩ := H
    unfold Instr.findNow kFind
    rw [h1]
    have hs : Instr.sameNow (.int .i64) (.int .i64 j) (.int .i64 k) = some (j == k) := by simp [Instr.sameNow]
    rw [hs]
    by_cases hk : k = j
    · subst hk
      simp [h2]
    · have hk' : (j == k) = false := by simp; exact fun h => hk h.symm
      rw [hk', if_neg hk]
      exact find_kv j es kv (i + 1) H
theorem kFind_get {α : Type} (j : Int) : ∀ (kv : List (Int × α)) (i : Nat), (kFind j kv i).map Prod.snd = kGet j kv
  | [], _ => rfl
  | (k, v) :: r, i => by
    unfold kFind kGet
    split
    · rfl
    · exact kFind_get j r (i + 1)
theorem kGet_none {α : Type} {j : Int} : ∀ {kv : List (Int × α)}, kGet j kv = none ↔ j ∉ kv.map Prod.fst
  | [] => by simp [kGet]
  | (k, v) :: r => by
    unfold kGet
    by_cases hk : k = j
    · simp [hk]
    · simp [hk, kGet_none (kv := r), Ne.symm hk]
theorem kFind_none {α : Type} {j : Int} {kv : List (Int × α)} {i : Nat} (h : kFind j kv i = none) : kGet j kv = none := by
  rw [← kFind_get j kv i, h]; rfl
theorem kFind_some {α : Type} {j : Int} : ∀ {kv : List (Int × α)} {i m : Nat} {v : α}, kFind j kv i = some (m, v) → i ≤ m ∧ kv[m - i]? = some (j, v) ∧ (∀ u, kPut j u kv = kv.set (m - i) (j, u)) ∧ kDel j kv = kv.eraseIdx (m - i)
  | [], _, _, _, h => by cases h
  | (k, v) :: r, i, m, u, h => by
    unfold kFind at h
    split at h
    · rename_i hk
      cases h
      subst hk
      simp [kPut, kDel]
    · rename_i hk
      obtain ⟨h1, h2, h3, h4⟩ := kFind_some h
      have hm : m - i = (m - (i + 1)) + 1 := by omega
      refine ⟨by omega, ?_, fun u => ?_, ?_⟩
      · rw [hm]; simpa using h2
      · rw [hm]; simp [kPut, hk, h3 u]
      · rw [hm]; simp [kDel, hk, h4]

theorem kDel_perm {α : Type} {j : Int} {v : α} : ∀ {kv : List (Int × α)}, kGet j kv = some v → kv.Perm ((j, v) :: kDel j kv)
  | (k, u) :: r, h => by
    unfold kGet at h
    unfold kDel
    split at h
    · rename_i hk
      cases h; subst hk
      rw [if_pos rfl]
    · rename_i hk
      rw [if_neg hk]
      exact ((kDel_perm h).cons (k, u)).trans (List.Perm.swap ..)
theorem kGet_mem {α : Type} {j : Int} {v : α} : ∀ {kv : List (Int × α)}, kGet j kv = some v → (j, v) ∈ kv
  | (k, u) :: r, h => by
    unfold kGet at h
    split at h
    · rename_i hk
      cases h; subst hk
      exact List.mem_cons_self ..
    · exact List.mem_cons_of_mem _ (kGet_mem h)
theorem kGet_of_mem {α : Type} {j : Int} {v : α} : ∀ {kv : List (Int × α)}, (kv.map Prod.fst).Nodup → (j, v) ∈ kv → kGet j kv = some v
  | (k, u) :: r, hn, h => by
    unfold kGet
    rw [List.map_cons, List.nodup_cons] at hn
    rcases List.mem_cons.1 h with h | h
    · cases h; rw [if_pos rfl]
    · rw [if_neg]
      · exact kGet_of_mem hn.2 h
      · rintro rfl
        exact hn.1 (List.mem_map.2 ⟨_, h, rfl⟩)
theorem kGet_del {α : Type} {j i : Int} : ∀ {kv : List (Int × α)}, (kv.map Prod.fst).Nodup → kGet i (kDel j kv) = if i = j then none else kGet i kv
  | [], _ => by simp [kDel, kGet]
  | (k, u) :: r, hn => by
    rw [List.map_cons, List.nodup_cons] at hn
    unfold kDel
    by_cases hk : k = j
    · subst hk
      rw [if_pos rfl]
      by_cases hi : i = k
      · subst hi; rw [if_pos rfl]; exact kGet_none.2 hn.1
      · rw [if_neg hi, kGet, if_neg (Ne.symm hi)]
    · rw [if_neg hk]
      unfold kGet
      by_cases hki : k = i
      · subst hki; rw [if_pos rfl, if_neg hk, if_pos rfl]
      · rw [if_neg hki, if_neg hki]; exact kGet_del hn.2
theorem kDel_sub {α : Type} {j : Int} : ∀ {kv : List (Int × α)}, (kDel j kv).Sublist kv
  | [] => List.Sublist.refl _
  | (k, u) :: r => by
    unfold kDel
    split
    · exact List.sublist_cons_self ..
    · exact kDel_sub.cons_cons _

def lookR (ok : Bool) (z : Value) : Option Value → Value
  | some v => bif ok then .tuple #[v, .bool true] else v
  | none => bif ok then .tuple #[z, .bool false] else z
theorem look_map {h : Heap} {b : Nat} {kv : List (Int × Value)} (H : MapI h b kv) (z : Value) (ok : Bool) (j : Int) : lookV (.int .i64) z ok h (.map (some b)) (.int .i64 j) = some (lookR ok z (kGet j kv)) := by
  obtain ⟨es, c, hb, _, he⟩ := H
  have hm : mapAt h (.map (some b)) = some (es, c) := by unfold mapAt; simp [hb]
  unfold lookV
  simp only [hm, find_kv j es.toList kv 0 he]
  rw [← kFind_get j kv 0]
  cases kFind j kv 0 with
  | none => rfl
  | some p => rfl
theorem look_nil (h : Heap) (z : Value) (ok : Bool) (j : Value) : lookV (.int .i64) z ok h (.map none) j = some (lookR ok z none) := by
  unfold lookV lookR; cases ok <;> rfl
theorem len_map {h : Heap} {b : Nat} {kv : List (Int × Value)} (H : MapI h b kv) : lenmV h (.map (some b)) = some (.int .i64 (kv.length : Nat)) := by
  obtain ⟨es, c, hb, _, he⟩ := H
  unfold lenmV
  simp only [hb]
  rw [← he.length, Array.length_toList]

theorem kPut_new {α : Type} {j : Int} {v : α} : ∀ {kv : List (Int × α)}, kGet j kv = none → kPut j v kv = kv ++ [(j, v)]
  | [], _ => rfl
  | (k, u) :: r, h => by
    unfold kGet at h
    split at h
    · cases h
    · rename_i hk
      simp [kPut, hk, kPut_new h]
theorem kDel_none {α : Type} {j : Int} : ∀ {kv : List (Int × α)}, kGet j kv = none → kDel j kv = kv
  | [], _ => rfl
  | (k, u) :: r, h => by
    unfold kGet at h
    split at h
    · cases h
    · rename_i hk
      simp [kDel, hk, kDel_none h]

theorem put_map {h : Heap} {b : Nat} {kv : List (Int × Value)} {j : Int} {v : Value} {K : Value → Heap → Prop} (H : MapI h b kv) (HK : ∀ h', MapI h' b (kPut j v kv) → Upd b h h' → K undef h') :
    mapPutK (.int .i64) (.map (some b)) (.int .i64 j) v h K := by
  obtain ⟨es, c, hb, hs, he⟩ := H
  unfold mapPutK
  simp only [hb, find_kv j es.toList kv 0 he]
  cases hf : kFind j kv 0 with
  | none =>
    have hg := kFind_none hf
    simp only
    refine HK _ ⟨_, _, set_get hb, stamped_push hs fun x hx hxk => ?_, ?_⟩ Upd.set
    · have h1 : j ∈ kv.map Prod.fst := by
        have : (x.key, x.val) ∈ kv.map fun p => (Value.int .i64 p.1, p.2) := by rw [← he]; exact List.mem_map.2 ⟨x, hx, rfl⟩
        obtain ⟨p, hp, hpe⟩ := List.mem_map.1 this
        rw [hxk] at hpe
        have h2 := congrArg Prod.fst hpe
        simp at h2
        exact List.mem_map.2 ⟨p, hp, h2⟩
      exact kGet_none.1 hg h1
    · unfold esKv at he ⊢
      rw [kPut_new hg, Array.toList_push, List.map_append, he, List.map_append]
      rfl
  | some p =>
    obtain ⟨i, u⟩ := p
    obtain ⟨_, h2, h3, _⟩ := kFind_some hf
    rw [Nat.sub_zero] at h2 h3
    have hi : i < kv.length := (List.getElem?_eq_some_iff.1 h2).1
    have hi' : i < es.size := by rw [← Array.length_toList, he.length]; exact hi
    have hkey : es[i].key = .int .i64 j := by
      have h4 := congrArg (fun l => (l[i]?).map Prod.fst) he
      simp only [List.getElem?_map, h2, Option.map_some, Array.getElem?_toList, Array.getElem?_eq_getElem hi'] at h4
      exact Option.some.inj h4
    simp only
    refine ⟨?_, HK _ ⟨_, _, set_get hb, stamped_modify hs i _ (fun e _ => rfl) (fun e _ hx => ?_), ?_⟩ Upd.set⟩
    · rw [Array.getElem?_eq_getElem hi']
      simp only [Option.map_some, Option.getD_some, hkey]
      simp [Instr.sameBits]
    · rw [Array.getElem?_eq_getElem hi'] at hx
      cases hx
      exact hkey.symm
    · rw [h3]
      unfold esKv at he ⊢
      apply List.ext_getElem?
      intro m
      have hem := congrArg (fun l => l[m]?) he
      simp only [List.getElem?_map, Array.getElem?_toList] at hem ⊢
      rw [Array.getElem?_modify, List.getElem?_set]
      by_cases hm : i = m
      · subst hm
        rw [if_pos rfl, if_pos rfl, if_pos hi, Array.getElem?_eq_getElem hi']
        rfl
      · rw [if_neg hm, if_neg hm]
        exact hem
theorem map_erase {α β : Type} (f : α → β) : ∀ (l : List α) (i : Nat), (l.eraseIdx i).map f = (l.map f).eraseIdx i
  | [], _ => rfl
  | a :: l, 0 => rfl
  | a :: l, i + 1 => by simp [map_erase f l i]
theorem del_map {h : Heap} {b : Nat} {kv : List (Int × Value)} {j : Int} {K : Value → Heap → Prop} (H : MapI h b kv) (HK : ∀ h', MapI h' b (kDel j kv) → Upd b h h' → K (.tuple #[]) h') :
    mapDelK (.int .i64) (.map (some b)) (.int .i64 j) h K := by
  obtain ⟨es, c, hb, hs, he⟩ := H
  unfold mapDelK
  simp only [hb, find_kv j es.toList kv 0 he]
  cases hf : kFind j kv 0 with
  | none =>
    simp only
    refine HK _ ⟨es, c, set_get hb, hs, ?_⟩ Upd.set
    rw [kDel_none (kFind_none hf)]; exact he
  | some p =>
    obtain ⟨i, u⟩ := p
    obtain ⟨_, h2, _, h4⟩ := kFind_some hf
    rw [Nat.sub_zero] at h2 h4
    have hi : i < kv.length := (List.getElem?_eq_some_iff.1 h2).1
    have hi' : i < es.size := by rw [← Array.length_toList, he.length]; exact hi
    simp only
    refine HK _ ⟨_, _, set_get hb, stamped_erase hs i, ?_⟩ Upd.set
    rw [h4]
    unfold esKv at he ⊢
    rw [Array.eraseIdxIfInBounds, dif_pos hi']
    have : (es.eraseIdx i hi').toList = es.toList.eraseIdx i := by simp
    rw [this, map_erase, he, ← map_erase]
theorem esKv.key {es : List MapEntry} {kv : List (Int × Value)} (H : esKv es kv) {e : MapEntry} (he : e ∈ es) : ∃ j, e.key = .int .i64 j ∧ (j, e.val) ∈ kv := by
  have : (e.key, e.val) ∈ kv.map fun p => (Value.int .i64 p.1, p.2) := by rw [← H]; exact List.mem_map.2 ⟨e, he, rfl⟩
  obtain ⟨p, hp, hpe⟩ := List.mem_map.1 this
  have h1 := congrArg Prod.fst hpe
  have h2 := congrArg Prod.snd hpe
  simp only at h1 h2
  exact ⟨p.1, h1.symm, by rw [← h2]; exact hp⟩
theorem del_map' {h : Heap} {b : Nat} {kv : List (Int × Value)} {j : Int} {K : Value → Heap → Prop} (H : MapI h b kv)
    (HK : ∀ h', MapI h' b (kDel j kv) → Upd b h h' → (∀ es c, h[b]? = some (.map es c) → ∃ es', h'[b]? = some (.map es' c) ∧ ∀ e ∈ es', e ∈ es ∧ e.key ≠ .int .i64 j) → K (.tuple #[]) h') :
    mapDelK (.int .i64) (.map (some b)) (.int .i64 j) h K := by
  have H0 := H
  have hnd := H.nodup
  obtain ⟨es, c, hb, hs, he⟩ := H
  have sub : ∃ h', MapI h' b (kDel j kv) ∧ Upd b h h' ∧ (∃ es', h'[b]? = some (.map es' c) ∧ (∀ e ∈ es', e ∈ es) ∧ esKv es'.toList (kDel j kv)) ∧ ∀ K : Value → Heap → Prop, K (.tuple #[]) h' → mapDelK (.int .i64) (.map (some b)) (.int .i64 j) h K := by
    cases hf : kFind j kv 0 with
    | none =>
      have hk : esKv es.toList (kDel j kv) := by rw [kDel_none (kFind_none hf)]; exact he
      refine ⟨_, ⟨es, c, set_get hb, hs, hk⟩, Upd.set, ⟨es, set_get hb, fun e h => h, hk⟩, fun K hK => ?_⟩
      unfold mapDelK
      simp only [hb, find_kv j es.toList kv 0 he, hf]
      exact hK
    | some p =>
      obtain ⟨i, u⟩ := p
      obtain ⟨_, h2, _, h4⟩ := kFind_some hf
      rw [Nat.sub_zero] at h2 h4
      have hi : i < kv.length := (List.getElem?_eq_some_iff.1 h2).1
      have hi' : i < es.size := by rw [← Array.length_toList, he.length]; exact hi
      have hk : esKv (es.eraseIdxIfInBounds i).toList (kDel j kv) := by
        rw [h4]
        unfold esKv at he ⊢
        rw [Array.eraseIdxIfInBounds, dif_pos hi']
        have : (es.eraseIdx i hi').toList = es.toList.eraseIdx i := by simp
        rw [this, map_erase, he, ← map_erase]
      refine ⟨_, ⟨_, _, set_get hb, stamped_erase hs i, hk⟩, Upd.set, ⟨_, set_get hb, fun e h => ?_, hk⟩, fun K hK => ?_⟩
      · rw [Array.eraseIdxIfInBounds, dif_pos hi', ← Array.mem_toList_iff, Array.toList_eraseIdx] at h
        rw [← Array.mem_toList_iff]
        exact (List.eraseIdx_sublist ..).subset h
      · unfold mapDelK
        simp only [hb, find_kv j es.toList kv 0 he, hf]
        exact hK
  obtain ⟨h', m', u', ⟨es', hb', hsub, hkv⟩, hK⟩ := sub
  refine hK K (HK h' m' u' fun es0 c0 h0 => ?_)
  rw [hb] at h0
  cases h0
  refine ⟨es', hb', fun e h => ⟨hsub e h, fun hkey => ?_⟩⟩
  obtain ⟨i, hi, hm⟩ := hkv.key (Array.mem_toList_iff.2 h)
  rw [hkey] at hi
  cases hi
  have h1 := kGet_of_mem m'.nodup hm
  rw [kGet_del hnd, if_pos rfl] at h1
  cases h1
theorem new_map {h : Heap} {K : Value → Heap → Prop} (HK : ∀ b h', MapI h' b [] → Ext h h' → h.size ≤ b → K (.map (some b)) h') : newmK h K :=
  HK h.size _ ⟨#[], 0, push_new, stamped_empty 0, rfl⟩ (Ext.push h _) (Nat.le_refl _)

/-! ### ranges over a map whose entries go as they come -/
theorem range_map {h : Heap} {b c : Nat} {es : Array MapEntry} {K : Value → Heap → Prop} (hm : h[b]? = some (.map es c)) (HK : ∀ it h', h'[it]? = some (.mapIter (some b) c #[] c) → Ext h h' → h.size ≤ it → K (.pointer (some ⟨it, 0, none⟩)) h') : rangeMapK (.map (some b)) h K := by
  unfold rangeMapK
  simp only [hm]
  exact HK h.size _ push_new (Ext.push h _) (Nat.le_refl _)
theorem next_map {h : Heap} {it b c : Nat} {es : Array MapEntry} {seen : Array Nat} {K : Value → Heap → Prop} (hi : h[it]? = some (.mapIter (some b) c seen c)) (hm : h[b]? = some (.map es c)) (hs : Stamped es c) (hseen : ∀ e ∈ es, seen.contains e.born = false)
    (K1 : ∀ e ∈ es, ∀ h', h'[it]? = some (.mapIter (some b) c (seen.push e.born) c) → Upd it h h' → K (.tuple #[.bool true, e.key, e.val]) h') (K0 : es = #[] → K (.tuple #[.bool false]) h) : nextMapK (.pointer (some ⟨it, 0, none⟩)) h K := by
  unfold nextMapK
  simp only [hi, hm]
  refine ⟨?_, fun e he _ => K1 e he _ (set_get hi) Upd.set, fun hold => ?_⟩
  · rw [Bool.eq_false_iff]
    intro h0
    simp only [Bool.and_eq_true, Bool.not_eq_true', Array.all_eq_true', decide_eq_true_eq] at h0
    obtain ⟨⟨_, h1⟩, h2⟩ := h0
    have h3 : 0 < es.size := by
      rcases Nat.eq_zero_or_pos es.size with hz | hz
      · have : es = #[] := Array.eq_empty_of_size_eq_zero hz
        rw [this] at h1; cases h1
      · exact hz
    have h4 := h2 es[0] (Array.getElem_mem h3)
    have h5 := hs.1 es[0] (Array.mem_toList_iff.2 (Array.getElem_mem h3))
    omega
  · rcases Nat.eq_zero_or_pos es.size with hz | hz
    · exact K0 (Array.eq_empty_of_size_eq_zero hz)
    · have h4 := hold es[0] (Array.getElem_mem hz) (hseen _ (Array.getElem_mem hz))
      have h5 := hs.1 es[0] (Array.mem_toList_iff.2 (Array.getElem_mem hz))
      omega
theorem bornInj {es : Array MapEntry} {c : Nat} (hs : Stamped es c) {e e' : MapEntry} (he : e ∈ es) (he' : e' ∈ es) (hb : e.born = e'.born) : e = e' := by
  have hn := hs.2.1
  unfold List.Nodup at hn
  rw [List.pairwise_map, List.pairwise_iff_getElem] at hn
  obtain ⟨i, hi, rfl⟩ := List.mem_iff_getElem.1 (Array.mem_toList_iff.2 he)
  obtain ⟨j, hj, rfl⟩ := List.mem_iff_getElem.1 (Array.mem_toList_iff.2 he')
  rcases Nat.lt_trichotomy i j with h | h | h
  · exact absurd hb (hn i j hi hj h)
  · subst h; rfl
  · exact absurd hb.symm (hn j i hj hi h)
theorem entry_map {h : Heap} {it b c : Nat} {es : Array MapEntry} {seen : Array Nat} {e : MapEntry} {K : Value → Heap → Prop} (hi : h[it]? = some (.mapIter (some b) c (seen.push e.born) c)) (hm : h[b]? = some (.map es c)) (hs : Stamped es c) (he : e ∈ es)
    (K1 : K (.tuple #[e.key, e.val]) h) : entryK (.pointer (some ⟨it, 0, none⟩)) h K := by
  unfold entryK
  simp only [hi, hm, Array.back?_push, ne_eq, not_true_eq_false, if_false]
  have hf : es.find? (fun x => x.born == e.born) = some e := by
    cases hf : es.find? (fun x => x.born == e.born) with
    | none =>
      have := Array.find?_eq_none.1 hf e he
      simp at this
    | some x =>
      have h1 := Array.find?_some hf
      have h2 := Array.mem_of_find?_eq_some hf
      rw [bornInj hs h2 he (by simpa using h1)]
  rw [hf]
  exact K1
end Go.Crisp
