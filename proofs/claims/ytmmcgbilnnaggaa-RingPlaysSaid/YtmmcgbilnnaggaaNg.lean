/- The document's ring: how it lies in memory; where a row stands, the next one, a row that is put. Conditions: none. -/
import Derived.Test.YtmmcgbilnnaggaaNf
import Derived.Test.YtmmcgbilnnaggaaLa
set_option linter.unusedVariables false
set_option linter.unusedSimpArgs false
namespace Go.Proofs.Ytmmcgbilnnaggaa
open Go Go.Crisp
attribute [local irreducible] FCall rowK newK stK iteK vK qK drawK gK joinK loopK mkK appK cpyK mapPutK mapDelK newmK rangeMapK nextMapK entryK

/-- A row of the document's ring. -/
def rRow : Rp (Int × List Int) where
  w := 2
  R := fun Z h cs p => ∃ s, cs = [.int .i64 p.1, s] ∧ Rp.Sl rI Z h s p.2
  len := by rintro _ _ _ _ ⟨s, rfl, _⟩; rfl
  one := by
    rintro _ _ _ _ ⟨s, rfl, H⟩
    have := H.one
    repeat' (first | rfl | assumption | exact ones_nil | refine ones_cons ?_ ?_)
  fr := by rintro _ _ _ _ _ _ ⟨s, rfl, H⟩ f q; exact ⟨s, rfl, H.fr f q⟩
  mono := by rintro _ _ _ _ _ ⟨s, rfl, H⟩ q; exact ⟨s, rfl, H.mono q⟩
/-- The document's ring, as a value. -/
def IsRef (Z : Nat → Prop) (h : Heap) (v : Value) (room w : Nat) (rows : List (Int × List Int)) : Prop := ∃ s, v = .agg #[.int .i64 room, .int .i64 w, s] ∧ Rp.Sl rRow Z h s rows
theorem IsRef.ext {Z : Nat → Prop} {h h' : Heap} {v : Value} {room w : Nat} {rows : List (Int × List Int)} (H : IsRef Z h v room w rows) (e : Ext h h') : IsRef Z h' v room w rows := by
  obtain ⟨s, rfl, hs⟩ := H
  exact ⟨s, rfl, hs.ext e⟩

section
variable {Z : Nat → Prop} {h : Heap} {v : Value} {room w : Nat} {rows : List (Int × List Int)}

/-- A row of the document's ring is read into a variable. -/
theorem row_var {Z : Nat → Prop} {h : Heap} {s : Value} {c : Array Value} {t : TypeId} {rows : List (Int × List Int)} {k : Nat} {K : Value → Heap → Prop} (H : Rp.Sl rRow Z h s rows) (hk : k < rows.length) (hc : c.size = 2)
    (HK : ∀ b h' x, Rp.Sl rI Z h' x rows[k].2 → h'[b]? = some (.cells #[.int .i64 rows[k].1, x] t (0, 0)) → Ext h h' → h.size ≤ b → K (.pointer (some ⟨b, 0, none⟩)) h') :
    vK (idxV 2 s (.int .i64 (k : Int))) fun v11 => vK (ldsV 2 h v11) fun v12 => newK c t h fun v13 h14 => stK 2 v13 v12 h14 fun v15 h16 => K v13 h16 := by
  obtain ⟨p, cs, hp, hq, hcs⟩ := H.atw (show 0 < rRow.w by decide) (k := .i64) hk
  have hp : idxV 2 s (.int .i64 (k : Int)) = some p := hp
  have hq : ldsV 2 h p = some (.agg cs.toArray) := hq
  obtain ⟨x, rfl, hx⟩ := hcs
  have hx1 := hx.one
  rw [hp, vK_some, hq, vK_some]
  refine var_new (by rw [hc]; rfl) (by repeat' (first | rfl | assumption | exact ones_nil | refine ones_cons ?_ ?_)) rfl fun b h' r e n => ?_
  exact HK b h' x (hx.ext e) r e n

theorem c_Find (H : IsRef Z h v room w rows) (j : Int) (hl : rows.length ≤ 1000000) : FCall Try.prog F_ref16_Find #[v, .int .i64 j] h fun r h' => (∃ n : Int, r = .int .i64 n ∧ decide (0 ≤ n) = (kGet j rows).isSome) ∧ Ext h h' := by
  obtain ⟨s, rfl, hs⟩ := H
  apply ok_ref16_Find
  unfold sh_ref16_Find
  simp only [cells_agg]
  refine newK_use fun b1 h1 r1 e1 n1 => ?_
  have hs0 := hs
  obtain ⟨sa, sc, rfl⟩ := hs.isSl
  simp only [go_sem, cell_row r1]
  refine loop_count rows.length (fun k h' => k ≤ rows.length ∧ Ext h h' ∧ kGet j rows = kGet j (rows.drop k)) ⟨by omega, e1, rfl⟩ ?_
  rintro k h2 again ρj ⟨hk, e2, hg⟩ hag
  simp only [go_sem]
  refine iteK_dec (fun hlt => ?_) (fun hge => ?_)
  · have hlt : k < rows.length := by omega
    refine row_var (hs0.ext e2) hlt rfl fun b3 h3 x hx r3 e3 n3 => ?_
    have hd : rows.drop k = rows[k] :: rows.drop (k + 1) := List.drop_eq_getElem_cons hlt
    simp only [go_sem, cell_row r3]
    refine iteK_dec (fun heq => ?_) (fun hne => ?_)
    · refine ⟨⟨(k : Int), rfl, ?_⟩, e2.trans e3⟩
      rw [hg, hd, kGet, if_pos heq]
      simp
    · rw [w64 (by omega) (by omega)]
      refine hag h3 hlt ⟨hlt, e2.trans e3, ?_⟩
      rw [hg, hd, kGet, if_neg hne]
  · have : k = rows.length := by omega
    subst this
    refine ⟨⟨-1, rfl, ?_⟩, e2⟩
    rw [hg, List.drop_length]
    simp [kGet]

/-- Rising. -/
def Rising (rows : List (Int × List Int)) : Prop := rows.Pairwise fun a b => a.1 < b.1
theorem Rising.nodup (H : Rising rows) : (rows.map Prod.fst).Nodup := by
  unfold List.Nodup
  rw [List.pairwise_map]
  exact H.imp fun h => by omega

theorem c_refNext (H : IsRef Z h v room w rows) (hr : Rising rows) (hl : rows.length ≤ 1000000) {a b : Int} (ha : -9223372036854775808 ≤ a ∧ a ≤ 9223372036854775807) (hb : b ≤ 9223372036854775807) :
    FCall Try.prog F_ref16_Next #[v, .int .i64 a, .int .i64 b] h fun r h' => (∃ n is, r = .tuple #[.int .i64 n, .bool is] ∧ NextIs rows a b n is) ∧ Ext h h' := by
  obtain ⟨s, rfl, hs⟩ := H
  apply ok_ref16_Next
  unfold sh_ref16_Next
  simp only [cells_agg]
  refine newK_use fun b1 h1 r1 e1 n1 => ?_
  have hs0 := hs
  obtain ⟨sa, sc, rfl⟩ := hs.isSl
  simp only [go_sem, cell_row r1]
  refine loopK_var (fun d xs h' => Ext h h' ∧ ∃ (k : Nat) (j : Int), k ≤ rows.length ∧ d = rows.length - k ∧ xs = [.int .i64 j, .int .i64 (k : Int)] ∧ a ≤ j ∧ (j = a ∨ j ≤ b) ∧ (∀ i, a ≤ i → i < j → (kGet i rows).isSome = true) ∧ (j < b → ∀ x ∈ rows.take k, x.1 ≠ j)) rows.length
    ⟨e1, 0, a, by omega, rfl, rfl, by omega, .inl rfl, fun i h1 h2 => by omega, fun _ x hx => absurd hx (by simp)⟩ ?_
  rintro d _ ρj h2 again ⟨e2, k, j, hk, rfl, rfl, haj, hjb, hin, hno⟩ hag
  simp only [go_sem]
  refine iteK_dec (fun hlt => ?_) (fun hge => ?_)
  · have hlt : k < rows.length := by omega
    refine row_var (hs0.ext e2) hlt rfl fun b3 h3 x hx r3 e3 n3 => ?_
    have hd : rows.take (k + 1) = rows.take k ++ [rows[k]] := List.take_succ_eq_append_getElem hlt
    have wk : IntKind.i64.wrap ((k : Int) + 1) = (k : Int) + 1 := w64 (by omega) (by omega)
    simp only [go_sem, cell_row r3]
    by_cases heq : rows[k].1 = j
    · by_cases hjb2 : j < b
      · have wj : IntKind.i64.wrap (j + 1) = j + 1 := w64 (by omega) (by omega)
        simp only [go_sem, heq, hjb2, wk, wj]
        refine hag _ _ (rows.length - (k + 1)) (by omega) ⟨e2.trans e3, k + 1, j + 1, hlt, rfl, rfl, by omega, .inr (by omega), fun i h1 h2 => ?_, fun _ x hx => ?_⟩
        · by_cases hi : i = j
          · have := kGet_of_mem hr.nodup (j := rows[k].1) (v := rows[k].2) (List.getElem_mem hlt)
            rw [hi, ← heq, this]; rfl
          · exact hin i h1 (by omega)
        · rw [hd] at hx
          rcases List.mem_append.1 hx with hx | hx
          · obtain ⟨i, hi, rfl⟩ := List.mem_iff_getElem.1 hx
            rw [List.length_take] at hi
            have := (List.pairwise_iff_getElem.1 hr) i k (by omega) hlt (by omega)
            rw [List.getElem_take]
            omega
          · rw [List.mem_singleton.1 hx]; omega
      · simp only [go_sem, heq, hjb2, wk]
        exact hag _ _ (rows.length - (k + 1)) (by omega) ⟨e2.trans e3, k + 1, j, hlt, rfl, rfl, haj, hjb, hin, fun h => absurd h hjb2⟩
    · simp only [go_sem, heq, wk]
      refine hag _ _ (rows.length - (k + 1)) (by omega) ⟨e2.trans e3, k + 1, j, hlt, rfl, rfl, haj, hjb, hin, fun h x hx => ?_⟩
      rw [hd] at hx
      rcases List.mem_append.1 hx with hx | hx
      · exact hno h x hx
      · rw [List.mem_singleton.1 hx]; exact heq
  · have : k = rows.length := by omega
    subst this
    rw [List.take_length] at hno
    refine iteK_dec (fun hbj => ?_) (fun hjb2 => ?_)
    · exact ⟨⟨0, false, rfl, .inr ⟨rfl, rfl, fun i h1 h2 => hin i h1 (by omega)⟩⟩, e2⟩
    · refine ⟨⟨j, true, rfl, .inl ⟨rfl, haj, by omega, ?_, hin⟩⟩, e2⟩
      rw [kGet_none]
      intro hm
      obtain ⟨x, hx, hxj⟩ := List.mem_map.1 hm
      exact hno (by omega) x hx hxj
end
end Go.Proofs.Ytmmcgbilnnaggaa
