/- The rows' frame: how arguments read, and how a function's contract becomes the given statement. Conditions: none. -/
import Derived.Test.YtefdokfnnokagaaGreatDoorEc
import Derived.WalkKit
import Derived.ProofKit
import Derived.OpenShut
import Derived.ShutString
import Derived.ChangeOld
import Derived.Below
import Derived.Carry
import Derived.SizedLaws
set_option linter.unusedVariables false
set_option linter.unusedSimpArgs false
namespace Go.Crisp
open Go Go.ChangeShapes Go.WideShapes Go.ChangeAt Go.RowKit

/-- The shapes of arguments. -/
inductive TS where
  | int (k : IntKind)
  | bool
  | str
  | sl (e : TS) (z : Nat)
  | st (b : TS)
  | unit
  | pair (a b : TS)

def TS.T : TS → Type
  | .int _ => Int
  | .bool => Bool
  | .str => ByteArray
  | .sl e _ => List e.T
  | .st b => b.T
  | .unit => Unit
  | .pair a b => a.T × b.T

def TS.w : TS → Nat
  | .int _ => 1
  | .bool => 1
  | .str => 1
  | .sl _ _ => 1
  | .st b => b.w
  | .unit => 0
  | .pair a b => a.w + b.w

/-- How data lies in the cells. -/
def Rd : (t : TS) → Heap → List Value → t.T → Prop
  | .int k, _, cs, n => cs = [.int k n] ∧ (Lit.int k n).wf = true
  | .bool, _, cs, b => cs = [.bool b]
  | .str, _, cs, s => cs = [.string s] ∧ s.size ≤ 140737488351232
  | .sl e z, h, cs, l => ∃ a cap, cs = [.slice a (List.length l) cap] ∧ List.length l ≤ cap ∧ cap ≤ maxLen ∧ cap * z ≤ 140737488351232 ∧
      (List.length l = 0 ∨ ∃ b o, (e.w = 0 ∨ a = some ⟨b, o, none⟩) ∧ ∀ i (hi : i < List.length l), ∃ ds : List Value, ds.length = e.w ∧
        (∀ j (hj : j < ds.length), cellOf h ⟨b, o + i * e.w + j, none⟩ = some ds[j]) ∧ Rd e h ds (List.get (α := e.T) l ⟨i, hi⟩))
  | .st b, h, cs, x => Rd b h cs x
  | .unit, _, cs, _ => cs = []
  | .pair a b, h, cs, x => ∃ c1 c2, cs = c1 ++ c2 ∧ Rd a h c1 x.1 ∧ Rd b h c2 x.2

theorem Rd.length : ∀ (t : TS) {h : Heap} {cs : List Value} {x : t.T}, Rd t h cs x → cs.length = t.w
  | .int _, _, _, _, H => by rw [H.1]; rfl
  | .bool, _, cs, x, H => by rw [show cs = [.bool x] from H]; rfl
  | .str, _, _, _, H => by rw [H.1]; rfl
  | .sl _ _, _, _, _, H => by obtain ⟨_, _, H, _⟩ := H; rw [H]; rfl
  | .st b, _, _, x, H => Rd.length b (x := x) H
  | .unit, _, cs, _, H => by rw [show cs = [] from H]; rfl
  | .pair a b, _, _, _, H => by obtain ⟨c1, c2, H, h1, h2⟩ := H; rw [H]; simp [Rd.length a h1, Rd.length b h2, TS.w]

mutual
/-- The type has this shape. -/
def TS.okB (P : Program) : TS → TypeId → Bool
  | .int k, t => match P.underlying t with | some (.int k') => decide (k' = k) | _ => false
  | .bool, t => match P.underlying t with | some .bool => true | _ => false
  | .str, t => match P.underlying t with | some .string => true | _ => false
  | .sl e z, t => match P.underlying t with | some (.slice e') => P.cellsOf e' == e.w && P.bytesOf e' == z && e.okB P e' | _ => false
  | .st b, t => match P.underlying t with | some (.struct fs) => P.cellsOf t == b.w && b.okF P fs.toList 0 | _ => false
  | _, _ => false
/-- The fields have these shapes, from this place on. -/
def TS.okF (P : Program) : TS → List Field → Nat → Bool
  | .unit, fs, _ => match fs with | [] => true | _ => false
  | .pair a b, fs, n => match fs with | [] => false | f :: fs => f.offset == n && P.cellsOf f.type == a.w && a.okB P f.type && b.okF P fs (n + a.w)
  | _, _, _ => false
end

def light (l : List Nat) : Prop := ∀ n ∈ l, n ≤ 140737488351232

theorem add_none (b o n : Nat) : (⟨b, o, none⟩ : Addr).add n = ⟨b, o + n, none⟩ := by
  unfold Addr.add
  split <;> simp_all
theorem cells_spot {w : World} {a : Addr} {n : Nat} {l : List Value} (h : w.cells? 0 a n = some l) : l.length = n ∧ ∀ j (hj : j < l.length), cellOf w.heap (a.add j) = some l[j] := by
  unfold World.cells? at h
  rw [if_pos (Nat.zero_le _)] at h
  have hl : l.length = n := by simpa using mapM_some_length h
  refine ⟨hl, fun j hj => ?_⟩
  have := mapM_some_get h j j (by simp [← hl, hj])
  rw [List.getElem?_eq_getElem hj] at this
  exact this

theorem light_app {a b : List Nat} (h : light (a ++ b)) : light a ∧ light b := ⟨fun n hn => h n (List.mem_append.2 (.inl hn)), fun n hn => h n (List.mem_append.2 (.inr hn))⟩
theorem light_cons {a : Nat} {b : List Nat} (h : light (a :: b)) : a ≤ 140737488351232 ∧ light b := ⟨h a (List.mem_cons_self ..), fun n hn => h n (List.mem_cons_of_mem _ hn)⟩
theorem light_all {H : Type} {P : Program} {e : TypeId} : ∀ {l : List (DataW H)}, light (DataW.weightsAll P e l) → ∀ d ∈ l, light (d.weights P e)
  | [], _, d, hd => by cases hd
  | x :: r, h, d, hd => by
    rw [DataW.weightsAll] at h
    rcases List.mem_cons.1 hd with rfl | hd
    · exact (light_app h).1
    · exact light_all (light_app h).2 d hd

/-- What the walk over the arguments reads, lies so. -/
theorem rd_both {H : Type} {enc : TypeId × Value → H} {P : Program} {w : World} {held : Bool} (t : TS) :
    (∀ (id : TypeId) (fuel : Nat) (cs : List Value) (x : DataW H × List MemPlace), t.okB P id = true → DataW.trod enc P w 0 (fun _ => true) held fuel id cs = some x → light (x.1.weights P id) → ∃ d : t.T, Rd t w.heap cs d) ∧
    (∀ (fs : List Field) (off fuel : Nat) (cs : List Value) (xs : List (DataW H × List MemPlace)), t.okF P fs off = true → off + t.w = cs.length →
      fs.mapM (fun f => DataW.trod enc P w 0 (fun _ => true) held fuel f.type ((cs.drop f.offset).take (P.cellsOf f.type))) = some xs → light (DataW.weightsEach P (fs.map (·.type)) (xs.map (·.1))) → ∃ d : t.T, Rd t w.heap (cs.drop off) d) := by
  induction t with
  | int k =>
    refine ⟨fun id fuel cs x ok h hw => ?_, fun _ _ _ _ _ ok => by simp [TS.okF] at ok⟩
    rw [TS.okB] at ok
    split at ok <;> simp at ok
    rename_i k' hk
    subst ok
    obtain ⟨n, rfl, _, hn⟩ := DataW.trod_int hk h
    exact ⟨n, rfl, hn⟩
  | bool =>
    refine ⟨fun id fuel cs x ok h hw => ?_, fun _ _ _ _ _ ok => by simp [TS.okF] at ok⟩
    rw [TS.okB] at ok
    split at ok <;> simp at ok
    rename_i hk
    obtain ⟨n, rfl, _⟩ := DataW.trod_bool hk h
    exact ⟨n, by simp [Rd]⟩
  | str =>
    refine ⟨fun id fuel cs x ok h hw => ?_, fun _ _ _ _ _ ok => by simp [TS.okF] at ok⟩
    rw [TS.okB] at ok
    split at ok <;> simp at ok
    rename_i hk
    obtain ⟨s, rfl, rfl, _⟩ := DataW.trod_string hk h
    simp only [DataW.weights] at hw
    have := (light_cons hw).1
    exact ⟨s, rfl, by rw [Array.length_toList] at this; exact this⟩
  | sl e z ih =>
    refine ⟨fun id fuel cs x ok h hw => ?_, fun _ _ _ _ _ ok => by simp [TS.okF] at ok⟩
    rw [TS.okB] at ok
    split at ok <;> simp at ok
    rename_i e' hk
    obtain ⟨⟨hc, hz⟩, ok⟩ := ok
    rcases DataW.trod_slice hk h with ⟨rfl, rfl⟩ | ⟨a, len, cap, elems, rest, n, rfl, rfl, rfl, _, hlc, hcm, hel, hi, hsp, _⟩
    · exact ⟨([] : List e.T), none, 0, rfl, Nat.le_refl _, Nat.zero_le _, by simp, .inl rfl⟩
    · obtain ⟨hrl, _⟩ := hsp rfl
      rw [DataW.weights, hk] at hw
      simp only [List.length_map] at hw
      obtain ⟨hw0, hw⟩ := light_cons hw
      have hw := light_all (light_app hw).1
      have hcap : elems.length + rest.length = cap := by omega
      rw [hcap, hz] at hw0
      have each : ∀ i, i < len → ∃ (ds : List Value) (x : e.T), ds.length = e.w ∧ (∀ j (hj : j < ds.length), cellOf w.heap ((a.add (i * e.w)).add j) = some ds[j]) ∧ Rd e w.heap ds x := by
        intro i hil
        have h1 := hi i hil
        have hie : i < elems.length := by omega
        rw [List.getElem?_eq_getElem hie] at h1
        rw [Option.bind_eq_some_iff] at h1
        obtain ⟨ds, hds, h1⟩ := h1
        rw [hc] at hds
        obtain ⟨hl, hj⟩ := cells_spot hds
        obtain ⟨x, hx⟩ := ih.1 e' n ds _ ok h1 (hw _ (List.mem_map.2 ⟨_, List.getElem_mem hie, rfl⟩))
        exact ⟨ds, x, hl, hj, hx⟩
      let f (i : Nat) : Option e.T := if hil : i < len then some (each i hil).choose_spec.choose else none
      have hf : ∀ i, i < len → ∃ y, f i = some y := fun i hil => ⟨_, dif_pos hil⟩
      obtain ⟨l, hl⟩ : ∃ l, (List.range len).mapM f = some l := by
        have : ∀ (r : List Nat), (∀ i ∈ r, i < len) → ∃ l, r.mapM f = some l := by
          intro r
          induction r with
          | nil => exact fun _ => ⟨[], rfl⟩
          | cons i r ihr =>
            intro hr
            obtain ⟨y, hy⟩ := hf i (hr i (List.mem_cons_self ..))
            obtain ⟨l, hl⟩ := ihr fun k hk => hr k (List.mem_cons_of_mem _ hk)
            exact ⟨y :: l, by simp [List.mapM_cons, hy, hl]⟩
        exact this _ fun i hi => List.mem_range.1 hi
      have hll : l.length = len := by simpa using mapM_some_length hl
      refine ⟨l, some a, cap, by rw [hll], by rw [hll]; exact hlc, hcm, hw0, ?_⟩
      by_cases hlen : List.length l = 0
      · exact .inl hlen
      · have hs : e.w = 0 ∨ a = ⟨a.block, a.off, none⟩ := by
          by_cases h0 : e.w = 0
          · exact .inl h0
          · refine .inr ?_
            obtain ⟨ds, x, hl0, hj, _⟩ := each 0 (by omega)
            have hj := hj 0 (by omega)
            obtain ⟨b, o, sp⟩ := a
            cases sp with
            | none => rfl
            | some s => simp [cellOf, Addr.add] at hj; split at hj <;> simp at hj
        refine .inr ⟨a.block, a.off, hs.imp (fun h => h) (congrArg some), fun i hil => ?_⟩
        · have hil' : i < len := by rw [← hll]; exact hil
          obtain ⟨h1, h2, h3⟩ := (each i hil').choose_spec.choose_spec
          have hx : l.get ⟨i, hil⟩ = (each i hil').choose_spec.choose := by
            have := mapM_some_get hl i i (by simp [hil'])
            rw [show f i = some (each i hil').choose_spec.choose from dif_pos hil', List.getElem?_eq_getElem hil] at this
            exact (Option.some.inj this).symm
          refine ⟨(each i hil').choose, h1, fun j hj => ?_, ?_⟩
          · have h2 := h2 j hj
            rcases hs with h0 | ha
            · omega
            · have ha2 : (a.add (i * e.w)).add j = ⟨a.block, a.off + i * e.w + j, none⟩ := by rw [ha, add_none, add_none]
              exact ha2 ▸ h2
          · rw [show List.get (α := e.T) l ⟨i, hil⟩ = _ from hx]
            exact h3
  | st b ih =>
    refine ⟨fun id fuel cs x ok h hw => ?_, fun _ _ _ _ _ ok => by simp [TS.okF] at ok⟩
    rw [TS.okB] at ok
    split at ok <;> simp at ok
    rename_i fs hk
    obtain ⟨hc, ok⟩ := ok
    cases fuel with
    | zero => simp [DataW.trod] at h
    | succ n =>
      unfold DataW.trod at h
      rw [hk] at h
      simp only at h
      split at h
      · rename_i hcl
        rw [Option.map_eq_some_iff] at h
        obtain ⟨xs, hxs, rfl⟩ := h
        rw [DataW.weights, hk] at hw
        obtain ⟨d, hd⟩ := ih.2 fs.toList 0 n cs xs ok (by rw [hcl, hc]; omega) hxs hw
        exact ⟨d, by simpa [Rd] using hd⟩
      · simp at h
  | unit =>
    refine ⟨fun id fuel cs x ok h hw => by simp [TS.okB] at ok, fun fs off fuel cs xs ok hl h hw => ⟨(), ?_⟩⟩
    simp only [Rd]
    simp [TS.w] at hl
    exact List.drop_eq_nil_of_le (by omega)
  | pair a b iha ihb =>
    refine ⟨fun id fuel cs x ok h hw => by simp [TS.okB] at ok, fun fs off fuel cs xs ok hl h hw => ?_⟩
    cases fs with
    | nil => simp [TS.okF] at ok
    | cons f fs =>
      simp [TS.okF] at ok
      obtain ⟨⟨⟨ho, hc⟩, oka⟩, okb⟩ := ok
      rw [List.mapM_cons] at h
      simp only [Option.bind_eq_bind, Option.bind_eq_some_iff, Option.pure_def, Option.some.injEq] at h
      obtain ⟨x, hx, ys, hys, rfl⟩ := h
      simp only [List.map_cons, DataW.weightsEach] at hw
      obtain ⟨hwa, hwb⟩ := light_app hw
      obtain ⟨d1, h1⟩ := iha.1 f.type fuel _ x oka hx hwa
      obtain ⟨d2, h2⟩ := ihb.2 fs (off + a.w) fuel cs ys okb (by simp [TS.w] at hl; omega) hys hwb
      refine ⟨(d1, d2), (cs.drop off).take a.w, cs.drop (off + a.w), ?_, ?_, h2⟩
      · rw [← List.drop_drop]; exact (List.take_append_drop ..).symm
      · rw [← hc, ← ho]; exact h1

/-- A value of this shape. -/
def RdV : (t : TS) → Heap → Value → t.T → Prop
  | .st b, h, v, x => ∃ cs : Array Value, v = .agg cs ∧ Rd b h cs.toList x
  | .int k, h, v, x => Rd (.int k) h [v] x
  | .bool, h, v, x => Rd .bool h [v] x
  | .str, h, v, x => Rd .str h [v] x
  | .sl e z, h, v, x => Rd (.sl e z) h [v] x
  | _, _, _, _ => False

def ArgsRd : List TS → Heap → List Value → Prop
  | [], _, vs => vs = []
  | t :: ts, h, vs => ∃ v r, vs = v :: r ∧ (∃ x : t.T, RdV t h v x) ∧ ArgsRd ts h r

def okAll (P : Program) : List TS → List TypeId → Bool
  | [], ids => match ids with | [] => true | _ => false
  | t :: ts, ids => match ids with | [] => false | id :: ids => t.okB P id && okAll P ts ids

theorem rdV_of {H : Type} {enc : TypeId × Value → H} {P : Program} {w : World} {held : Bool} {r : Reach} {base : Nat} {t : TS} {id : TypeId} {v : Value} {d : DataW H} {ps : List MemPlace}
    (ok : t.okB P id = true) (hval : Value.okWide P w r base id v) (h : DataW.Trod enc P w 0 (fun _ => true) held id v d ps) (hw : light (d.weights P id)) : ∃ x : t.T, RdV t w.heap v x := by
  obtain ⟨fuel, hf⟩ := h
  obtain ⟨x, hx⟩ := (rd_both t).1 id fuel _ _ ok hf hw
  cases t with
  | int k =>
    rw [TS.okB] at ok
    split at ok <;> simp at ok
    rename_i hk
    obtain ⟨n, rfl⟩ := okWide_int hk hval
    exact ⟨x, hx⟩
  | bool =>
    rw [TS.okB] at ok
    split at ok <;> simp at ok
    rename_i hk
    obtain ⟨n, rfl⟩ := okWide_bool hk hval
    exact ⟨x, hx⟩
  | str =>
    rw [TS.okB] at ok
    split at ok <;> simp at ok
    rename_i hk
    obtain ⟨n, rfl⟩ := okWide_string hk hval
    exact ⟨x, hx⟩
  | sl e z =>
    rw [TS.okB] at ok
    split at ok <;> simp at ok
    rename_i hk
    obtain ⟨a, l, c, rfl⟩ := okWide_slice hk hval
    exact ⟨x, hx⟩
  | st b =>
    rw [TS.okB] at ok
    split at ok <;> simp at ok
    rename_i hk
    obtain ⟨cs, rfl, _⟩ := okWide_struct hk hval
    exact ⟨x, cs, rfl, hx⟩
  | unit => simp [TS.okB] at ok
  | pair a b => simp [TS.okB] at ok

theorem args_rd {H : Type} {enc : TypeId × Value → H} {P : Program} {w : World} {held : Bool} {r : Reach} {base : Nat} : ∀ {ts : List TS} {ids : List TypeId} {vs : List Value} {ds : List (DataW H)} {ps : List MemPlace},
    okAll P ts ids = true → (∀ (j : Nat) t v, ids[j]? = some t → vs[j]? = some v → Value.okWide P w r base t v) → DataW.TrodAll enc P w 0 (fun _ => true) held ids vs ds ps →
    light (DataW.weightsEach P ids ds) → ArgsRd ts w.heap vs
  | [], ids, vs, ds, ps, ok, _, h, _ => by
    cases ids with
    | nil => exact (trodAll_nil h).1
    | cons => simp [okAll] at ok
  | t :: ts, ids, vs, ds, ps, ok, hval, h, hw => by
    cases ids with
    | nil => simp [okAll] at ok
    | cons id ids =>
      simp [okAll] at ok
      obtain ⟨v, vs', d, ds', p, q, rfl, rfl, rfl, h1, h2⟩ := trodAll_cons h
      rw [DataW.weightsEach] at hw
      obtain ⟨hw1, hw2⟩ := light_app hw
      exact ⟨v, vs', rfl, rdV_of ok.1 (hval 0 id v rfl rfl) h1 hw1, args_rd ok.2 (fun j t v ht hv => hval (j + 1) t v ht hv) h2 hw2⟩

theorem carry_all {H : Type} {enc : TypeId × Value → H} {P : Program} {W W' : World} (hl : laidOutB P = true) (hb : Below W.heap.size W W') : ∀ {ids : List TypeId} {vs : List Value} {ds : List (DataW H)} {ps : List MemPlace},
    ids.all (fun t => P.readableRec t && decide (t < P.types.size)) = true → DataW.TrodAll enc P W 0 (fun _ => true) true ids vs ds ps → DataW.TrodAll enc P W' 0 (fun b => decide (b < W.heap.size)) true ids vs ds ps
  | [], vs, ds, ps, _, h => by obtain ⟨rfl, rfl, rfl⟩ := trodAll_nil h; exact trodAll_mk0
  | t :: ids, vs, ds, ps, hr, h => by
    simp only [List.all_cons, Bool.and_eq_true, decide_eq_true_eq] at hr
    obtain ⟨v, vs', d, ds', p, q, rfl, rfl, rfl, h1, h2⟩ := trodAll_cons h
    refine trodAll_cons_mk (Below.trod hl hr.1.1 hr.1.2 h1 hb ?_) (carry_all hl hb hr.2 h2)
    obtain ⟨m, hm⟩ := h1
    exact DataW.trod_lt m _ _ _ hm

/-- A function that answers true and leaves the old blocks alone, does what the row says. -/
theorem row_true {H : Type} {enc : TypeId × Value → H} {C : Checked} {os : Os} {f : FuncId} {fn : Func} {s : ChangeSpec} {conds : List PathCond} {rt : TypeId} {ts : List TS}
    (hok : okCallee C.prog f = true) (own : ownKnob C.prog.godebug = none) (started : os.Started) (noInit : C.prog.inits.idxOf? f = none) (hfn : C.prog.funcs[f]? = some fn)
    (laid : laidOutB C.prog = true) (hvars : s.vars = []) (hp : okAll C.prog ts fn.params.toList = true) (hread : fn.params.toList.all (fun t => C.prog.readableRec t && decide (t < C.prog.types.size)) = true)
    (hres : fn.resultTypes = #[rt]) (hrt : C.prog.underlying rt = some .bool)
    (hspec : ∀ ds : List (DataW H), ds.length = ts.length → s.fn H ds = { results := [.lit (.bool true)], args := ds })
    (witness : ∃ (w : World) (tape : Tape) (i : Input), w.os = os ∧ (w.forCall tape i).Shaped C.prog ∧ i.vars = [] ∧ Input.okWide C.prog (w.forCall tape i) .any w.heap.size f i ∧
      s.pre6 enc C.prog fn conds false (w.forCall tape i).memory i.args ∧ Assume.holds {} C.prog (lone (Frame.enter C.prog f i.args .normal) [] (w.forCall tape i)))
    (contract : ∀ (h : Heap) (args : Array Value), ArgsRd ts h args.toList → FCall C.prog f args h fun r h' => r = .bool true ∧ Ext h h') :
    ReturnsInHanded {} C os f .any (s.pre6 enc C.prog fn conds false) (s.post enc C.prog fn false true false false) := by
  refine returnsInHanded_of_change_sized own started noInit hfn witness ?_
  intro W base args ds gs before hval hW _ hsz _
  have hW' := hW
  obtain ⟨p, q, hA, hV, rfl, _, _⟩ := hW
  rw [hvars] at hV
  obtain ⟨rfl, rfl⟩ := trodVars_none hV
  have hvt : s.plain.varTypes C.prog = [] := by simp [DataSpec.varTypes, ChangeSpec.plain, hvars]
  rw [hvt, List.append_nil, List.append_nil] at hsz
  have hw : light (DataW.weightsEach C.prog fn.params.toList ds) := fun n hn => by
    have := List.all_eq_true.1 hsz n hn
    exact of_decide_eq_true this
  have hAR : ArgsRd ts W.heap args.toList := args_rd hp (fun j t v ht hv => hval j t v (by simpa using ht) (by simpa using hv)) hA hw
  have hlen : ds.length = ts.length := by
    have l1 : ∀ {ids : List TypeId} {vs : List Value} {ds : List (DataW H)} {ps : List MemPlace}, DataW.TrodAll enc C.prog W 0 (fun _ => true) true ids vs ds ps → ds.length = ids.length := by
      intro ids
      induction ids with
      | nil => intro vs ds ps h; obtain ⟨rfl, rfl, rfl⟩ := trodAll_nil h; rfl
      | cons t ids ih => intro vs ds ps h; obtain ⟨v, vs', d, ds', p, q, rfl, rfl, rfl, h1, h2⟩ := trodAll_cons h; simp [ih h2]
    have l2 : ∀ (ts : List TS) (ids : List TypeId), okAll C.prog ts ids = true → ids.length = ts.length := by
      intro ts
      induction ts with
      | nil => intro ids h; cases ids <;> simp_all [okAll]
      | cons t ts ih => intro ids h; cases ids <;> simp [okAll] at h; simp [ih _ h.2]
    rw [l1 hA, l2 _ _ hp]
  refine ((contract W.heap args hAR).calls hok W rfl).mono fun e W' ⟨v, he, hs, hv, hx⟩ => ?_
  subst he hv
  have bel : Below W.heap.size W W' := ⟨hs.1, hs.2.1, hs.2.2, hx.1, fun k hk => hx.2 k hk⟩
  refine ⟨_, rfl, ds, [], _, [], p, [], hW', ?_, ?_, ?_, bel.frame _, fun h => by cases h⟩
  · rw [List.append_nil, hspec ds hlen, hres]
    exact trodAll_mk1 (shut_bool hrt _)
  · rw [List.append_nil, hspec ds hlen]
    exact carry_all laid bel hread hA
  · rw [List.append_nil, hspec ds hlen, hvars]
    rfl
end Go.Crisp
