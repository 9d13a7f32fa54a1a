/- Several texts of this session, one behind the other, without what this claim does not need (put together by its program pack.py). Conditions: none. -/
import Derived.Test.YtolcfipmjhjeaaaDoorMr1
import Derived.HandedShaped
import Derived.Shelf.Vars
set_option linter.unusedVariables false
set_option linter.unusedSimpArgs false
set_option maxRecDepth 100000
namespace Go.Crisp
open Go Go.ChangeShapes Go.WideShapes Go.ChangeAt Go.RowKit
theorem handed_and_shaped {H : Type} {enc : TypeId × Value → H} {a : Assume} {C : Checked} {os : Os} {f : FuncId} {fn : Func} {s : ChangeSpec} {conds : List PathCond} {apart fresh handsOn again : Bool} {X : World → Array Value → Prop}
  (hX : ∀ (w w' : World) (args : Array Value), w.heap = w'.heap → X w args → X w' args)
  (own : ownKnob C.prog.godebug = none) (started : os.Started) (noInit : C.prog.inits.idxOf? f = none) (hfn : C.prog.funcs[f]? = some fn)
  (witness : ∃ (w : World) (tape : Tape) (i : Input), w.os = os ∧ (w.forCall tape i).Shaped C.prog ∧ i.vars = [] ∧ Input.okWide C.prog (w.forCall tape i) .any w.heap.size f i ∧
   ((s.pre enc C.prog fn conds apart (w.forCall tape i).memory i.args ∧ X (w.forCall tape i).memory i.args) ∧ sizedMet enc C.prog fn (OpenSpec.ofChange s) apart (w.forCall tape i).memory i.args) ∧ a.holds C.prog (lone (Frame.enter C.prog f i.args .normal) [] (w.forCall tape i)))
  (contract : ∀ (W : World) (base : Nat) (args : Array Value) (ds gs : List (DataW H)) (before : List MemPlace),
   (∀ (j : Nat) t v, fn.params[j]? = some t → args[j]? = some v → Value.okWide C.prog W .any base t v) →
   DataW.Whole enc C.prog fn.params.toList s.vars apart W args.toList ds gs before →
   conds.all (PathCond.test C.prog ⟨fn.params.toList, ds, s.plain.varTypes C.prog, gs⟩) = true →
   (DataW.weightsEach C.prog (fn.params.toList ++ s.plain.varTypes C.prog) (ds ++ gs)).all (· ≤ reachBytes) = true → X W args → W.ShapedOpen C.prog →
   a.holds C.prog (lone (Frame.enter C.prog f args .normal) [] W) →
   Calls C.prog f args W fun e W' => ∃ v, e = .returned v ∧ s.post enc C.prog fn apart fresh handsOn again W args v W') :
  ReturnsInHanded a C os f .any (fun w args => (s.pre enc C.prog fn conds apart w args ∧ X w args) ∧ sizedMet enc C.prog fn (OpenSpec.ofChange s) apart w args) (s.post enc C.prog fn apart fresh handsOn again) := by
 refine returnsInHanded_of_calls own started noInit witness ?_
 intro w tape i _ hsh _ hok hpre hholds
 obtain ⟨_, _, _, fn', hfn', _, _, _, _, hval⟩ := hok
 have e : fn' = fn := Option.some.inj (hfn'.symm.trans hfn)
 subst e
 obtain ⟨⟨⟨ds, gs, before, hw, hc⟩, hx⟩, hz⟩ := hpre
 have hw' := DataW.Whole.of_heap (w' := w.forCall tape i) (by rfl) hw
 refine (contract (w.forCall tape i) w.heap.size i.args ds gs before hval hw' hc (hz.weights hw) (hX _ _ _ (by rfl) hx) hsh hholds).mono fun e W' ⟨v, he, hp⟩ => ?_
 subst he
 exact ChangeSpec.post_blind hp
theorem row_shaped {H : Type} {enc : TypeId × Value → H} {C : Checked} {os : Os} {f : FuncId} {fn : Func} {s : ChangeSpec} {conds : List PathCond} {rt : TypeId} {ts : List TS} {L : List (String × DataW Unit)} {Y : Heap → Prop}
  (hok : okCallee C.prog f = true) (own : ownKnob C.prog.godebug = none) (started : os.Started) (noInit : C.prog.inits.idxOf? f = none) (hfn : C.prog.funcs[f]? = some fn)
  (laid : laidOutB C.prog = true) (hvars : s.vars = []) (hp : okAll C.prog ts fn.params.toList = true) (hread : fn.params.toList.all (fun t => C.prog.readableRec t && decide (t < C.prog.types.size)) = true)
  (hres : fn.resultTypes = #[rt]) (hrt : C.prog.underlying rt = some .bool)
  (hspec : ∀ ds : List (DataW H), ds.length = ts.length → s.fn H ds = { results := [.lit (.bool true)], args := ds })
  (witness : ∃ (w : World) (tape : Tape) (i : Input), w.os = os ∧ (w.forCall tape i).Shaped C.prog ∧ i.vars = [] ∧ Input.okWide C.prog (w.forCall tape i) .any w.heap.size f i ∧
   ((s.pre enc C.prog fn conds false (w.forCall tape i).memory i.args ∧ laidMetH C.prog L (w.forCall tape i).memory) ∧ sizedMet enc C.prog fn (OpenSpec.ofChange s) false (w.forCall tape i).memory i.args) ∧ Assume.holds {} C.prog (lone (Frame.enter C.prog f i.args .normal) [] (w.forCall tape i)))
  (contract : (∀ W : World, W.ShapedOpen C.prog → Y W.heap) ∧ ∀ (h : Heap) (args : Array Value), Listed C.prog L h → Y h → ArgsRd ts h args.toList → FCall C.prog f args h fun r h' => r = .bool true ∧ Ext h h') :
  ReturnsInHanded {} C os f .any (fun w args => (s.pre enc C.prog fn conds false w args ∧ laidMetH C.prog L w) ∧ sizedMet enc C.prog fn (OpenSpec.ofChange s) false w args) (s.post enc C.prog fn false true false false) := by
 refine handed_and_shaped (X := fun w _ => laidMetH C.prog L w) (fun _ _ _ hh h => h.of_heap hh) own started noInit hfn witness ?_
 intro W base args ds gs before hval hW _ hsz hL hsh _
 have hW' := hW
 obtain ⟨p, q, hA, hV, rfl, _, _⟩ := hW
 rw [hvars] at hV
 obtain ⟨rfl, rfl⟩ := trodVars_none hV
 have hvt : s.plain.varTypes C.prog = [] := by simp [DataSpec.varTypes, ChangeSpec.plain, hvars]
 rw [hvt, List.append_nil, List.append_nil] at hsz
 have hw : light (DataW.weightsEach C.prog fn.params.toList ds) := fun n hn => by
  have := List.all_eq_true.1 hsz n hn
  exact of_decide_eq_true this
 have hAR : ArgsRd ts W.heap args.toList := args_rd hp (fun j t v ht hv => hval j t v (by simpa using ht) (by simpa using hv)) hA hw
 have hlen : ds.length = ts.length := by
  have l1 : ∀ {ids : List TypeId} {vs : List Value} {ds : List (DataW H)} {ps : List MemPlace}, DataW.TrodAll enc C.prog W 0 (fun _ => true) true ids vs ds ps → ds.length = ids.length := by
   intro ids
   induction ids with
   | nil => intro vs ds ps h; obtain ⟨rfl, rfl, rfl⟩ := trodAll_nil h; rfl
   | cons t ids ih => intro vs ds ps h; obtain ⟨v, vs', d, ds', p, q, rfl, rfl, rfl, h1, h2⟩ := trodAll_cons h; simp [ih h2]
  have l2 : ∀ (ts : List TS) (ids : List TypeId), okAll C.prog ts ids = true → ids.length = ts.length := by
   intro ts
   induction ts with
   | nil => intro ids h; cases ids <;> simp_all [okAll]
   | cons t ts ih => intro ids h; cases ids <;> simp [okAll] at h; simp [ih _ h.2]
  rw [l1 hA, l2 _ _ hp]
 refine ((contract.2 W.heap args (fun w hw => hL.of_heap hw.symm) (contract.1 W hsh) hAR).calls hok W rfl).mono fun e W' ⟨v, he, hs, hv, hx⟩ => ?_
 subst he hv
 have bel : Below W.heap.size W W' := ⟨hs.1, hs.2.1, hs.2.2, hx.1, fun k hk => hx.2 k hk⟩
 refine ⟨_, rfl, ds, [], _, [], p, [], hW', ?_, ?_, ?_, bel.frame _, fun h => by cases h⟩
 ·rw [List.append_nil, hspec ds hlen, hres]
  exact trodAll_mk1 (shut_bool hrt _)
 ·rw [List.append_nil, hspec ds hlen]
  exact carry_all laid bel hread hA
 ·rw [List.append_nil, hspec ds hlen, hvars]
  rfl
def isIface (P : Program) (t : TypeId) : Bool := match P.underlying t with | some (.interface _) => P.cellsOf t == 1 | _ => false
theorem trod_pairs_ii {k k' : IntKind} {P : Program} {w : World} {fuel : Nat} {t : TypeId} {cs : List Value} {zs : List (Int × Int)} {p : List MemPlace} (ht : isArr zs.length (isPair (isInt k) (isInt k')) P t = true)
  (h : DataW.trod (fun _ => ()) P w 0 (fun _ => true) false fuel t cs = some (.agg (zs.map fun z => .agg [.lit (.int k z.1), .lit (.int k' z.2)]), p)) :
  ∀ i (hi : i < zs.length), cs[2 * i]? = some (.int k zs[i].1) ∧ cs[2 * i + 1]? = some (.int k' zs[i].2) := by
 unfold isArr at ht
 split at ht
 ·rename_i n u hu
  rw [Bool.and_eq_true, Bool.and_eq_true] at ht
  obtain ⟨⟨hn, hc⟩, hi⟩ := ht
  obtain ⟨xs, m, rfl, he, hl, hx, hat⟩ := DataW.trod_array hu h
  have hn : zs.length = n := by simpa using hn
  subst hn
  unfold isPair at hi
  split at hi
  ·rename_i f1 f2 hs
   simp only [Bool.and_eq_true, beq_iff_eq] at hi
   obtain ⟨⟨⟨⟨o1, o2⟩, t1⟩, t2⟩, c2⟩ := hi
   have hxe : xs.map (·.1) = zs.map fun z => DataW.agg [.lit (.int k z.1), .lit (.int k' z.2)] := by
    have := congrArg (fun x => x.1) he
    simpa using this.symm
   intro i hi'
   have h1 := hat i hi'
   have hxi : xs[i]? = some (xs[i]'(by omega)) := List.getElem?_eq_getElem (by omega)
   rw [hxi, c2] at h1
   have h2 : (xs[i]'(by omega)).1 = .agg [.lit (.int k zs[i].1), .lit (.int k' zs[i].2)] := by
    have := congrArg (fun l => l[i]?) hxe
    simpa [hi', hx] using this
   obtain ⟨a, b, hab⟩ : ∃ a b, xs[i]'(by omega) = (a, b) := ⟨_, _, rfl⟩
   rw [hab] at h1 h2
   simp only at h2
   rw [h2] at h1
   obtain ⟨ys, m', rfl, he', hl', hy, hat'⟩ := DataW.trod_struct hs h1
   have hy2 : ys.length = 2 := hy
   match ys, hy2, he', hat' with
   | [y1, y2], _, he', hat' =>
    have he' := congrArg (fun x => x.1) he'
    simp only [List.map_cons, List.map_nil, DataW.agg.injEq, List.cons.injEq, and_true] at he'
    have a1 := hat' 0 f1 rfl
    have a2 := hat' 1 f2 rfl
    rw [o1] at a1
    rw [o2] at a2
    obtain ⟨a, b⟩ := y1
    obtain ⟨a', b'⟩ := y2
    simp only at he'
    obtain ⟨rfl, rfl⟩ := he'
    have b1 := trod_int' t1 a1
    have b2 := trod_int' t2 a2
    rw [b1.2] at b1
    rw [b2.2] at b2
    have b1 := drop_take_one b1.1
    have b2 := drop_take_one b2.1
    rw [List.getElem?_take_of_lt (by omega), List.getElem?_drop] at b1 b2
    refine ⟨?_, ?_⟩
    ·rw [Nat.mul_comm]; simpa using b1
    ·rw [Nat.mul_comm]; simpa using b2
  ·cases hi
 ·cases ht
end Go.Crisp
namespace Go.Proofs.YtolcfipmjhjeaaaDoor
open Go Go.Crisp
structure ListsR (L : List (String × DataW Unit)) : Prop where
 plain : (L.all fun x => x.2.handleName?.isNone) = true
 names : ("smalto/border.names", Rows.laid_smalto_border_names) ∈ L
 kinds : ("smalto/raw.kinds", Rows.laid_smalto_raw_kinds) ∈ L
 tab : ("internal/strconv.uint64pow10", Rows.laid_internal_strconv_uint64pow10) ∈ L
 acc : ("unicode/utf8.acceptRanges", Rows.laid_unicode_utf8_acceptRanges) ∈ L
 rng : ("strconv.ErrRange", Rows.laid_strconv_ErrRange) ∈ L
 syn : ("strconv.ErrSyntax", Rows.laid_strconv_ErrSyntax) ∈ L
 first : ("unicode/utf8.first", Rows.laid_unicode_utf8_first) ∈ L
def MostH (h : Heap) : Prop := ∃ m, cellOf h ⟨ren_lay_Cut.g 1, 0, none⟩ = some (.int .i64 m)
theorem most_of (W : World) (h : W.ShapedOpen Tryd.prog) : MostH W.heap :=
 Go.Proofs.cell_of_shapedOpen_int (P := Tryd.prog) (g := ren_lay_Cut.g 1) (t := 3) (zero := #[.int .i64 0]) h (of_decide_eq_true (by kernel_rfl)) (by kernel_rfl) rfl (by kernel_rfl) (by kernel_rfl) (by kernel_rfl)
theorem iface_cell {L : List (String × DataW Unit)} {h : Heap} (H : Listed Tryd.prog L h) (hn : (L.all fun x => x.2.handleName?.isNone) = true) {n nm : String} {d : DataW Unit} {g : Nat} (hm : (n, .iface nm d) ∈ L) (hg : varIs Tryd.prog n g isIface = true) :
  ∃ ev, cellOf h ⟨g, 0, none⟩ = some ev ∧ (ev = .nilIface ∨ ∃ te pe, ev = .iface te pe) := by
 let w : World := ⟨h, fun _ _ => 0, 0, default, #[]⟩
 obtain ⟨t, cs, fuel, p, _, hk, _, hc, ht⟩ := H.kind hn hm w rfl (g := g) (k := isIface) hg
 unfold isIface at hk
 split at hk
 ·rename_i ms hi
  obtain ⟨_, u, v, he, _⟩ := iface_of_trod hi ht
  have h0 := hc 0
  obtain ⟨l⟩ := cs
  have he : l = [.iface u v] := he
  subst he
  exact ⟨_, h0, .inr ⟨u, v, rfl⟩⟩
 ·cases hk
theorem ListsR.glob {L : List (String × DataW Unit)} (l : ListsR L) {h : Heap} (H : Listed Tryd.prog L h) (m : MostH h) : GlobR h where
 toGlobH := globH_of H l.plain l.names l.kinds l.tab
 syn := iface_cell H l.plain l.syn (by kernel_rfl)
 rng := iface_cell H l.plain l.rng (by kernel_rfl)
 most := m
 utf1 := by
  let w : World := ⟨h, fun _ _ => 0, 0, default, #[]⟩
  obtain ⟨t, cs, fuel, p, _, hk, _, hc, ht⟩ := H.kind l.plain l.first w rfl (g := ren_lay_Decode.g 3) (k := isArr 256 (isInt .u8)) (by kernel_rfl)
  have e1 : (Rows.laid_unicode_utf8_first : DataW Unit) = .agg (((List.range 256).map fun c => (Lib.firstT c : Int)).map fun z => .lit (.int .u8 z)) := by kernel_rfl
  rw [e1] at ht
  have hq := trod_ints (k := .u8) (zs := (List.range 256).map fun c => (Lib.firstT c : Int)) (by rw [List.length_map, List.length_range]; exact hk) ht
  intro c hc'
  rw [hc, ← Array.getElem?_toList, hq]
  simp [hc']
 utf2 := by
  let w : World := ⟨h, fun _ _ => 0, 0, default, #[]⟩
  obtain ⟨t, cs, fuel, p, _, hk, _, hc, ht⟩ := H.kind l.plain l.acc w rfl (g := ren_lay_Decode.g 4) (k := isArr 16 (isPair (isInt .u8) (isInt .u8))) (by kernel_rfl)
  have e1 : (Rows.laid_unicode_utf8_acceptRanges : DataW Unit) = .agg (((List.range 16).map fun i => ((Lib.accLo i : Int), (Lib.accHi i : Int))).map fun z => .agg [.lit (.int .u8 z.1), .lit (.int .u8 z.2)]) := by kernel_rfl
  rw [e1] at ht
  have hq := trod_pairs_ii (k := .u8) (k' := .u8) (zs := (List.range 16).map fun i => ((Lib.accLo i : Int), (Lib.accHi i : Int))) (by rw [List.length_map, List.length_range]; exact hk) ht
  intro i hi
  have h1 := hq i (by simpa using hi)
  rw [hc, hc]
  rw [Array.getElem?_toList, Array.getElem?_toList] at h1
  rw [h1.1, h1.2]
  simp
theorem r_RecipePrints {L : List (String × DataW Unit)} (l : ListsR L) : (∀ W : World, W.ShapedOpen Tryd.prog → MostH W.heap) ∧ ∀ (h : Heap) (args : Array Value), Listed Tryd.prog L h → MostH h → ArgsRd [.sl (.st tOp) 104] h args.toList →
  FCall Tryd.prog F_law13_RecipePrints args h fun r h' => r = .bool true ∧ Ext h h' := by
 refine ⟨most_of, fun h args H m R => ?_⟩
 obtain ⟨v, r, hr, ⟨x, hx⟩, h0⟩ := R
 have h0 : r = [] := h0
 subst h0
 obtain ⟨v', o, e1, k1, w1, l1⟩ := ops_rd hx
 obtain rfl : v = v' := by simpa using e1
 obtain rfl : args = #[v] := by cases args; simp_all
 exact c_RecipePrints (l.glob H m) k1 w1 l1
end Go.Proofs.YtolcfipmjhjeaaaDoor
