/- The frame of rows that list package variables: what they hold is the contract's premise. Conditions: none. -/
import Derived.Test.YtefdokfnnokagaaGreatDoorRa
import Derived.LaidLaws
import Derived.LaidHandle
import Derived.LaidMore
import Derived.MakeChecks
import Derived.Handed
import Derived.Stop.Joined
set_option linter.unusedVariables false
set_option linter.unusedSimpArgs false
namespace Go.Crisp
open Go Go.ChangeShapes Go.WideShapes Go.ChangeAt Go.RowKit

/-- The listed variables read so in every world of this heap. -/
def Listed (P : Program) (L : List (String × DataW Unit)) (h : Heap) : Prop := ∀ w : World, w.heap = h → laidMetH P L w

theorem row_laid {H : Type} {enc : TypeId × Value → H} {C : Checked} {os : Os} {f : FuncId} {fn : Func} {s : ChangeSpec} {conds : List PathCond} {rt : TypeId} {ts : List TS} {L : List (String × DataW Unit)}
    (hok : okCallee C.prog f = true) (own : ownKnob C.prog.godebug = none) (started : os.Started) (noInit : C.prog.inits.idxOf? f = none) (hfn : C.prog.funcs[f]? = some fn)
    (laid : laidOutB C.prog = true) (hvars : s.vars = []) (hp : okAll C.prog ts fn.params.toList = true) (hread : fn.params.toList.all (fun t => C.prog.readableRec t && decide (t < C.prog.types.size)) = true)
    (hres : fn.resultTypes = #[rt]) (hrt : C.prog.underlying rt = some .bool)
    (hspec : ∀ ds : List (DataW H), ds.length = ts.length → s.fn H ds = { results := [.lit (.bool true)], args := ds })
    (witness : ∃ (w : World) (tape : Tape) (i : Input), w.os = os ∧ (w.forCall tape i).Shaped C.prog ∧ i.vars = [] ∧ Input.okWide C.prog (w.forCall tape i) .any w.heap.size f i ∧
      ((s.pre enc C.prog fn conds false (w.forCall tape i).memory i.args ∧ laidMetH C.prog L (w.forCall tape i).memory) ∧ sizedMet enc C.prog fn (OpenSpec.ofChange s) false (w.forCall tape i).memory i.args) ∧ Assume.holds {} C.prog (lone (Frame.enter C.prog f i.args .normal) [] (w.forCall tape i)))
    (contract : ∀ (h : Heap) (args : Array Value), Listed C.prog L h → ArgsRd ts h args.toList → FCall C.prog f args h fun r h' => r = .bool true ∧ Ext h h') :
    ReturnsInHanded {} C os f .any (fun w args => (s.pre enc C.prog fn conds false w args ∧ laidMetH C.prog L w) ∧ sizedMet enc C.prog fn (OpenSpec.ofChange s) false w args) (s.post enc C.prog fn false true false false) := by
  refine returnsInHanded_of_change_and (X := fun w _ => laidMetH C.prog L w) (fun _ _ _ hh h => h.of_heap hh) own started noInit hfn witness ?_
  intro W base args ds gs before hval hW _ hsz hL _
  have hW' := hW
  obtain ⟨p, q, hA, hV, rfl, _, _⟩ := hW
  rw [hvars] at hV
  obtain ⟨rfl, rfl⟩ := trodVars_none hV
  have hvt : s.plain.varTypes C.prog = [] := by simp [DataSpec.varTypes, ChangeSpec.plain, hvars]
  rw [hvt, List.append_nil, List.append_nil] at hsz
  have hw : light (DataW.weightsEach C.prog fn.params.toList ds) := fun n hn => by
    have := List.all_eq_true.1 hsz n hn
    exact of_decide_eq_true this
  have hAR : ArgsRd ts W.heap args.toList := args_rd hp (fun j t v ht hv => hval j t v (by simpa using ht) (by simpa using hv)) hA hw
  have hlen : ds.length = ts.length := by
    have l1 : ∀ {ids : List TypeId} {vs : List Value} {ds : List (DataW H)} {ps : List MemPlace}, DataW.TrodAll enc C.prog W 0 (fun _ => true) true ids vs ds ps → ds.length = ids.length := by
      intro ids
      induction ids with
      | nil => intro vs ds ps h; obtain ⟨rfl, rfl, rfl⟩ := trodAll_nil h; rfl
      | cons t ids ih => intro vs ds ps h; obtain ⟨v, vs', d, ds', p, q, rfl, rfl, rfl, h1, h2⟩ := trodAll_cons h; simp [ih h2]
    have l2 : ∀ (ts : List TS) (ids : List TypeId), okAll C.prog ts ids = true → ids.length = ts.length := by
      intro ts
      induction ts with
      | nil => intro ids h; cases ids <;> simp_all [okAll]
      | cons t ts ih => intro ids h; cases ids <;> simp [okAll] at h; simp [ih _ h.2]
    rw [l1 hA, l2 _ _ hp]
  refine ((contract W.heap args (fun w hw => hL.of_heap hw.symm) hAR).calls hok W rfl).mono fun e W' ⟨v, he, hs, hv, hx⟩ => ?_
  subst he hv
  have bel : Below W.heap.size W W' := ⟨hs.1, hs.2.1, hs.2.2, hx.1, fun k hk => hx.2 k hk⟩
  refine ⟨_, rfl, ds, [], _, [], p, [], hW', ?_, ?_, ?_, bel.frame _, fun h => by cases h⟩
  · rw [List.append_nil, hspec ds hlen, hres]
    exact trodAll_mk1 (shut_bool hrt _)
  · rw [List.append_nil, hspec ds hlen]
    exact carry_all laid bel hread hA
  · rw [List.append_nil, hspec ds hlen, hvars]
    rfl
/-! ### what a listed variable's cells are -/
theorem laidVars_at {P : Program} {w : World} : ∀ {L : List (String × DataW Unit)} {ps : List MemPlace}, DataW.LaidVars P w L ps → ∀ {n : String} {d : DataW Unit}, (n, d) ∈ L →
    ∃ g t cs fuel p, P.globalNamed n = some g ∧ (P.globals[g]?).map (·.type) = some t ∧ w.var? P n = some cs ∧ DataW.trod (fun _ => ()) P w 0 (fun _ => true) false fuel t cs.toList = some (d, p)
  | [], _, _, n, d, hm => absurd hm (by simp)
  | (n', d') :: r, _, h, n, d, hm => by
    obtain ⟨g, t, cs, fuel, p, q, h1, h2, h3, h4, h5, _⟩ := h
    rcases List.mem_cons.1 hm with e | e
    · cases e; exact ⟨g, t, cs, fuel, p, h1, h2, h3, h4⟩
    · exact laidVars_at h5 e
theorem Listed.at {P : Program} {L : List (String × DataW Unit)} {h : Heap} (H : Listed P L h) (hn : (L.all fun x => x.2.handleName?.isNone) = true) {n : String} {d : DataW Unit} (hm : (n, d) ∈ L) (w : World) (hw : w.heap = h) :
    ∃ g t cs fuel p, P.globalNamed n = some g ∧ (P.globals[g]?).map (·.type) = some t ∧ w.var? P n = some cs ∧ DataW.trod (fun _ => ()) P w 0 (fun _ => true) false fuel t cs.toList = some (d, p) := by
  have := H w hw
  rw [MakeChecks.laidMetH_plain _ _ _ hn] at this
  obtain ⟨ps, hl, _⟩ := this
  exact laidVars_at hl hm
/-- Of the kind of this variable. -/
def varIs (P : Program) (n : String) (g : Nat) (k : Program → TypeId → Bool) : Bool :=
  decide (P.globalNamed n = some g) && (match (P.globals[g]?).map (·.type) with | some t => k P t | none => false)
def isInt (k : IntKind) (P : Program) (t : TypeId) : Bool := match P.underlying t with | some (.int k') => decide (k = k') && P.cellsOf t == 1 | _ => false
def isStr (P : Program) (t : TypeId) : Bool := match P.underlying t with | some .string => P.cellsOf t == 1 | _ => false
def isSlice (e : Program → TypeId → Bool) (P : Program) (t : TypeId) : Bool := match P.underlying t with | some (.slice u) => e P u | _ => false
def isArr (n : Nat) (e : Program → TypeId → Bool) (P : Program) (t : TypeId) : Bool := match P.underlying t with | some (.array n' u) => n == n' && P.cellsOf t == n * P.cellsOf u && e P u | _ => false
def isPair (a b : Program → TypeId → Bool) (P : Program) (t : TypeId) : Bool := match P.underlying t with | some (.struct ⟨[x, y]⟩) => x.offset == 0 && y.offset == 1 && a P x.type && b P y.type && P.cellsOf t == 2 | _ => false
theorem Listed.kind {P : Program} {L : List (String × DataW Unit)} {h : Heap} (H : Listed P L h) (hn : (L.all fun x => x.2.handleName?.isNone) = true) {n : String} {d : DataW Unit} (hm : (n, d) ∈ L) (w : World) (hw : w.heap = h)
    {g : Nat} {k : Program → TypeId → Bool} (hk : varIs P n g k = true) :
    ∃ t cs fuel p, P.globalNamed n = some g ∧ k P t = true ∧ w.var? P n = some cs ∧ (∀ i, cellOf h ⟨g, i, none⟩ = cs[i]?) ∧ DataW.trod (fun _ => ()) P w 0 (fun _ => true) false fuel t cs.toList = some (d, p) := by
  obtain ⟨g', t, cs, fuel, p, h1, h2, h3, h4⟩ := H.at hn hm w hw
  unfold varIs at hk
  rw [Bool.and_eq_true, decide_eq_true_eq] at hk
  obtain ⟨k1, k2⟩ := hk
  obtain rfl : g' = g := Option.some.inj (h1.symm.trans k1)
  rw [h2] at k2
  refine ⟨t, cs, fuel, p, h1, k2, h3, fun i => ?_, h4⟩
  subst hw
  exact World.var?_cell h1 h3 i
theorem trod_int' {k : IntKind} {P : Program} {w : World} {fuel : Nat} {t : TypeId} {cs : List Value} {z : Int} {p : List MemPlace} (ht : isInt k P t = true) (h : DataW.trod (fun _ => ()) P w 0 (fun _ => true) false fuel t cs = some (.lit (.int k z), p)) : cs = [.int k z] ∧ P.cellsOf t = 1 := by
  unfold isInt at ht
  split at ht
  · rename_i k' hu
    rw [Bool.and_eq_true, decide_eq_true_eq] at ht
    obtain ⟨rfl, hc⟩ := ht
    obtain ⟨n, rfl, he, _⟩ := DataW.trod_int hu h
    cases he
    exact ⟨rfl, by simpa using hc⟩
  · cases ht
theorem trod_str' {P : Program} {w : World} {fuel : Nat} {t : TypeId} {cs : List Value} {z : List UInt8} {p : List MemPlace} (ht : isStr P t = true) (h : DataW.trod (fun _ => ()) P w 0 (fun _ => true) false fuel t cs = some (.lit (.string z), p)) : cs = [.string ⟨⟨z⟩⟩] ∧ P.cellsOf t = 1 := by
  unfold isStr at ht
  split at ht
  · rename_i hu
    obtain ⟨s, rfl, he, _⟩ := DataW.trod_string hu h
    cases he
    exact ⟨rfl, by simpa using ht⟩
  · cases ht
theorem drop_take_one {cs : List Value} {i : Nat} {v : Value} (h : (cs.drop i).take 1 = [v]) : cs[i]? = some v := by
  have := congrArg (fun l => l[0]?) h
  simpa using this
/-- A table of numbers. -/
theorem trod_ints {k : IntKind} {P : Program} {w : World} {fuel : Nat} {t : TypeId} {cs : List Value} {zs : List Int} {p : List MemPlace} (ht : isArr zs.length (isInt k) P t = true)
    (h : DataW.trod (fun _ => ()) P w 0 (fun _ => true) false fuel t cs = some (.agg (zs.map fun z => .lit (.int k z)), p)) : cs = zs.map fun z => .int k z := by
  unfold isArr at ht
  split at ht
  · rename_i n u hu
    rw [Bool.and_eq_true, Bool.and_eq_true] at ht
    obtain ⟨⟨hn, hc⟩, hi⟩ := ht
    obtain ⟨xs, m, rfl, he, hl, hx, hat⟩ := DataW.trod_array hu h
    have hn : zs.length = n := by simpa using hn
    subst hn
    have c1 : P.cellsOf u = 1 := by
      unfold isInt at hi
      split at hi
      · rw [Bool.and_eq_true] at hi; simpa using hi.2
      · cases hi
    have hc : P.cellsOf t = zs.length := by simpa [c1] using hc
    rw [hc] at hl
    have hxe : xs.map (·.1) = zs.map fun z => DataW.lit (.int k z) := by
      have := congrArg (fun x => x.1) he
      simpa using this.symm
    apply List.ext_getElem?
    intro i
    by_cases hi' : i < zs.length
    · have h1 := hat i hi'
      have hxi : xs[i]? = some (xs[i]'(by omega)) := List.getElem?_eq_getElem (by omega)
      rw [hxi, c1, Nat.mul_one] at h1
      have h2 : (xs[i]'(by omega)).1 = .lit (.int k zs[i]) := by
        have := congrArg (fun l => l[i]?) hxe
        simpa [hi', hx] using this
      obtain ⟨a, b, hab⟩ : ∃ a b, xs[i]'(by omega) = (a, b) := ⟨_, _, rfl⟩
      rw [hab] at h1 h2
      simp only at h2
      rw [h2] at h1
      have h3 := (trod_int' hi h1).1
      rw [drop_take_one h3]
      simp [hi']
    · rw [List.getElem?_eq_none (by omega), List.getElem?_eq_none (by simpa using hi')]
  · cases ht
/-- A row of strings. -/
theorem trod_strs {P : Program} {w : World} {h : Heap} (hw : w.heap = h) {fuel : Nat} {t : TypeId} {cs : List Value} {zs : List (List UInt8)} {p : List MemPlace} (hz : zs ≠ []) (ht : isSlice isStr P t = true)
    (H : DataW.trod (fun _ => ()) P w 0 (fun _ => true) false fuel t cs = some (.slice (zs.map fun z => .lit (.string z)) [], p)) :
    ∃ b o cap, cs = [.slice (some ⟨b, o, none⟩) zs.length cap] ∧ ∀ i (hi : i < zs.length), cellOf h ⟨b, o + i, none⟩ = some (.string ⟨⟨zs[i]⟩⟩) := by
  unfold isSlice at ht
  split at ht
  · rename_i u hu
    have c1 : P.cellsOf u = 1 := by
      unfold isStr at ht
      split at ht
      · simpa using ht
      · cases ht
    rcases DataW.trod_slice hu H with ⟨_, he⟩ | ⟨a, len, cap, elems, rest, m, rfl, rfl, he, _, _, _, hlen, hat, _⟩
    · cases he
    · have hxe : elems.map (·.1) = zs.map fun z => DataW.lit (.string z) := by
        have := congrArg (fun x => x.1) he
        simp only [DataW.slice.injEq] at this
        exact this.1.symm
      have hl : elems.length = zs.length := by simpa using congrArg List.length hxe
      have hlz : len = zs.length := by omega
      subst hlz
      have ha : ∃ b o, a = ⟨b, o, none⟩ := by
        have h0 : 0 < zs.length := List.length_pos_iff.2 hz
        have := hat 0 h0
        rw [List.getElem?_eq_getElem (by omega)] at this
        cases hc : w.cells? 0 (a.add (0 * P.cellsOf u)) (P.cellsOf u) with
        | none => rw [hc] at this; cases this
        | some l =>
          obtain ⟨b, o, s⟩ := a
          cases s with
          | none => exact ⟨b, o, rfl⟩
          | some x =>
            exfalso
            obtain ⟨h3, h2⟩ := cells_spot hc
            rw [c1] at h3
            have h2 := h2 0 (by omega)
            unfold cellOf at h2
            split at h2
            · rw [if_pos (by unfold Addr.add; split <;> simp_all)] at h2; cases h2
            · cases h2
      obtain ⟨b, o, rfl⟩ := ha
      refine ⟨b, o, cap, rfl, fun i hi => ?_⟩
      have h1 := hat i hi
      have hxi : elems[i]? = some (elems[i]'(by omega)) := List.getElem?_eq_getElem (by omega)
      rw [hxi, c1, Nat.mul_one] at h1
      have h2 : (elems[i]'(by omega)).1 = .lit (.string zs[i]) := by
        have := congrArg (fun l => l[i]?) hxe
        simpa [hi, hl] using this
      obtain ⟨x, y, hxy⟩ : ∃ x y, elems[i]'(by omega) = (x, y) := ⟨_, _, rfl⟩
      rw [hxy] at h1 h2
      simp only at h2
      rw [h2, Option.bind_eq_some_iff] at h1
      obtain ⟨l, hl1, hl2⟩ := h1
      have h3 := (trod_str' ht hl2).1
      subst h3
      have h4 := (cells_spot hl1).2 0 (by simp)
      rw [add_none, add_none, hw] at h4
      simpa using h4
  · cases ht
/-- A table of pairs: a string and a number. -/
theorem trod_pairs {k : IntKind} {P : Program} {w : World} {fuel : Nat} {t : TypeId} {cs : List Value} {zs : List (List UInt8 × Int)} {p : List MemPlace} (ht : isArr zs.length (isPair isStr (isInt k)) P t = true)
    (h : DataW.trod (fun _ => ()) P w 0 (fun _ => true) false fuel t cs = some (.agg (zs.map fun z => .agg [.lit (.string z.1), .lit (.int k z.2)]), p)) :
    ∀ i (hi : i < zs.length), cs[2 * i]? = some (.string ⟨⟨zs[i].1⟩⟩) ∧ cs[2 * i + 1]? = some (.int k zs[i].2) := by
  unfold isArr at ht
  split at ht
  · rename_i n u hu
    rw [Bool.and_eq_true, Bool.and_eq_true] at ht
    obtain ⟨⟨hn, hc⟩, hi⟩ := ht
    obtain ⟨xs, m, rfl, he, hl, hx, hat⟩ := DataW.trod_array hu h
    have hn : zs.length = n := by simpa using hn
    subst hn
    unfold isPair at hi
    split at hi
    · rename_i f1 f2 hs
      simp only [Bool.and_eq_true, beq_iff_eq] at hi
      obtain ⟨⟨⟨⟨o1, o2⟩, t1⟩, t2⟩, c2⟩ := hi
      have hxe : xs.map (·.1) = zs.map fun z => DataW.agg [.lit (.string z.1), .lit (.int k z.2)] := by
        have := congrArg (fun x => x.1) he
        simpa using this.symm
      intro i hi'
      have h1 := hat i hi'
      have hxi : xs[i]? = some (xs[i]'(by omega)) := List.getElem?_eq_getElem (by omega)
      rw [hxi, c2] at h1
      have h2 : (xs[i]'(by omega)).1 = .agg [.lit (.string zs[i].1), .lit (.int k zs[i].2)] := by
        have := congrArg (fun l => l[i]?) hxe
        simpa [hi', hx] using this
      obtain ⟨a, b, hab⟩ : ∃ a b, xs[i]'(by omega) = (a, b) := ⟨_, _, rfl⟩
      rw [hab] at h1 h2
      simp only at h2
      rw [h2] at h1
      obtain ⟨ys, m', rfl, he', hl', hy, hat'⟩ := DataW.trod_struct hs h1
      have hy2 : ys.length = 2 := hy
      match ys, hy2, he', hat' with
      | [y1, y2], _, he', hat' =>
        have he' := congrArg (fun x => x.1) he'
        simp only [List.map_cons, List.map_nil, DataW.agg.injEq, List.cons.injEq, and_true] at he'
        have a1 := hat' 0 f1 rfl
        have a2 := hat' 1 f2 rfl
        rw [o1] at a1
        rw [o2] at a2
        obtain ⟨a, b⟩ := y1
        obtain ⟨a', b'⟩ := y2
        simp only at he'
        obtain ⟨rfl, rfl⟩ := he'
        have b1 := trod_str' t1 a1
        have b2 := trod_int' t2 a2
        rw [b1.2] at b1
        rw [b2.2] at b2
        have b1 := drop_take_one b1.1
        have b2 := drop_take_one b2.1
        rw [List.getElem?_take_of_lt (by omega), List.getElem?_drop] at b1 b2
        refine ⟨?_, ?_⟩
        · rw [Nat.mul_comm]; simpa using b1
        · rw [Nat.mul_comm]; simpa using b2
    · cases hi
  · cases ht
end Go.Crisp
