/- The engine, second part: the code of a function, read over the heap alone; what it does so it does in the model. Conditions: the program follows mixed orders. -/
import Derived.Test.YtefdokfnnokagaaGreatDoorEa
import Derived.KernelRfl
set_option linter.unusedVariables false
set_option linter.unusedSimpArgs false
namespace Go.Crisp

/-! ### code -/
/-- What a guarded reading yields. -/
def gV (g : Value) (want : Bool) (r : Option Value) : Option Value :=
  match g with
  | .bool b => bif b == want then r else some undef
  | _ => some undef

/-- A guarded deed. -/
def gK (g : Value) (want : Bool) (m : (Value → Heap → Prop) → Prop) (h : Heap) (K : Value → Heap → Prop) : Prop :=
  match g with
  | .bool b => bif b == want then m K else K undef h
  | _ => K undef h

def gOf (all : Array Oper) (ρ : Env) (j : Nat) : Value :=
  match (all[j]?).bind (·.dst) with
  | some t => ρ t
  | none => undef

def roG (P : Program) (all : Array Oper) (ρ : Env) (o : Oper) (h : Heap) : Option (Option Value) :=
  match roV P ρ o.op h with
  | some r => match o.guard with
    | none => some r
    | some (j, want) => some (gV (gOf all ρ j) want r)
  | none => none

def effG (P : Program) (all : Array Oper) (ρ : Env) (o : Oper) (h : Heap) (K : Value → Heap → Prop) : Prop :=
  match o.guard with
  | none => effK P ρ o.op h K
  | some (j, want) => gK (gOf all ρ j) want (fun K => effK P ρ o.op h K) h K

def cOp0 (P : Program) (all : Array Oper) (ρ : Env) (o : Oper) (h : Heap) (K : Value → Heap → Prop) : Prop :=
  match roG P all ρ o h with
  | some r => vK r fun v => K v h
  | none => effG P all ρ o h K

/-- What is there outright. -/
def valG (P : Program) (ρ : Env) (o : Oper) : Option Value :=
  match o.guard with
  | some _ => none
  | none => match o.op with
    | .move x => some (ev ρ x)
    | .assign x => some (ev ρ x)
    | .makeInterface t x => match P.underlying t with
      | some (.interface _) => none
      | some _ => some (.iface t (ev ρ x))
      | none => none
    | .makeFunc fn first captured => some (.func fn (first.map (ev ρ)) (captured.map (ev ρ)))
    | _ => none

theorem valG_ro {P : Program} {all : Array Oper} {ρ : Env} {o : Oper} {v : Value} (h : valG P ρ o = some v) (hp : Heap) : roG P all ρ o hp = some (some v) := by
  unfold valG at h
  split at h
  · cases h
  · rename_i hg
    unfold roG
    split at h
    · rename_i x ho
      simp only [ho, roV, hg, h]
    · rename_i x ho
      simp only [ho, roV, hg, h]
    · rename_i t x ho
      simp only [ho, roV, hg]
      cases hu : P.underlying t with
      | none => simp [hu] at h
      | some d => cases d <;> simp_all
    · rename_i ho
      simp only [ho, roV, hg, h]
    · cases h

def cOp (P : Program) (all : Array Oper) (ρ : Env) (o : Oper) (h : Heap) (K : Value → Heap → Prop) : Prop :=
  match valG P ρ o with
  | some v => K v h
  | none => cOp0 P all ρ o h K

theorem cOp_cOp0 {P : Program} {all : Array Oper} {ρ : Env} {o : Oper} {h : Heap} {K : Value → Heap → Prop} (H : cOp P all ρ o h K) : cOp0 P all ρ o h K := by
  unfold cOp at H
  split at H
  · rename_i v hv
    unfold cOp0
    rw [valG_ro hv h]
    exact H
  · exact H

/-- A reading, in a heap that stays. -/
def roK (P : Program) (all : Array Oper) (ρ : Env) (o : Oper) (h : Heap) (K : Value → Prop) : Prop :=
  match valG P ρ o with
  | some v => K v
  | none => match roG P all ρ o h with
    | some r => vK r K
    | none => False

theorem roK_ro {P : Program} {all : Array Oper} {ρ : Env} {o : Oper} {h : Heap} {K : Value → Prop} (H : roK P all ρ o h K) : match roG P all ρ o h with | some r => vK r K | none => False := by
  unfold roK at H
  split at H
  · rename_i v hv
    rw [valG_ro hv h]
    exact H
  · exact H

/- The readings below are made by the recursors themselves: so the kernel unfolds them step by step. -/
noncomputable def cOps (P : Program) (all : Array Oper) (l : List Oper) : Env → Heap → (Env → Heap → Prop) → Prop :=
  List.rec (motive := fun _ => Env → Heap → (Env → Heap → Prop) → Prop) (fun ρ h Q => Q ρ h)
    (fun o _ ih ρ h Q => cOp P all ρ o h fun v h => ih (up ρ o.dst v) h Q) l
theorem cOps_nil {P : Program} {all : Array Oper} {ρ : Env} {h : Heap} {Q : Env → Heap → Prop} : cOps P all [] ρ h Q = Q ρ h := rfl
theorem cOps_cons {P : Program} {all : Array Oper} {o : Oper} {l : List Oper} {ρ : Env} {h : Heap} {Q : Env → Heap → Prop} : cOps P all (o :: l) ρ h Q = cOp P all ρ o h fun v h => cOps P all l (up ρ o.dst v) h Q := rfl

noncomputable def cOpsR (P : Program) (all : Array Oper) (l : List Oper) : Env → Heap → (Env → Heap → Prop) → Prop :=
  List.rec (motive := fun _ => Env → Heap → (Env → Heap → Prop) → Prop) (fun ρ h Q => Q ρ h)
    (fun o _ ih ρ h Q => roK P all ρ o h fun v => ih (up ρ o.dst v) h Q) l
theorem cOpsR_cons {P : Program} {all : Array Oper} {o : Oper} {l : List Oper} {ρ : Env} {h : Heap} {Q : Env → Heap → Prop} : cOpsR P all (o :: l) ρ h Q = roK P all ρ o h fun v => cOpsR P all l (up ρ o.dst v) h Q := rfl

/-- One value, in every heap of a class. -/
def qK (S : Heap → Prop) (r : Heap → Option Value) (K : Value → Prop) : Prop := ∃ v, (∀ h, S h → r h = some v) ∧ K v

def drawK (h : Heap) (body : (Heap → Prop) → Prop) : Prop := ∃ S : Heap → Prop, S h ∧ body S

/-- Operations that don't look at the heap. -/
def heapless : Op → Bool
  | .load .. | .lookup .. | .call _ => false
  | _ => true

/-- An entry of a plan: an effect that leaves the class of heaps; a reading; an effect behind which all that was to be read has been read, with a new class of heaps; the same, with nothing to be read behind it. -/
inductive PK where
  | e | r | f | n

/-- The order of a region that draws it: a tree, branched where several deeds may come next. -/
inductive PT where
  | nil
  | op (i : Nat) (q : PK) (t : PT)
  | alt (x y : PT)

noncomputable def cDraw (P : Program) (all : Array Oper) (plan : PT) : (Heap → Prop) → Env → Heap → (Env → Heap → Prop) → Prop :=
  PT.rec (motive := fun _ => (Heap → Prop) → Env → Heap → (Env → Heap → Prop) → Prop) (fun _ ρ h Q => Q ρ h)
    (fun i q _ ih S ρ h Q => match all[i]? with
      | none => False
      | some o => match q with
        | .r => match heapless o.op with
          | true => roK P all ρ o h (fun v => ih S (up ρ o.dst v) h Q)
          | false => qK S (fun h => match roG P all ρ o h with | some r => r | none => none) (fun v => ih S (up ρ o.dst v) h Q)
        | .e => cOp P all ρ o h fun v h => S h ∧ ih S (up ρ o.dst v) h Q
        | .f => cOp P all ρ o h fun v h => drawK h fun S => ih S (up ρ o.dst v) h Q
        | .n => cOp P all ρ o h fun v h => ih (fun _ => True) (up ρ o.dst v) h Q)
    (fun _ _ ihx ihy S ρ h Q => ihx S ρ h Q ∧ ihy S ρ h Q) plan
theorem cDraw_nil {P : Program} {all : Array Oper} {S : Heap → Prop} {ρ : Env} {h : Heap} {Q : Env → Heap → Prop} : cDraw P all .nil S ρ h Q = Q ρ h := rfl
theorem cDraw_alt {P : Program} {all : Array Oper} {x y : PT} {S : Heap → Prop} {ρ : Env} {h : Heap} {Q : Env → Heap → Prop} : cDraw P all (.alt x y) S ρ h Q = (cDraw P all x S ρ h Q ∧ cDraw P all y S ρ h Q) := rfl
theorem cDraw_cons {P : Program} {all : Array Oper} {S : Heap → Prop} {i : Nat} {q : PK} {l : PT} {ρ : Env} {h : Heap} {Q : Env → Heap → Prop} : cDraw P all (.op i q l) S ρ h Q = match all[i]? with
    | none => False
    | some o => match q with
      | .r => match heapless o.op with
        | true => roK P all ρ o h (fun v => cDraw P all l S (up ρ o.dst v) h Q)
        | false => qK S (fun h => match roG P all ρ o h with | some r => r | none => none) (fun v => cDraw P all l S (up ρ o.dst v) h Q)
      | .e => cOp P all ρ o h fun v h => S h ∧ cDraw P all l S (up ρ o.dst v) h Q
      | .f => cOp P all ρ o h fun v h => drawK h fun S => cDraw P all l S (up ρ o.dst v) h Q
      | .n => cOp P all ρ o h fun v h => cDraw P all l (fun _ => True) (up ρ o.dst v) h Q := by cases q <;> rfl

inductive Ex where
  | nx | br (n : Nat) | rt

inductive Ann where
  | z
  | s (x y : Ann)
  | j (ws : Nat) (cs : List Nat) (x y : Ann)
  | m (ws : Nat) (cs : List Nat) (x : Ann)
  | l (ws : Nat) (cs : List Nat) (x : Ann)
  | d (plan : PT)

def ix (xs : List Value) (i : Nat) : Value := xs.getD i undef

def posOf (t : Nat) : Nat → List Nat → Option Nat
  | _, [] => none
  | k, c :: cs => bif Nat.beq t c then some k else posOf t (k + 1) cs

def writes : Code → List Tmp
  | .region _ ops _ => ops.toList.filterMap (·.dst)
  | .seq x y => writes x ++ writes y
  | .cond _ x y => writes x ++ writes y
  | .block _ x => writes x
  | .loop x => writes x
  | _ => []

def memN (t : Nat) : List Nat → Bool
  | [] => false
  | c :: cs => bif Nat.beq t c then true else memN t cs

/-- Slots as a number's bits. -/
def bitOf (ws t : Nat) : Bool := Nat.beq (Nat.land (Nat.shiftRight ws t) 1) 1

def subBits (ws : Nat) : List Nat → Bool
  | [] => true
  | c :: cs => bitOf ws c && subBits ws cs

/-- What is kept behind a piece that writes 'ws', 'cs' being carried. -/
def havoc (ρ ρj : Env) (ws : Nat) (cs : List Nat) (xs : List Value) : Env := fun t =>
  match posOf t 0 cs with
  | some i => ix xs i
  | none => match bitOf ws t with
    | true => ρj t
    | false => ρ t

def joinK (body : (List Value → Heap → Prop) → Prop) (rest : List Value → Env → Heap → Prop) : Prop :=
  ∃ J : List Value → Heap → Prop, body J ∧ ∀ xs ρj h, J xs h → rest xs ρj h

def loopK (init : List Value) (h : Heap) (body : List Value → Env → Heap → (List Value → Heap → Prop) → Prop) : Prop :=
  ∃ (I : List Value → Heap → Prop) (m : List Value → Heap → Nat), I init h ∧ ∀ xs ρj h, I xs h → body xs ρj h fun ys h' => I ys h' ∧ m ys h' < m xs h

def iteK (c : Value) (x y : Prop) : Prop :=
  match c with
  | .bool b => bif b then x else y
  | _ => False

abbrev CK := Ann → Env → Heap → (Ex → Env → Heap → Prop) → Prop
def seqC (x y : CK) : CK := fun an ρ h Q => match an with
  | .s a b => x a ρ h fun e ρ h => match e with
    | .nx => y b ρ h Q
    | e => Q e ρ h
  | .j ws cs a b => joinK (fun J => x a ρ h fun e ρ h => match e with
      | .nx => J (cs.map ρ) h
      | e => Q e ρ h) fun xs ρj h => y b (havoc ρ ρj ws cs xs) h Q
  | _ => False
def condC (c : Operand) (x y : CK) : CK := fun an ρ h Q => match an with
  | .s a b => iteK (ev ρ c) (x a ρ h Q) (y b ρ h Q)
  | _ => False
def blockC (id : Nat) (x : CK) : CK := fun an ρ h Q => match an with
  | .m ws cs a => joinK (fun J => x a ρ h fun e ρ h => match e with
      | .nx => J (cs.map ρ) h
      | .br n => match Nat.beq n id with
        | true => J (cs.map ρ) h
        | false => Q (.br n) ρ h
      | .rt => Q .rt ρ h) fun xs ρj h => Q .nx (havoc ρ ρj ws cs xs) h
  | a => x a ρ h fun e ρ h => match e with
    | .nx => Q .nx ρ h
    | .br n => match Nat.beq n id with
      | true => Q .nx ρ h
      | false => Q (.br n) ρ h
    | .rt => Q .rt ρ h
def loopC (x : CK) : CK := fun an ρ h Q => match an with
  | .l ws cs a => loopK (cs.map ρ) h fun xs ρj h again => x a (havoc ρ ρj ws cs xs) h fun e ρ h => match e with
    | .nx => again (cs.map ρ) h
    | e => Q e ρ h
  | _ => False
noncomputable def regionC (P : Program) (ops : Array Oper) (draw : Bool) : CK := fun an ρ h Q => match an with
  | .d plan => drawK h fun S => cDraw P ops plan S ρ h (Q .nx)
  | _ => match draw with
    | true => cOpsR P ops ops.toList ρ h (Q .nx)
    | false => cOps P ops ops.toList ρ h (Q .nx)

/-- What a piece of code does, read over the heap alone. -/
noncomputable def cCode (P : Program) (c : Code) : CK :=
  Code.rec (motive := fun _ => CK)
    (fun _ ρ h Q => Q .nx ρ h)
    (fun _ ops draw => regionC P ops draw)
    (fun _ _ ihx ihy => seqC ihx ihy)
    (fun c _ _ ihx ihy => condC c ihx ihy)
    (fun id _ ih => blockC id ih)
    (fun _ ih => loopC ih)
    (fun _ _ _ _ _ _ => fun _ _ _ _ => False)
    (fun id _ ρ h Q => Q (.br id) ρ h)
    (fun _ _ => fun _ _ _ _ => False)
    (fun _ => fun _ _ _ _ => False)
    (fun _ => fun _ _ _ _ => False)
    (fun _ ρ h Q => Q .rt ρ h)
    (fun _ => fun _ _ _ _ => False)
    c

/-- The operation waits for that one, or for one that waits for it. -/
def pathB (ops : Array Oper) : Nat → Nat → Nat → Bool
  | 0, _, _ => false
  | n + 1, k, i => match ops[k]? with
    | some o => o.after.any fun e => Region.binds .any e && (e.on == i || pathB ops n e.on i)
    | none => false

def edgeM : List Edge → Nat → Nat
  | [], m => m
  | e :: l, m => edgeM l (match Region.binds .any e with | true => Nat.lor m (Nat.pow 2 e.on) | false => m)
/-- All that a row of operations waits for, as bits. -/
def ancM (ops : Array Oper) : Nat → Nat → Nat
  | 0, m => m
  | j + 1, m => ancM ops j (match bitOf m j with
    | true => match ops[j]? with
      | some o => edgeM o.after.toList m
      | none => m
    | false => m)
def pathM (ops : Array Oper) (k i : Nat) : Bool := bitOf (ancM ops ops.size (match ops[k]? with | some o => edgeM o.after.toList 0 | none => 0)) i

def nextFs : PT → List Nat
  | .nil => []
  | .op i q t => match q with
    | .f => [i]
    | .n => [i]
    | _ => nextFs t
  | .alt x y => nextFs x ++ nextFs y

def headsT : PT → List Nat
  | .nil => []
  | .op i _ _ => [i]
  | .alt x y => headsT x ++ headsT y

def depthT : PT → Nat
  | .nil => 0
  | .op _ _ t => depthT t + 1
  | .alt x y => Nat.max (depthT x) (depthT y)

def pureAt (ops : Array Oper) (i : Nat) : Bool :=
  match ops[i]? with
  | some o => heapless o.op
  | none => false

/-- The plan of a region that draws its order: each one that is read first may be; all others that may come next are the branches' first ones. -/
def planOk (ops : Array Oper) : PT → Bool → List Nat → Array Bool → Bool
  | .nil, root, _, listed => root && (Region.ready .any ops listed).isEmpty
  | .op i q t, root, fs, listed => (match q with
      | .r => root && (Region.free .any ops listed i && (Region.ready .any ops listed).contains i && (nextFs t).all fun k => !(k == i) && (pureAt ops i || pathM ops k i))
      | .e => (bif root then Region.ready .any ops listed == [i] else (Region.ready .any ops listed).contains i) && !((bif root then nextFs t else fs).contains i)
      | _ => bif root then Region.ready .any ops listed == [i] else (Region.ready .any ops listed).contains i) && planOk ops t true [] (listed.setIfInBounds i true)
  | .alt x y, root, fs, listed => (bif root then (Region.ready .any ops listed).all fun i => (headsT x ++ headsT y).contains i else true) &&
      (planOk ops x false (bif root then nextFs x ++ nextFs y else fs) listed && planOk ops y false (bif root then nextFs x ++ nextFs y else fs) listed)

def opsOk (n : Nat) : List Oper → Bool
  | [] => true
  | o :: l => (match o.dst with | some d => Nat.blt d n | none => true) && opsOk n l

def okCode (n : Nat) : Code → Ann → Bool
  | .skip, _ => true
  | .region _ ops draw, an => opsOk n ops.toList && match an with
    | .d plan => draw && Region.noSelect ops && Nat.ble (depthT plan) ops.size && planOk ops plan true [] (Array.replicate ops.size false)
    | _ => bif draw then Region.lexB .any ops else true
  | .seq x y, an => match an with
    | .s a b => okCode n x a && okCode n y b
    | .j ws _ a b => subBits ws (writes x) && (okCode n x a && okCode n y b)
    | _ => false
  | .cond _ x y, an => match an with
    | .s a b => okCode n x a && okCode n y b
    | _ => false
  | .block _ x, an => match an with
    | .m ws _ a => subBits ws (writes x) && okCode n x a
    | a => okCode n x a
  | .loop x, an => match an with
    | .l ws _ a => subBits ws (writes x) && okCode n x a
    | _ => false
  | .exit _, _ => true
  | .ret, _ => true
  | _, _ => false

/-! ### the code's meaning is the model's -/
def Rel (n : Nat) (a : Act) (ρ : Env) : Prop := a.tmps.size = n ∧ a.defers = [] ∧ ∀ t, a.tmps.getD t undef = ρ t

theorem Rel.eval {n : Nat} {a : Act} {ρ : Env} (h : Rel n a ρ) : a.eval = ev ρ := by
  funext x
  cases x <;> simp only [Act.eval, ev]
  exact h.2.2 _

theorem Rel.put {n : Nat} {a : Act} {ρ : Env} (h : Rel n a ρ) {d : Option Tmp} (hd : (match d with | some d => Nat.blt d n | none => true) = true) (v : Value) : Rel n (a.put d v) (up ρ d v) := by
  cases d with
  | none => exact h
  | some d =>
    refine ⟨by simp [Act.put, h.1], h.2.1, fun t => ?_⟩
    have hd' : d < a.tmps.size := by rw [h.1]; simpa [Nat.blt_eq] using hd
    simp only [Act.put, up]
    have := h.2.2 t
    by_cases ht : t = d
    · subst ht
      simp [hd']
    · have hb : Nat.beq t d = false := by rw [Bool.eq_false_iff]; intro hb; exact ht (Nat.eq_of_beq_eq_true hb)
      simp only [hb]
      rw [← this]
      simp only [Array.getD_eq_getD_getElem?]
      rw [Array.getElem?_setIfInBounds_ne (Ne.symm ht)]

def Post (n : Nat) (ρ : Env) (ws : List Tmp) (w0 : World) (Q : Ex → Env → Heap → Prop) : Exit → Act → World → Prop := fun e a w =>
  ∃ ρ2, Rel n a ρ2 ∧ (∀ t, memN t ws = false → ρ2 t = ρ t) ∧ Same w0 w ∧ match e with
    | .normal => Q .nx ρ2 w.heap
    | .exit id => Q (.br id) ρ2 w.heap
    | .ret => Q .rt ρ2 w.heap
    | _ => False

theorem memN_append (t : Nat) : ∀ a b : List Nat, memN t (a ++ b) = (memN t a || memN t b)
  | [], b => by simp [memN]
  | c :: a, b => by
    simp only [List.cons_append, memN, memN_append t a b]
    cases Nat.beq t c <;> simp

theorem wanted_g {n : Nat} {a : Act} {ρ : Env} (hr : Rel n a ρ) {all : Array Oper} {j : Nat} {want : Bool} {o : Oper} (hg : o.guard = some (j, want)) :
    Region.wanted o (yielded all a.tmps) = (match gOf all ρ j with | .bool b => b == want | _ => false) := by
  unfold Region.wanted
  rw [hg]
  simp only
  unfold yielded gOf
  cases hd : (all[j]?).bind (·.dst) with
  | none => rfl
  | some t =>
    have h2 := hr.2.2 t
    simp only [Option.bind_some]
    rw [← h2]
    simp only [Array.getD_eq_getD_getElem?]
    cases h3 : a.tmps[t]? with
    | none => rfl
    | some v => cases v <;> simp

section
variable {P : Program} {ρ : Env} {w : World} {n : Nat} {a : Act}

theorem Done.mono {K K' : Value → Heap → Prop} (hk : ∀ v h, K v h → K' v h) {r : Result Next} (h : Done P K w r) : Done P K' w r := by
  unfold Done at *
  split at h
  · exact ⟨h.1, hk _ _ h.2⟩
  · exact ⟨h.1, hk _ _ h.2⟩
  · exact ⟨h.1, h.2.1, fun w hw => (h.2.2 w hw).mono fun _ _ ⟨v, he, hs, hK⟩ => ⟨v, he, hs, hk _ _ hK⟩⟩
  · exact h.elim

theorem wp_of_done {o : Oper} {K : Value → Heap → Prop} {next : Act → World → Prop} {Q : Exit → Act → World → Prop} (h : Done P K w ((execOp a.eval o).run P w))
    (hn : ∀ v w', Same w w' → K v w'.heap → next (a.put o.dst v) w') : o.wp P a w next Q := by
  unfold Oper.wp
  generalize (execOp a.eval o).run P w = r at h
  unfold Done at h
  split at h
  · exact hn _ _ h.1 h.2
  · exact hn _ _ h.1 h.2
  · obtain ⟨rfl, hc⟩ := h
    refine (hc.2 _ rfl).mono ?_
    rintro e w' ⟨v, rfl, hs, hk⟩
    exact hn v w' hs hk
  · exact h.elim

/-- One operation of a region, in whatever place it comes. -/
theorem cOp_sound [FlatOk P] {all : Array Oper} {o : Oper} {K : Value → Heap → Prop} {next : Act → World → Prop} {Q : Exit → Act → World → Prop} (hr : Rel n a ρ) (h : cOp P all ρ o w.heap K)
    (hn : ∀ v w', Same w w' → K v w'.heap → next (a.put o.dst v) w') :
    if Region.wanted o (yielded all a.tmps) then o.wp P a w next Q ∨ (o.asks P a w ∧ LetsOut Q) else next (a.put o.dst undef) w := by
  have h := cOp_cOp0 h
  unfold cOp0 at h
  cases hro : roV P ρ o.op w.heap with
  | some r =>
    simp only [roG, hro] at h
    cases hg : o.guard with
    | none =>
      simp only [hg] at h
      have hw : Region.wanted o (yielded all a.tmps) = true := by simp [Region.wanted, hg]
      rw [if_pos hw]
      refine .inl ?_
      unfold vK at h
      split at h
      · rename_i v
        refine wp_of_done (K := K) ?_ hn
        rw [hr.eval, roV_sound o rfl hro rfl]
        exact ⟨Same.refl w, h⟩
      · exact h.elim
    | some p =>
      obtain ⟨j, want⟩ := p
      simp only [hg] at h
      rw [wanted_g hr hg]
      unfold gV at h
      split at h
      · rename_i b hb
        by_cases hbw : (b == want) = true
        · rw [hbw] at h
          simp only [cond_true] at h
          rw [if_pos hbw]
          refine .inl ?_
          unfold vK at h
          split at h
          · rename_i v
            refine wp_of_done (K := K) ?_ hn
            rw [hr.eval, roV_sound o rfl hro rfl]
            exact ⟨Same.refl w, h⟩
          · exact h.elim
        · have hbw' : (b == want) = false := by simpa using hbw
          rw [hbw'] at h
          simp only [cond_false, vK] at h
          rw [if_neg hbw]
          exact hn _ _ (Same.refl w) h
      · rename_i hb
        simp only [vK] at h
        rw [if_neg (by simp)]
        exact hn _ _ (Same.refl w) h
  | none =>
    simp only [roG, hro, effG] at h
    cases hg : o.guard with
    | none =>
      simp only [hg] at h
      have hw : Region.wanted o (yielded all a.tmps) = true := by simp [Region.wanted, hg]
      rw [if_pos hw]
      refine .inl (wp_of_done (K := K) ?_ hn)
      rw [hr.eval]
      exact effK_sound o rfl h
    | some p =>
      obtain ⟨j, want⟩ := p
      simp only [hg] at h
      rw [wanted_g hr hg]
      unfold gK at h
      split at h
      · rename_i b hb
        by_cases hbw : (b == want) = true
        · rw [hbw] at h
          simp only [cond_true] at h
          rw [if_pos hbw]
          refine .inl (wp_of_done (K := K) ?_ hn)
          rw [hr.eval]
          exact effK_sound o rfl h
        · have hbw' : (b == want) = false := by simpa using hbw
          rw [hbw'] at h
          simp only [cond_false] at h
          rw [if_neg hbw]
          exact hn _ _ (Same.refl w) h
      · rename_i hb
        rw [if_neg (by simp)]
        exact hn _ _ (Same.refl w) h

theorem opsOk_cons {o : Oper} {l : List Oper} (h : opsOk n (o :: l) = true) : (match o.dst with | some d => Nat.blt d n | none => true) = true ∧ opsOk n l = true := by
  simpa [opsOk] using h

theorem up_keeps {d : Option Tmp} {v : Value} {t : Nat} {rest : List Tmp} (ht : memN t (match d with | some d => d :: rest | none => rest) = false) : up ρ d v t = ρ t ∧ memN t rest = false := by
  cases d with
  | none => exact ⟨rfl, ht⟩
  | some d =>
    simp only [memN] at ht
    simp only [up]
    cases hb : Nat.beq t d with
    | true => rw [hb] at ht; cases ht
    | false => rw [hb] at ht; exact ⟨rfl, ht⟩

theorem cOps_sound [FlatOk P] {all : Array Oper} {Q : Ex → Env → Heap → Prop} {Q' : Exit → Act → World → Prop} : ∀ (l : List Oper) (k : Nat) (ρ : Env) (a : Act) (w : World), all.toList.drop k = l → opsOk n l = true → Rel n a ρ →
    cOps P all l ρ w.heap (Q .nx) → (∀ e a' w', Post n ρ (l.filterMap (·.dst)) w Q e a' w' → Q' e a' w') → wpOps P all Q' (List.range' k l.length) a w
  | [], k, ρ, a, w, _, _, hr, h, hQ => by
    simp only [List.length_nil, List.range'_zero, wpOps]
    exact hQ _ _ _ ⟨ρ, hr, fun _ _ => rfl, Same.refl w, h⟩
  | o :: l, k, ρ, a, w, hd, hok, hr, h, hQ => by
    have hk : all[k]? = some o := by
      rw [← Array.getElem?_toList]
      have : (all.toList.drop k)[0]? = some o := by rw [hd]; rfl
      simpa using this
    have hd' : all.toList.drop (k + 1) = l := by
      have : (all.toList.drop k).drop 1 = l := by rw [hd]; rfl
      simpa [List.drop_drop] using this
    obtain ⟨h1, h2⟩ := opsOk_cons hok
    simp only [List.length_cons, List.range'_succ, wpOps, hk]
    rw [cOps_cons] at h
    refine cOp_sound (n := n) hr h fun v w' hs hK => ?_
    refine cOps_sound l (k + 1) (up ρ o.dst v) _ w' hd' h2 (hr.put h1 v) hK fun e a' w'' ⟨ρ2, g1, g2, g3, g4⟩ => hQ e a' w'' ⟨ρ2, g1, fun t ht => ?_, hs.trans g3, g4⟩
    have := up_keeps (ρ := ρ) (d := o.dst) (v := v) (t := t) (rest := l.filterMap (·.dst)) (by cases hdst : o.dst <;> simp [hdst] at ht ⊢ <;> exact ht)
    rw [g2 t this.2, this.1]

theorem wanted_quiet [FlatOk P] {all : Array Oper} {o : Oper} {C : World → Prop} {K : Act → Prop} {h : Heap} {K0 : Value → Prop} (hr : Rel n a ρ) (hC : ∀ w, C w → w.heap = h)
    (hv : roK P all ρ o h K0) (hn : ∀ v, K0 v → K (a.put o.dst v)) :
    if Region.wanted o (yielded all a.tmps) then o.quiet P a C K else K (a.put o.dst undef) := by
  have hv := roK_ro hv
  unfold roG at hv
  cases hro : roV P ρ o.op h with
  | none => simp [hro] at hv
  | some r =>
    simp only [hro] at hv
    have hq : ∀ v, r = some v → ∀ w, C w → o.quietAt P a C w v := by
      intro v hrv w hw
      unfold Oper.quietAt
      rw [hr.eval, roV_sound (w := w) o rfl (by rw [hC w hw]; exact hro) hrv]
      exact ⟨rfl, rfl⟩
    cases hg : o.guard with
    | none =>
      simp only [hg] at hv
      rw [if_pos (by simp [Region.wanted, hg])]
      unfold vK at hv
      split at hv
      · rename_i v
        exact ⟨v, hq v rfl, hn v hv⟩
      · exact hv.elim
    | some p =>
      obtain ⟨j, want⟩ := p
      simp only [hg] at hv
      rw [wanted_g hr hg]
      unfold gV at hv
      split at hv
      · rename_i b hb
        by_cases hbw : (b == want) = true
        · rw [hbw] at hv
          simp only [cond_true] at hv
          rw [if_pos hbw]
          unfold vK at hv
          split at hv
          · rename_i v
            exact ⟨v, hq v rfl, hn v hv⟩
          · exact hv.elim
        · have hbw' : (b == want) = false := by simpa using hbw
          rw [hbw'] at hv
          simp only [cond_false, vK] at hv
          rw [if_neg hbw]
          exact hn _ hv
      · rename_i hb
        simp only [vK] at hv
        rw [if_neg (by simp)]
        exact hn _ hv

theorem cOpsR_sound [FlatOk P] {all : Array Oper} {Q : Ex → Env → Heap → Prop} {C : World → Prop} {h : Heap} {Q' : Act → Prop} (hC : ∀ w, C w → w.heap = h) : ∀ (l : List Oper) (ρ : Env) (a : Act), opsOk n l = true → Rel n a ρ →
    cOpsR P all l ρ h (Q .nx) → (∀ a' ρ2, Rel n a' ρ2 → (∀ t, memN t (l.filterMap (·.dst)) = false → ρ2 t = ρ t) → Q .nx ρ2 h → Q' a') → wpQuiet P all C Q' l a
  | [], ρ, a, _, hr, hh, hQ => hQ _ ρ hr (fun _ _ => rfl) hh
  | o :: l, ρ, a, hok, hr, hh, hQ => by
    obtain ⟨h1, h2⟩ := opsOk_cons hok
    simp only [wpQuiet]
    refine wanted_quiet (n := n) (h := h) hr hC (K0 := fun v => cOpsR P all l (up ρ o.dst v) h (Q .nx)) hh fun v hK => ?_
    refine cOpsR_sound hC l (up ρ o.dst v) _ h2 (hr.put h1 v) hK fun a' ρ2 g1 g2 g3 => hQ a' ρ2 g1 (fun t ht => ?_) g3
    have := up_keeps (ρ := ρ) (d := o.dst) (v := v) (t := t) (rest := l.filterMap (·.dst)) (by cases hdst : o.dst <;> simp [hdst] at ht ⊢ <;> exact ht)
    rw [g2 t this.2, this.1]

/-- The world behind a draw: the heap is what it was. -/
theorem same_drawn (w : World) : Same w { w with drawn := w.drawn + 1 } := ⟨rfl, rfl, rfl⟩

theorem Region.wanted_eq {all : Array Oper} {o : Oper} (hr : Rel n a ρ) : Region.wanted o (yielded all a.tmps) = match o.guard with
    | none => true
    | some (j, want) => match gOf all ρ j with | .bool b => b == want | _ => false := by
  cases hg : o.guard with
  | none => simp [Region.wanted, hg]
  | some p => obtain ⟨j, want⟩ := p; exact wanted_g hr hg

theorem yieldsIf_of [FlatOk P] {all : Array Oper} {o : Oper} {S : Heap → Prop} {v : Value} {h0 : Heap} (hr : Rel n a ρ) (h0S : S h0)
    (hv : ∀ h, S h → (match roG P all ρ o h with | some r => r | none => none) = some v) : YieldsIf P all (fun w => S w.heap) o v a := by
  unfold YieldsIf
  rw [Region.wanted_eq hr]
  have key : ∀ h, S h → ∃ r, roV P ρ o.op h = some r ∧ (match o.guard with | none => r | some (j, want) => gV (gOf all ρ j) want r) = some v := by
    intro h hh
    have := hv h hh
    unfold roG at this
    cases hro : roV P ρ o.op h with
    | none => simp [hro] at this
    | some r =>
      simp only [hro] at this
      refine ⟨r, rfl, ?_⟩
      cases hg : o.guard with
      | none => simpa [hg] using this
      | some p => simpa [hg] using this
  cases hg : o.guard with
  | none =>
    refine .inl ⟨rfl, fun w hw => ?_⟩
    obtain ⟨r, h1, h2⟩ := key _ hw
    simp only [hg] at h2
    rw [hr.eval]
    exact roV_sound o rfl h1 h2
  | some p =>
    obtain ⟨j, want⟩ := p
    simp only [hg] at key
    cases hgo : gOf all ρ j with
    | bool b =>
      simp only [hgo, gV] at key
      cases hbw : (b == want) with
      | true =>
        refine .inl ⟨by simp only [hgo]; exact hbw, fun w hw => ?_⟩
        obtain ⟨r, h1, h2⟩ := key _ hw
        rw [hbw, cond_true] at h2
        rw [hr.eval]
        exact roV_sound o rfl h1 h2
      | false =>
        obtain ⟨r, h1, h2⟩ := key _ h0S
        rw [hbw, cond_false] at h2
        exact .inr ⟨by simp only [hgo]; exact hbw, (Option.some.inj h2).symm⟩
    | _ =>
      obtain ⟨r, h1, h2⟩ := key _ h0S
      simp only [hgo, gV] at h2
      exact .inr ⟨by simp only [hgo], (Option.some.inj h2).symm⟩

theorem wpOp_of_cOp [FlatOk P] {all : Array Oper} {i : Nat} {o : Oper} {K : Value → Heap → Prop} {next : Act → World → Prop} {Q : Exit → Act → World → Prop} (hi : all[i]? = some o) (hr : Rel n a ρ) (h : cOp P all ρ o w.heap K)
    (hn : ∀ v w', Same w w' → K v w'.heap → next (a.put o.dst v) w') : wpOp P all Q i next a w := by
  unfold wpOp
  simp only [hi]
  exact cOp_sound hr h hn

theorem opsOk_get {o : Oper} : ∀ (l : List Oper) (i : Nat), opsOk n l = true → l[i]? = some o → (match o.dst with | some d => Nat.blt d n | none => true) = true := by
  intro l
  induction l with
  | nil => intro i _ h; simp at h
  | cons o' l ih =>
    intro i h hi
    obtain ⟨h1, h2⟩ := opsOk_cons h
    cases i with
    | zero =>
      simp only [List.getElem?_cons_zero, Option.some.injEq] at hi
      subst hi
      exact h1
    | succ i =>
      simp only [List.getElem?_cons_succ] at hi
      exact ih i h2 hi

theorem memN_of_mem : ∀ {t : Nat} {l : List Nat}, t ∈ l → memN t l = true
  | t, c :: l, h => by
    simp only [memN]
    cases hb : Nat.beq t c with
    | true => rfl
    | false =>
      rcases List.mem_cons.1 h with rfl | h
      · simp at hb
      · exact memN_of_mem h

theorem roG_heapless {all : Array Oper} {o : Oper} (h : heapless o.op = true) (h1 h2 : Heap) : roG P all ρ o h1 = roG P all ρ o h2 := by
  have : roV P ρ o.op h1 = roV P ρ o.op h2 := by
    cases ho : o.op <;> first | rfl | (rename_i m; cases m <;> rfl) | (exfalso; rw [ho] at h; cases h)
  unfold roG
  rw [this]

/-! ### a region in pieces: behind an operation of F nothing is left that was to be read ahead of it -/
/-- What is listed, all that it waits for is listed. -/
def Closed (ops : Array Oper) (listed : Array Bool) : Prop :=
  ∀ k o, ops[k]? = some o → listed.getD k false = true → ∀ e ∈ o.after, Region.binds .any e = true → listed.getD e.on false = true

theorem Closed.step {ops : Array Oper} {listed : Array Bool} {j : Nat} (h : Closed ops listed) (hj : j ∈ Region.ready .any ops listed) : Closed ops (listed.setIfInBounds j true) := by
  intro k o hk hl e he hb
  refine getD_set_true ?_
  by_cases hkj : k = j
  · subst hkj
    obtain ⟨_, o', ho', hall⟩ := mem_ready.1 hj
    rw [hk] at ho'
    cases ho'
    exact hall e he hb
  · exact h k o hk (by rw [← getD_set_ne false (Ne.symm hkj)]; exact hl) e he hb

theorem path_listed {ops : Array Oper} {listed : Array Bool} (h : Closed ops listed) {i : Nat} : ∀ (n k : Nat), pathB ops n k i = true → (∀ o, ops[k]? = some o → ∀ e ∈ o.after, Region.binds .any e = true → listed.getD e.on false = true) → listed.getD i false = true
  | 0, k, hp, _ => by simp [pathB] at hp
  | n + 1, k, hp, hk => by
    unfold pathB at hp
    cases ho : ops[k]? with
    | none => simp [ho] at hp
    | some o =>
      simp only [ho, Array.any_eq_true', Bool.and_eq_true, Bool.or_eq_true, beq_iff_eq] at hp
      obtain ⟨e, he, hb, hp⟩ := hp
      have hl := hk o ho e he hb
      rcases hp with rfl | hp
      · exact hl
      · exact path_listed h n e.on hp fun o' ho' e' he' hb' => h e.on o' ho' hl e' he' hb'

theorem bitOf_or (m e i : Nat) : bitOf (Nat.lor m (Nat.pow 2 e)) i = true → bitOf m i = true ∨ i = e := by
  have hb : ∀ m t, bitOf m t = m.testBit t := by
    intro m t
    unfold bitOf
    have h1 : Nat.land (Nat.shiftRight m t) 1 = (m >>> t) % 2 := Nat.and_one_is_mod _
    rw [h1, Nat.shiftRight_eq_div_pow, Nat.testBit_eq_decide_div_mod_eq]
    cases h : Nat.beq (m / 2 ^ t % 2) 1 with
    | true => simp [Nat.eq_of_beq_eq_true h]
    | false => have : ¬ m / 2 ^ t % 2 = 1 := Nat.ne_of_beq_eq_false h; simp [this]
  rw [hb, hb]
  intro h
  have h : (m ||| 2 ^ e).testBit i = true := h
  rw [Nat.testBit_or, Nat.testBit_two_pow, Bool.or_eq_true, decide_eq_true_eq] at h
  rcases h with h | h
  · exact .inl h
  · exact .inr h.symm
theorem pathB_step {ops : Array Oper} {j i : Nat} {o : Oper} (ho : ops[j]? = some o) {e : Edge} (he : e ∈ o.after) (hb : Region.binds .any e = true) (hi : e.on = i) : ∀ (n k : Nat), pathB ops n k j = true → ∃ n, pathB ops n k i = true
  | 0, k, h => by simp [pathB] at h
  | n + 1, k, h => by
    unfold pathB at h
    cases hk : ops[k]? with
    | none => simp [hk] at h
    | some o' =>
      simp only [hk, Array.any_eq_true', Bool.and_eq_true, Bool.or_eq_true, beq_iff_eq] at h
      obtain ⟨e', he', hb', h⟩ := h
      have fin : ∀ m, pathB ops m e'.on i = true → ∃ n, pathB ops n k i = true := fun m hm => ⟨m + 1, by
        unfold pathB
        simp only [hk, Array.any_eq_true', Bool.and_eq_true, Bool.or_eq_true, beq_iff_eq]
        exact ⟨e', he', hb', .inr hm⟩⟩
      rcases h with h | h
      · refine fin 1 ?_
        unfold pathB
        rw [h]
        simp only [ho, Array.any_eq_true', Bool.and_eq_true, Bool.or_eq_true, beq_iff_eq]
        exact ⟨e, he, hb, .inl hi⟩
      · obtain ⟨m, hm⟩ := pathB_step ho he hb hi n e'.on h
        exact fin m hm
theorem edgeM_mem {i : Nat} : ∀ (l : List Edge) (m : Nat), bitOf (edgeM l m) i = true → bitOf m i = true ∨ ∃ e ∈ l, Region.binds .any e = true ∧ e.on = i
  | [], m, h => .inl h
  | e :: l, m, h => by
    unfold edgeM at h
    rcases edgeM_mem l _ h with h1 | ⟨e', h1, h2⟩
    · cases hb : Region.binds .any e with
      | true =>
        simp only [hb] at h1
        rcases bitOf_or _ _ _ h1 with h1 | h1
        · exact .inl h1
        · exact .inr ⟨e, by simp, hb, h1.symm⟩
      | false =>
        simp only [hb] at h1
        exact .inl h1
    · exact .inr ⟨e', by simp [h1], h2⟩
theorem ancM_mem {ops : Array Oper} {k : Nat} : ∀ (j m : Nat), (∀ i, bitOf m i = true → ∃ n, pathB ops n k i = true) → ∀ i, bitOf (ancM ops j m) i = true → ∃ n, pathB ops n k i = true
  | 0, m, H, i, h => H i h
  | j + 1, m, H, i, h => by
    unfold ancM at h
    refine ancM_mem j _ ?_ i h
    intro i h
    cases hb : bitOf m j with
    | false => simp only [hb] at h; exact H i h
    | true =>
      simp only [hb] at h
      cases ho : ops[j]? with
      | none => simp only [ho] at h; exact H i h
      | some o =>
        simp only [ho] at h
        rcases edgeM_mem _ _ h with h | ⟨e, h1, h2, h3⟩
        · exact H i h
        · obtain ⟨n, hn⟩ := H j hb
          exact pathB_step ho (by simpa using h1) h2 h3 n k hn
theorem pathM_sound {ops : Array Oper} {k i : Nat} (h : pathM ops k i = true) : ∃ n, pathB ops n k i = true := by
  refine ancM_mem ops.size _ ?_ i h
  intro i h
  cases ho : ops[k]? with
  | none =>
    simp only [ho] at h
    simp [bitOf, Nat.shiftRight_eq_div_pow] at h
  | some o =>
    simp only [ho] at h
    rcases edgeM_mem _ _ h with h | ⟨e, h1, h2, h3⟩
    · have : Nat.land (Nat.shiftRight 0 i) 1 = 0 := by
        have h1 : Nat.land (Nat.shiftRight 0 i) 1 = (0 >>> i) % 2 := Nat.and_one_is_mod _
        rw [h1, Nat.shiftRight_eq_div_pow]; simp
      unfold bitOf at h
      rw [this] at h
      cases h
    · refine ⟨1, ?_⟩
      unfold pathB
      simp only [ho, Array.any_eq_true', Bool.and_eq_true, Bool.or_eq_true, beq_iff_eq]
      exact ⟨e, by simpa using h1, h2, .inl h3⟩

def wpAnyF (P : Program) (ops : Array Oper) (Q : Exit → Act → World → Prop) (S : World → Prop) (F : Nat → Bool) : Nat → Array Bool → Act → World → Prop
  | 0, listed, a, w => Region.ready .any ops listed = [] ∧ Q .normal a w
  | fuel + 1, listed, a, w =>
    (Region.ready .any ops listed = [] → Q .normal a w) ∧
    ∀ i ∈ Region.ready .any ops listed, wpOp P ops Q i (fun a' w' => if F i = true then wpAny P .any ops Q fuel (listed.setIfInBounds i true) a' w' else S w' ∧ wpAnyF P ops Q S F fuel (listed.setIfInBounds i true) a' w') a w

theorem wpAny_of_F {P : Program} {ops : Array Oper} {Q : Exit → Act → World → Prop} {S : World → Prop} {F : Nat → Bool} : ∀ (fuel : Nat) (listed : Array Bool) (a : Act) (w : World), wpAnyF P ops Q S F fuel listed a w → wpAny P .any ops Q fuel listed a w
  | 0, _, _, _, h => h
  | fuel + 1, _, _, _, h => ⟨h.1, fun i hi => wpOp_mono (fun a' w' h' => by
      split at h'
      · exact h'
      · exact wpAny_of_F fuel _ a' w' h'.2) (h.2 i hi)⟩

theorem wpAnyF_first {P : Program} {ops : Array Oper} {Q : Exit → Act → World → Prop} {S : World → Prop} {F : Nat → Bool} {i : Nat} {oi : Oper} {v : Value} (hi : ops[i]? = some oi) (hsel : ∀ (j : Nat) (o : Oper) cs b, ops[j]? = some o → o.op ≠ .select cs b)
    (hQ : ∀ c a w, Q (.panic c) (a.put oi.dst v) w → Q (.panic c) a w) (hFi : F i = false) (hF : ∀ k, F k = true → ∃ n, pathB ops n k i = true) :
    ∀ (fuel : Nat) (listed : Array Bool) (a : Act) (w : World),
      (∀ j oj, ops[j]? = some oj → j ≠ i → listed.getD j true = false → (∀ e ∈ oj.after, Region.binds .any e = true → e.on ≠ i) → oi.apart ops oj = true) →
      Closed ops listed → i ∈ Region.ready .any ops listed → YieldsIf P ops S oi v a → S w →
      wpAnyF P ops Q S F fuel (listed.setIfInBounds i true) (a.put oi.dst v) w → wpAnyF P ops Q S F (fuel + 1) listed a w := by
  have notF : ∀ {listed : Array Bool} {j : Nat}, Closed ops listed → i ∈ Region.ready .any ops listed → j ∈ Region.ready .any ops listed → ¬ F j = true := by
    intro listed j hc hr hj hfj
    obtain ⟨n, hn⟩ := hF j hfj
    obtain ⟨_, oj, hoj, hall⟩ := mem_ready.1 hj
    have h1 := path_listed hc n j hn fun o ho e he hb => by rw [hoj] at ho; cases ho; exact hall e he hb
    have h0 := (mem_ready.1 hr).1
    rcases Nat.lt_or_ge i listed.size with h' | h'
    · simp [h'] at h0 h1; rw [h0] at h1; cases h1
    · simp [Array.getElem?_eq_none h'] at h1
  have hnF : ¬ F i = true := by rw [hFi]; simp
  intro fuel
  induction fuel with
  | zero =>
    intro listed a w _ hc hr hy hS H
    refine ⟨fun h => (by rw [h] at hr; cases hr), fun j hj => ?_⟩
    by_cases hji : j = i
    · subst hji; exact hy.wpOp hi hS (by rw [if_neg hnF]; exact ⟨hS, H⟩)
    · have := ready_mono hj hji
      rw [H.1] at this
      cases this
  | succ fuel ih =>
    intro listed a w hfree hc hr hy hS H
    refine ⟨fun h => (by rw [h] at hr; cases hr), fun j hj => ?_⟩
    by_cases hji : j = i
    · subst hji; exact hy.wpOp hi hS (by rw [if_neg hnF]; exact ⟨hS, H⟩)
    · have h1 := H.2 j (ready_mono hj hji)
      have hnFj := notF hc hr hj
      simp only [if_neg hnFj] at h1 ⊢
      obtain ⟨hjun, oj, hoj, hall⟩ := mem_ready.1 hj
      have hnot : ∀ e ∈ oj.after, Region.binds .any e = true → e.on ≠ i := fun e he hb heq => by
        have h1 := hall e he hb
        have h0 := (mem_ready.1 hr).1
        rw [heq] at h1
        rcases Nat.lt_or_ge i listed.size with h' | h'
        · simp [h'] at h0 h1; rw [h0] at h1; cases h1
        · simp [Array.getElem?_eq_none h'] at h1
      have h2 := wpOp_putIf hoj (hfree j oj hoj hji hjun hnot) (fun cs b => hsel i oi cs b hi) (fun cs b => hsel j oj cs b hoj) hQ hy h1
      have hfree' : ∀ k ok, ops[k]? = some ok → k ≠ i → (listed.setIfInBounds j true).getD k true = false →
          (∀ e ∈ ok.after, Region.binds .any e = true → e.on ≠ i) → oi.apart ops ok = true := fun k ok hk hki hun hno => by
        refine hfree k ok hk hki ?_ hno
        by_cases hjk : j = k
        · subst hjk; exact hjun
        · rw [getD_set_ne true hjk] at hun; exact hun
      refine wpOp_mono (fun a' w' h3 => ⟨h3.2.1, ih (listed.setIfInBounds j true) a' w' hfree' (hc.step hj) (ready_mono hr (Ne.symm hji)) h3.1 h3.2.1 ?_⟩) h2
      rw [Array.setIfInBounds_comm _ _ hji]
      exact h3.2.2

theorem wpAnyF_firstP {P : Program} {ops : Array Oper} {Q : Exit → Act → World → Prop} {S : World → Prop} {F : Nat → Bool} {i : Nat} {oi : Oper} {v : Value} (hi : ops[i]? = some oi) (hsel : ∀ (j : Nat) (o : Oper) cs b, ops[j]? = some o → o.op ≠ .select cs b)
    (hQ : ∀ c a w, Q (.panic c) (a.put oi.dst v) w → Q (.panic c) a w) (hFi : F i = false) :
    ∀ (fuel : Nat) (listed : Array Bool) (a : Act) (w : World),
      (∀ j oj, ops[j]? = some oj → j ≠ i → listed.getD j true = false → (∀ e ∈ oj.after, Region.binds .any e = true → e.on ≠ i) → oi.apart ops oj = true) →
      i ∈ Region.ready .any ops listed → Yields P ops oi v a → S w →
      wpAnyF P ops Q S F fuel (listed.setIfInBounds i true) (a.put oi.dst v) w → wpAnyF P ops Q S F (fuel + 1) listed a w := by
  have hnF : ¬ F i = true := by rw [hFi]; simp
  intro fuel
  induction fuel with
  | zero =>
    intro listed a w _ hr hy hS H
    refine ⟨fun h => (by rw [h] at hr; cases hr), fun j hj => ?_⟩
    by_cases hji : j = i
    · subst hji; exact hy.wpOp hi (by rw [if_neg hnF]; exact ⟨hS, H⟩)
    · have := ready_mono hj hji
      rw [H.1] at this
      cases this
  | succ fuel ih =>
    intro listed a w hfree hr hy hS H
    refine ⟨fun h => (by rw [h] at hr; cases hr), fun j hj => ?_⟩
    by_cases hji : j = i
    · subst hji; exact hy.wpOp hi (by rw [if_neg hnF]; exact ⟨hS, H⟩)
    · have h1 := H.2 j (ready_mono hj hji)
      obtain ⟨hjun, oj, hoj, hall⟩ := mem_ready.1 hj
      have hnot : ∀ e ∈ oj.after, Region.binds .any e = true → e.on ≠ i := fun e he hb heq => by
        have h1 := hall e he hb
        have h0 := (mem_ready.1 hr).1
        rw [heq] at h1
        rcases Nat.lt_or_ge i listed.size with h' | h'
        · simp [h'] at h0 h1; rw [h0] at h1; cases h1
        · simp [Array.getElem?_eq_none h'] at h1
      have h2 := wpOp_put hoj (hfree j oj hoj hji hjun hnot) (fun cs b => hsel i oi cs b hi) (fun cs b => hsel j oj cs b hoj) hQ hy h1
      have hfree' : ∀ k ok, ops[k]? = some ok → k ≠ i → (listed.setIfInBounds j true).getD k true = false →
          (∀ e ∈ ok.after, Region.binds .any e = true → e.on ≠ i) → oi.apart ops ok = true := fun k ok hk hki hun hno => by
        refine hfree k ok hk hki ?_ hno
        by_cases hjk : j = k
        · subst hjk; exact hjun
        · rw [getD_set_ne true hjk] at hun; exact hun
      refine wpOp_mono (fun a' w' h3 => ?_) h2
      obtain ⟨hy', h3⟩ := h3
      by_cases hF : F j = true
      · rw [if_pos hF] at h3 ⊢
        rw [Array.setIfInBounds_comm _ _ (Ne.symm hji)] at h3
        exact wpAny_first hi hsel hQ fuel (listed.setIfInBounds j true) a' w' hfree' (ready_mono hr (Ne.symm hji)) hy' h3
      · rw [if_neg hF] at h3 ⊢
        refine ⟨h3.1, ih (listed.setIfInBounds j true) a' w' hfree' (ready_mono hr (Ne.symm hji)) hy' h3.1 ?_⟩
        rw [Array.setIfInBounds_comm _ _ hji]
        exact h3.2

theorem wpAnyF_mono {P : Program} {ops : Array Oper} {Q : Exit → Act → World → Prop} {S : World → Prop} {F F' : Nat → Bool} (hF : ∀ k, F k = true → F' k = true) : ∀ (fuel : Nat) (listed : Array Bool) (a : Act) (w : World), wpAnyF P ops Q S F fuel listed a w → wpAnyF P ops Q S F' fuel listed a w
  | 0, _, _, _, h => h
  | fuel + 1, _, _, _, h => ⟨h.1, fun i hi => wpOp_mono (fun a' w' h' => by
      by_cases h1 : F i = true
      · rw [if_pos h1] at h'
        rw [if_pos (hF i h1)]
        exact h'
      · rw [if_neg h1] at h'
        by_cases h2 : F' i = true
        · rw [if_pos h2]
          exact wpAny_of_F fuel _ a' w' h'.2
        · rw [if_neg h2]
          exact ⟨h'.1, wpAnyF_mono hF fuel _ a' w' h'.2⟩) (h.2 i hi)⟩

theorem wpAnyF_done {P : Program} {ops : Array Oper} {Q : Exit → Act → World → Prop} {S : World → Prop} {F : Nat → Bool} {listed : Array Bool} {a : Act} {w : World} (h0 : Region.ready .any ops listed = []) (hQ : Q .normal a w) : ∀ fuel, wpAnyF P ops Q S F fuel listed a w
  | 0 => ⟨h0, hQ⟩
  | fuel + 1 => ⟨fun _ => hQ, fun i hi => by rw [h0] at hi; cases hi⟩

theorem planAlt_ready {ops : Array Oper} {listed : Array Bool} : ∀ (t : PT) (gs : List Nat), planOk ops t false gs listed = true → Region.ready .any ops listed ≠ []
  | .nil, gs, h => by simp [planOk] at h
  | .op i q t, gs, h => by
    intro h0
    cases q <;> simp [planOk, h0] at h
  | .alt x y, gs, h => by
    simp only [planOk, Bool.and_eq_true, cond_false] at h
    exact planAlt_ready x gs h.2.1

theorem cDraw_sound [FlatOk P] {all : Array Oper} {Q : Ex → Env → Heap → Prop} {Q' : Exit → Act → World → Prop} {ρ0 : Env} {w0 : World} (hns : Region.noSelect all = true) (hok : opsOk n all.toList = true)
    (hQp : ∀ c a w, ¬ Q' (.panic c) a w) : ∀ (plan : PT) (root : Bool) (fs : List Nat) (S : Heap → Prop) (listed : Array Bool) (ρ : Env) (a : Act) (w : World) (fuel : Nat), planOk all plan root fs listed = true → depthT plan ≤ fuel → Closed all listed → Rel n a ρ → (∀ t, memN t (all.toList.filterMap (·.dst)) = false → ρ t = ρ0 t) → Same w0 w → S w.heap →
    cDraw P all plan S ρ w.heap (Q .nx) → (∀ e a' w', Post n ρ0 (all.toList.filterMap (·.dst)) w0 Q e a' w' → Q' e a' w') →
    (root = true → wpAnyF P all Q' (fun w => S w.heap) (fun j => (nextFs plan).contains j) fuel listed a w) ∧
    (root = false → (∀ k, (nextFs plan).contains k = true → fs.contains k = true) → ∀ i ∈ Region.ready .any all listed, i ∈ headsT plan → ∃ fuel', fuel = fuel' + 1 ∧
      wpOp P all Q' i (fun a' w' => if fs.contains i = true then wpAny P .any all Q' fuel' (listed.setIfInBounds i true) a' w' else S w'.heap ∧ wpAnyF P all Q' (fun w => S w.heap) (fun j => fs.contains j) fuel' (listed.setIfInBounds i true) a' w') a w)
  | .nil, root, fs, S, listed, ρ, a, w, fuel, hp, hf, hcl, hr, hρ, hs, hS, h, hQ => by
    simp only [planOk, Bool.and_eq_true] at hp
    refine ⟨fun _ => wpAnyF_done (by simpa using hp.2) (hQ _ _ _ ⟨ρ, hr, hρ, hs, h⟩) fuel, fun h0 => ?_⟩
    rw [h0] at hp
    cases hp.1
  | .alt x y, root, fs, S, listed, ρ, a, w, fuel, hp, hf, hcl, hr, hρ, hs, hS, h, hQ => by
    simp only [planOk, Bool.and_eq_true] at hp
    obtain ⟨hp0, hp1, hp2⟩ := hp
    rw [cDraw_alt] at h
    have hfx : depthT x ≤ fuel := Nat.le_trans (Nat.le_max_left _ _) hf
    have hfy : depthT y ≤ fuel := Nat.le_trans (Nat.le_max_right _ _) hf
    have key : ∀ gs : List Nat, planOk all x false gs listed = true → planOk all y false gs listed = true → (∀ k, (nextFs x ++ nextFs y).contains k = true → gs.contains k = true) → ∀ i ∈ Region.ready .any all listed, i ∈ headsT (.alt x y) → ∃ fuel', fuel = fuel' + 1 ∧
        wpOp P all Q' i (fun a' w' => if gs.contains i = true then wpAny P .any all Q' fuel' (listed.setIfInBounds i true) a' w' else S w'.heap ∧ wpAnyF P all Q' (fun w => S w.heap) (fun j => gs.contains j) fuel' (listed.setIfInBounds i true) a' w') a w := by
      intro gs g1 g2 g3 i hi hih
      rcases List.mem_append.1 hih with hih | hih
      · exact (cDraw_sound hns hok hQp x false gs S listed ρ a w fuel g1 hfx hcl hr hρ hs hS h.1 hQ).2 rfl (fun k hk => g3 k (by simp at hk ⊢; exact .inl hk)) i hi hih
      · exact (cDraw_sound hns hok hQp y false gs S listed ρ a w fuel g2 hfy hcl hr hρ hs hS h.2 hQ).2 rfl (fun k hk => g3 k (by simp at hk ⊢; exact .inr hk)) i hi hih
    refine ⟨fun h0 => ?_, fun h0 hk => ?_⟩
    · subst h0
      simp only [cond_true] at hp0 hp1 hp2
      have k2 := key _ hp1 hp2 (fun k hk => hk)
      have hne := planAlt_ready x _ hp1
      cases fuel with
      | zero =>
        obtain ⟨i, hi⟩ := List.exists_mem_of_ne_nil _ hne
        have := List.all_eq_true.1 hp0 i hi
        obtain ⟨fuel', h1, _⟩ := k2 i hi (by simpa [headsT] using this)
        cases h1
      | succ fuel =>
        refine ⟨fun hnone => absurd hnone hne, fun i hi => ?_⟩
        · have hih := List.all_eq_true.1 hp0 i hi
          obtain ⟨fuel', h1, h2⟩ := k2 i hi (by simpa [headsT] using hih)
          cases h1
          exact h2
    · subst h0
      simp only [cond_false] at hp1 hp2
      exact key fs hp1 hp2 (fun k hk' => hk k hk')
  | .op i q plan, root, fs, S, listed, ρ, a, w, fuel, hp, hf, hcl, hr, hρ, hs, hS, h, hQ => by
    obtain ⟨fuel, rfl⟩ : ∃ f, fuel = f + 1 := ⟨fuel - 1, by simp only [depthT] at hf; omega⟩
    have hf' : depthT plan ≤ fuel := by simp only [depthT] at hf; omega
    simp only [planOk, Bool.and_eq_true] at hp
    obtain ⟨hp1, hp2⟩ := hp
    rw [cDraw_cons] at h
    cases hi : all[i]? with
    | none => simp [hi] at h
    | some o =>
      simp only [hi] at h
      have hd := opsOk_get (o := o) all.toList i hok (by simpa using hi)
      have hρ' : ∀ v t, memN t (all.toList.filterMap (·.dst)) = false → up ρ o.dst v t = ρ0 t := by
        intro v t ht
        rw [← hρ t ht]
        cases hdst : o.dst with
        | none => rfl
        | some d =>
          simp only [up]
          cases hb : Nat.beq t d with
          | false => rfl
          | true =>
            have htd := Nat.eq_of_beq_eq_true hb
            subst htd
            rw [memN_of_mem (List.mem_filterMap.2 ⟨o, List.mem_of_getElem? (i := i) (by simpa using hi), hdst⟩)] at ht
            cases ht
      cases q with
      | r =>
        simp only [Bool.and_eq_true] at hp1
        obtain ⟨hroot, ⟨hfree, hready⟩, hnext⟩ := hp1
        refine ⟨fun _ => ?_, fun h0 => by rw [hroot] at h0; cases h0⟩
        have hin : i ∈ Region.ready .any all listed := by simpa using hready
        simp only at h
        have hall : ∀ k, (nextFs plan).contains k = true → ¬ k = i ∧ (pureAt all i = true ∨ pathM all k i = true) := by
          intro k hk
          have := List.all_eq_true.1 hnext k (by simpa using hk)
          simpa using this
        have hFi : (nextFs plan).contains i = false := by
          rw [Bool.eq_false_iff]
          intro hc
          exact (hall i hc).1 rfl
        cases hl : heapless o.op with
        | false =>
          simp only [hl] at h
          obtain ⟨v, hv, hK⟩ := h
          have ih := (cDraw_sound hns hok hQp plan true [] S _ _ _ w fuel hp2 hf' (hcl.step hin) (hr.put hd v) (hρ' v) hs hS hK hQ).1 rfl
          refine wpAnyF_first (F := fun j => (nextFs plan).contains j) hi (Region.noSelect_spec hns) (fun c a w hq => absurd hq (hQp _ _ _)) hFi ?_ fuel listed a w (Region.free_spec hi hfree) hcl hin (yieldsIf_of hr hS hv) hS ih
          intro k hk
          rcases (hall k hk).2 with h1 | h1
          · simp [pureAt, hi, hl] at h1
          · exact pathM_sound h1
        | true =>
          simp only [hl] at h
          have h := roK_ro h
          cases hg : roG P all ρ o w.heap with
          | none => rw [hg] at h; exact h.elim
          | some r =>
            rw [hg] at h
            simp only [vK] at h
            split at h
            · rename_i v
              have ih := (cDraw_sound hns hok hQp plan true [] S _ _ _ w fuel hp2 hf' (hcl.step hin) (hr.put hd v) (hρ' v) hs hS h hQ).1 rfl
              have hyI := yieldsIf_of (all := all) (S := fun _ => True) (v := v) (h0 := w.heap) hr trivial (fun h' _ => by rw [roG_heapless hl h' w.heap, hg])
              have hy : Yields P all o v a := hyI.imp (fun ⟨g1, g2⟩ => ⟨g1, fun w => g2 w trivial⟩) id
              exact wpAnyF_firstP (F := fun j => (nextFs plan).contains j) hi (Region.noSelect_spec hns) (fun c a w hq => absurd hq (hQp _ _ _)) hFi fuel listed a w (Region.free_spec hi hfree) hin hy hS ih
            · exact h.elim
      | e =>
        simp only [Bool.and_eq_true, Bool.not_eq_true'] at hp1
        obtain ⟨hready, hnext⟩ := hp1
        have step : ∀ gs : List Nat, gs.contains i = false → (∀ k, (nextFs plan).contains k = true → gs.contains k = true) → i ∈ Region.ready .any all listed →
            wpOp P all Q' i (fun a' w' => if gs.contains i = true then wpAny P .any all Q' fuel (listed.setIfInBounds i true) a' w' else S w'.heap ∧ wpAnyF P all Q' (fun w => S w.heap) (fun j => gs.contains j) fuel (listed.setIfInBounds i true) a' w') a w := by
          intro gs hg hsub hin
          refine wpOp_of_cOp hi hr h fun v w' hs' hK => ?_
          refine Eq.mpr (if_neg (by rw [hg]; exact Bool.false_ne_true)) ?_
          exact ⟨hK.1, wpAnyF_mono hsub _ _ _ _ ((cDraw_sound hns hok hQp plan true [] S _ _ _ w' fuel hp2 hf' (hcl.step hin) (hr.put hd v) (hρ' v) (hs.trans hs') hK.1 hK.2 hQ).1 rfl)⟩
        refine ⟨fun h0 => ?_, fun h0 hsub j hj hjh => ?_⟩
        · subst h0
          simp only [cond_true] at hready hnext
          have hready : Region.ready .any all listed = [i] := by simpa using hready
          refine ⟨fun h0 => (by rw [h0] at hready; cases hready), fun j hj => ?_⟩
          obtain rfl : j = i := by rw [hready] at hj; simpa using hj
          exact step (nextFs plan) hnext (fun k hk => hk) hj
        · subst h0
          obtain rfl : j = i := by simpa [headsT] using hjh
          simp only [cond_false] at hnext
          exact ⟨fuel, rfl, step fs hnext hsub hj⟩
      | f =>
        have step : i ∈ Region.ready .any all listed → wpOp P all Q' i (fun a' w' => wpAny P .any all Q' fuel (listed.setIfInBounds i true) a' w') a w := by
          intro hin
          refine wpOp_of_cOp hi hr h fun v w' hs' hK => ?_
          obtain ⟨S', hS', hK⟩ := hK
          exact wpAny_of_F _ _ _ _ ((cDraw_sound hns hok hQp plan true [] S' _ _ _ w' fuel hp2 hf' (hcl.step hin) (hr.put hd v) (hρ' v) (hs.trans hs') hS' hK hQ).1 rfl)
        refine ⟨fun h0 => ?_, fun h0 hsub j hj hjh => ?_⟩
        · subst h0
          have hready : Region.ready .any all listed = [i] := by simpa using hp1
          refine ⟨fun h0 => (by rw [h0] at hready; cases hready), fun j hj => ?_⟩
          obtain rfl : j = i := by rw [hready] at hj; simpa using hj
          exact wpOp_mono (fun a' w' h' => Eq.mpr (if_pos (by simp [nextFs])) h') (step hj)
        · obtain rfl : j = i := by simpa [headsT] using hjh
          exact ⟨fuel, rfl, wpOp_mono (fun a' w' h' => Eq.mpr (if_pos (hsub j (by simp [nextFs]))) h') (step hj)⟩
      | n =>
        have step : i ∈ Region.ready .any all listed → wpOp P all Q' i (fun a' w' => wpAny P .any all Q' fuel (listed.setIfInBounds i true) a' w') a w := by
          intro hin
          refine wpOp_of_cOp hi hr h fun v w' hs' hK => ?_
          exact wpAny_of_F _ _ _ _ ((cDraw_sound hns hok hQp plan true [] (fun _ => True) _ _ _ w' fuel hp2 hf' (hcl.step hin) (hr.put hd v) (hρ' v) (hs.trans hs') trivial hK hQ).1 rfl)
        refine ⟨fun h0 => ?_, fun h0 hsub j hj hjh => ?_⟩
        · subst h0
          have hready : Region.ready .any all listed = [i] := by simpa using hp1
          refine ⟨fun h0 => (by rw [h0] at hready; cases hready), fun j hj => ?_⟩
          obtain rfl : j = i := by rw [hready] at hj; simpa using hj
          exact wpOp_mono (fun a' w' h' => Eq.mpr (if_pos (by simp [nextFs])) h') (step hj)
        · obtain rfl : j = i := by simpa [headsT] using hjh
          exact ⟨fuel, rfl, wpOp_mono (fun a' w' h' => Eq.mpr (if_pos (hsub j (by simp [nextFs]))) h') (step hj)⟩

theorem subBits_mem {ws : Nat} : ∀ {l : List Nat}, subBits ws l = true → ∀ {t : Nat}, bitOf ws t = false → memN t l = false
  | [], _, _, _ => rfl
  | c :: l, h, t, ht => by
    simp only [subBits, Bool.and_eq_true] at h
    simp only [memN]
    cases hb : Nat.beq t c with
    | true =>
      have := Nat.eq_of_beq_eq_true hb
      subst this
      rw [h.1] at ht
      cases ht
    | false => exact subBits_mem h.2 ht

theorem havoc_self {ρ ρ' : Env} {ws : Nat} {cs : List Nat} (h : ∀ t, bitOf ws t = false → ρ' t = ρ t) : havoc ρ ρ' ws cs (cs.map ρ') = ρ' := by
  funext t
  have key : ∀ (cs : List Nat) (k : Nat), match posOf t k cs with | some i => k ≤ i ∧ cs[i - k]? = some t | none => True := by
    intro cs
    induction cs with
    | nil => intro k; simp [posOf]
    | cons c cs ih =>
      intro k
      simp only [posOf]
      cases hb : Nat.beq t c with
      | true => have := Nat.eq_of_beq_eq_true hb; subst this; simp
      | false =>
        simp only [cond_false]
        have := ih (k + 1)
        split
        · rename_i i hi
          rw [hi] at this
          refine ⟨by omega, ?_⟩
          rw [show i - k = (i - (k + 1)) + 1 from by omega]
          simpa using this.2
        · trivial
  have k0 := key cs 0
  unfold havoc
  cases hp : posOf t 0 cs with
  | some i =>
    rw [hp] at k0
    simp only
    have : cs[i]? = some t := by simpa using k0.2
    unfold ix
    rw [List.getD_eq_getElem?_getD, List.getElem?_map, this]
    rfl
  | none =>
    simp only
    cases hm : bitOf ws t with
    | true => rfl
    | false => exact (h t hm).symm

theorem cCode_sound [FlatOk P] (hm : P.follows .mixedOrders = true) : ∀ (c : Code) (an : Ann) (ρ : Env) (a : Act) (w : World) (Q : Ex → Env → Heap → Prop), okCode n c an = true → Rel n a ρ → cCode P c an ρ w.heap Q →
    c.wp P (Post n ρ (writes c) w Q) a w := by
  intro c
  induction c with
  | skip => intro an ρ a w Q _ hr h; exact wp_skip ⟨ρ, hr, fun _ _ => rfl, Same.refl w, h⟩
  | exit id => intro an ρ a w Q _ hr h; exact wp_exit ⟨ρ, hr, fun _ _ => rfl, Same.refl w, h⟩
  | ret => intro an ρ a w Q _ hr h; exact wp_ret ⟨ρ, hr, fun _ _ => rfl, Same.refl w, h⟩
  | region id ops draw =>
    intro an ρ a w Q hok hr h
    have hops : opsOk n ops.toList = true := by simp only [okCode, Bool.and_eq_true] at hok; exact hok.1
    have seqCase : cOps P ops ops.toList ρ w.heap (Q .nx) → (Code.region id ops false).wp P (Post n ρ (writes (.region id ops false)) w Q) a w := by
      intro h
      refine wp_region ?_
      have := cOps_sound (Q := Q) (Q' := Post n ρ (ops.toList.filterMap (·.dst)) w Q) ops.toList 0 ρ a w (by simp) hops hr h (fun _ _ _ h => h)
      rw [List.range_eq_range']
      have e : wpOps P ops (Post n ρ (ops.toList.filterMap (·.dst)) w Q) (List.range' 0 ops.size) a w := by simpa using this
      exact e
    have roCase : Region.lexB .any ops = true → cOpsR P ops ops.toList ρ w.heap (Q .nx) → (Code.region id ops true).wp P (Post n ρ (writes (.region id ops true)) w Q) a w := by
      intro hl h
      refine wp_region_quiet (C := fun w' => Same w w' ∧ w'.heap = w.heap) hm hl ⟨same_drawn w, rfl⟩ ?_
      refine cOpsR_sound (C := fun w' => Same w w' ∧ w'.heap = w.heap) (fun w' h => h.2) ops.toList ρ a hops hr h fun a' ρ2 g1 g2 g3 w' hw' => ?_
      exact ⟨ρ2, g1, g2, hw'.1, by simp only [hw'.2]; exact g3⟩
    have other : (∀ plan, an ≠ .d plan) → (Code.region id ops draw).wp P (Post n ρ (writes (.region id ops draw)) w Q) a w := by
      intro hne
      cases draw with
      | false => cases an <;> first | exact absurd rfl (hne _) | exact seqCase h
      | true => cases an <;> first | exact absurd rfl (hne _) | exact roCase (by simp only [okCode, Bool.and_eq_true] at hok; exact hok.2) h
    by_cases hd : ∃ plan, an = .d plan
    · obtain ⟨plan, rfl⟩ := hd
      simp only [okCode, Bool.and_eq_true] at hok
      obtain ⟨_, ⟨⟨h1, h2⟩, h3⟩, h4⟩ := hok
      subst h1
      obtain ⟨S, hS, h⟩ := h
      refine wp_region_any hm ?_
      have := cDraw_sound (P := P) (Q := Q) (Q' := Post n ρ (ops.toList.filterMap (·.dst)) w Q) (ρ0 := ρ) (w0 := w) h2 hops (fun c a w hq => by obtain ⟨_, _, _, _, hf⟩ := hq; exact hf)
        plan true [] S (Array.replicate ops.size false) ρ a { w with drawn := w.drawn + 1 } ops.size h4 (Nat.le_of_ble_eq_true h3) (fun k o hk hl => by simp [Array.getElem?_replicate] at hl; split at hl <;> simp at hl) hr (fun _ _ => rfl) (same_drawn w) hS h (fun _ _ _ h => h)
      exact wpAny_of_F _ _ _ _ (this.1 rfl)
    · exact other (fun plan he => hd ⟨plan, he⟩)
  | seq x y ihx ihy =>
    intro an ρ a w Q hok hr h
    have lift : ∀ {ρ1 : Env} {w1 : World} (_ : ∀ t, memN t (writes x) = false → ρ1 t = ρ t) (_ : Same w w1) (e : Exit) (a2 : Act) (w2 : World), Post n ρ1 (writes y) w1 Q e a2 w2 → Post n ρ (writes (.seq x y)) w Q e a2 w2 := by
      intro ρ1 w1 h1 h2 e a2 w2 ⟨ρ2, g1, g2, g3, g4⟩
      refine ⟨ρ2, g1, fun t ht => ?_, h2.trans g3, g4⟩
      simp only [writes, memN_append, Bool.or_eq_false_iff] at ht
      rw [g2 t ht.2, h1 t ht.1]
    have liftx : ∀ (e : Exit) (a2 : Act) (w2 : World), Post n ρ (writes x) w Q e a2 w2 → Post n ρ (writes (.seq x y)) w Q e a2 w2 := by
      intro e a2 w2 ⟨ρ2, g1, g2, g3, g4⟩
      refine ⟨ρ2, g1, fun t ht => ?_, g3, g4⟩
      simp only [writes, memN_append, Bool.or_eq_false_iff] at ht
      exact g2 t ht.1
    cases an with
    | s p q =>
      simp only [okCode, Bool.and_eq_true] at hok
      refine wp_seq (wp_mono (ihx p ρ a w _ hok.1 hr h) ?_)
      intro e a1 w1 ⟨ρ1, g1, g2, g3, g4⟩
      cases e with
      | normal => exact wp_mono (ihy q ρ1 a1 w1 Q hok.2 g1 g4) (lift g2 g3)
      | exit id => exact liftx (.exit id) a1 w1 ⟨ρ1, g1, g2, g3, g4⟩
      | ret => exact liftx .ret a1 w1 ⟨ρ1, g1, g2, g3, g4⟩
      | _ => exact g4.elim
    | j ws cs p q =>
      simp only [okCode, Bool.and_eq_true] at hok
      obtain ⟨hws, hok⟩ := hok
      obtain ⟨J, h1, h2⟩ := h
      refine wp_seq (wp_mono (ihx p ρ a w _ hok.1 hr h1) ?_)
      intro e a1 w1 ⟨ρ1, g1, g2, g3, g4⟩
      cases e with
      | normal =>
        have this : cCode P y q (havoc ρ ρ1 ws cs (cs.map ρ1)) w1.heap Q := h2 (cs.map ρ1) ρ1 w1.heap g4
        rw [havoc_self (fun t ht => g2 t (subBits_mem hws ht))] at this
        exact wp_mono (ihy q ρ1 a1 w1 Q hok.2 g1 this) (lift g2 g3)
      | exit id => exact liftx (.exit id) a1 w1 ⟨ρ1, g1, g2, g3, g4⟩
      | ret => exact liftx .ret a1 w1 ⟨ρ1, g1, g2, g3, g4⟩
      | _ => exact g4.elim
    | _ => simp [okCode] at hok
  | cond c x y ihx ihy =>
    intro an ρ a w Q hok hr h
    cases an with
    | s p q =>
      simp only [okCode, Bool.and_eq_true] at hok
      have h : iteK (ev ρ c) (cCode P x p ρ w.heap Q) (cCode P y q ρ w.heap Q) := h
      unfold iteK at h
      split at h
      · rename_i b hb
        refine wp_cond (t := b) (by rw [hr.eval]; exact hb) ?_
        cases b with
        | true =>
          refine wp_mono (ihx p ρ a w Q hok.1 hr h) ?_
          intro e a2 w2 ⟨ρ2, g1, g2, g3, g4⟩
          refine ⟨ρ2, g1, fun t ht => ?_, g3, g4⟩
          simp only [writes, memN_append, Bool.or_eq_false_iff] at ht
          exact g2 t ht.1
        | false =>
          refine wp_mono (ihy q ρ a w Q hok.2 hr h) ?_
          intro e a2 w2 ⟨ρ2, g1, g2, g3, g4⟩
          refine ⟨ρ2, g1, fun t ht => ?_, g3, g4⟩
          simp only [writes, memN_append, Bool.or_eq_false_iff] at ht
          exact g2 t ht.2
      · exact h.elim
    | _ => simp [okCode] at hok
  | block id x ih =>
    intro an ρ a w Q hok hr h
    have plain : ∀ an', okCode n x an' = true → cCode P x an' ρ w.heap (fun e ρ h => match e with
      | .nx => Q .nx ρ h
      | .br n => bif Nat.beq n id then Q .nx ρ h else Q (.br n) ρ h
      | .rt => Q .rt ρ h) → (Code.block id x).wp P (Post n ρ (writes (.block id x)) w Q) a w := by
      intro an' hok h
      refine wp_block (wp_mono (ih an' ρ a w _ hok hr h) ?_)
      intro e a1 w1 ⟨ρ1, g1, g2, g3, g4⟩
      cases e with
      | normal => exact ⟨ρ1, g1, g2, g3, g4⟩
      | exit id' =>
        simp only [Exit.inBlock]
        simp only at g4
        by_cases hid : id' = id
        · subst hid
          rw [if_pos rfl]
          simp only [Nat.beq_refl] at g4
          exact ⟨ρ1, g1, g2, g3, g4⟩
        · rw [if_neg hid]
          have hb : Nat.beq id' id = false := by rw [Bool.eq_false_iff]; intro hb; exact hid (Nat.eq_of_beq_eq_true hb)
          simp only [hb] at g4
          exact ⟨ρ1, g1, g2, g3, g4⟩
      | ret => exact ⟨ρ1, g1, g2, g3, g4⟩
      | _ => exact g4.elim
    cases an with
    | m ws cs p =>
      simp only [okCode, Bool.and_eq_true] at hok
      obtain ⟨hws, hok⟩ := hok
      obtain ⟨J, h1, h2⟩ := h
      refine wp_block (wp_mono (ih p ρ a w _ hok hr h1) ?_)
      intro e a1 w1 ⟨ρ1, g1, g2, g3, g4⟩
      have meet : J (cs.map ρ1) w1.heap → Q .nx ρ1 w1.heap := by
        intro hJ
        have this : Q .nx (havoc ρ ρ1 ws cs (cs.map ρ1)) w1.heap := h2 (cs.map ρ1) ρ1 w1.heap hJ
        rwa [havoc_self (fun t ht => g2 t (subBits_mem hws ht))] at this
      cases e with
      | normal => exact ⟨ρ1, g1, g2, g3, meet g4⟩
      | exit id' =>
        simp only [Exit.inBlock]
        simp only at g4
        by_cases hid : id' = id
        · subst hid
          rw [if_pos rfl]
          simp only [Nat.beq_refl] at g4
          exact ⟨ρ1, g1, g2, g3, meet g4⟩
        · rw [if_neg hid]
          have hb : Nat.beq id' id = false := by rw [Bool.eq_false_iff]; intro hb; exact hid (Nat.eq_of_beq_eq_true hb)
          simp only [hb] at g4
          exact ⟨ρ1, g1, g2, g3, g4⟩
      | ret => exact ⟨ρ1, g1, g2, g3, g4⟩
      | _ => exact g4.elim
    | _ => exact plain _ hok h
  | loop x ih =>
    intro an ρ a w Q hok hr h
    cases an with
    | l ws cs p =>
      simp only [okCode, Bool.and_eq_true] at hok
      obtain ⟨hws, hok⟩ := hok
      obtain ⟨I, m, h0, h1⟩ := h
      let val : Act → Nat → Value := fun a t => a.tmps.getD t undef
      refine wp_loop (fun a' w' => Rel n a' (val a') ∧ (∀ t, memN t (writes x) = false → val a' t = ρ t) ∧ Same w w' ∧ I (cs.map (val a')) w'.heap) (fun a' w' => m (cs.map (val a')) w'.heap) ?_ ?_
      · have e : val a = ρ := funext hr.2.2
        rw [e]
        exact ⟨hr, fun _ _ => rfl, Same.refl w, h0⟩
      · intro a' w' ⟨i1, i2, i3, i4⟩
        have hb := h1 (cs.map (val a')) (val a') w'.heap i4
        simp only at hb
        rw [havoc_self (fun t ht => i2 t (subBits_mem hws ht))] at hb
        refine wp_mono (ih p (val a') a' w' _ hok i1 hb) ?_
        intro e a2 w2 ⟨ρ2, g1, g2, g3, g4⟩
        have e2 : val a2 = ρ2 := funext g1.2.2
        cases e with
        | normal =>
          simp only [Exit.then]
          rw [e2]
          exact ⟨⟨g1, fun t ht => by rw [g2 t ht, i2 t ht], i3.trans g3, g4.1⟩, g4.2⟩
        | exit id => exact ⟨ρ2, g1, fun t ht => by rw [g2 t ht, i2 t ht], i3.trans g3, g4⟩
        | ret => exact ⟨ρ2, g1, fun t ht => by rw [g2 t ht, i2 t ht], i3.trans g3, g4⟩
        | _ => exact g4.elim
    | _ => simp [okCode] at hok
  | _ => intro an ρ a w Q hok hr h; simp [okCode] at hok
end

/-! ### a whole function -/
noncomputable def retK (P : Program) (rs : List ResultVar) : List Value → Env → Heap → (Value → Heap → Prop) → Prop :=
  List.rec (motive := fun _ => List Value → Env → Heap → (Value → Heap → Prop) → Prop)
    (fun acc _ h R => R (match acc with | [v] => v | l => .tuple l.reverse.toArray) h)
    (fun r _ ih acc ρ h R => match r with
      | .tmp t => ih (ρ t :: acc) ρ h R
      | .cell a t => match tyAgg P t with
        | some false => vK (ldV h (ρ a)) fun v => ih (v :: acc) ρ h R
        | some true => match tySize P t with
          | some n => vK (ldsV n h (ρ a)) fun v => ih (v :: acc) ρ h R
          | none => False
        | none => False) rs
theorem retK_nil {P : Program} {acc : List Value} {ρ : Env} {h : Heap} {R : Value → Heap → Prop} : retK P [] acc ρ h R = R (match acc with | [v] => v | l => .tuple l.reverse.toArray) h := rfl
theorem retK_tmp {P : Program} {t : Tmp} {rs : List ResultVar} {acc : List Value} {ρ : Env} {h : Heap} {R : Value → Heap → Prop} : retK P (.tmp t :: rs) acc ρ h R = retK P rs (ρ t :: acc) ρ h R := rfl
theorem retK_cell {P : Program} {a : Tmp} {t : TypeId} {rs : List ResultVar} {acc : List Value} {ρ : Env} {h : Heap} {R : Value → Heap → Prop} : retK P (.cell a t :: rs) acc ρ h R = match tyAgg P t with
    | some false => vK (ldV h (ρ a)) fun v => retK P rs (v :: acc) ρ h R
    | some true => match tySize P t with
      | some n => vK (ldsV n h (ρ a)) fun v => retK P rs (v :: acc) ρ h R
      | none => False
    | none => False := rfl

def envOf (args : List Value) : Env := fun t => args.getD t undef

/-- What a function of this code does, called so. -/
noncomputable def cFunc (P : Program) (c : Code) (an : Ann) (rs : List ResultVar) (args : List Value) (h : Heap) (R : Value → Heap → Prop) : Prop :=
  cCode P c an (envOf args) h fun e ρ h => match e with
    | .nx => retK P rs [] ρ h R
    | .rt => retK P rs [] ρ h R
    | .br _ => False

theorem run_results {P : Program} {w : World} {R : Value → Heap → Prop} {tmps : Array Value} : ∀ (rs : List ResultVar) (acc : List Value), retK P rs acc (fun t => tmps.getD t undef) w.heap R →
    ∃ l, (rs.mapM (fun | .tmp t => pure (tmps.getD t undef) | .cell a t => do loadVar t (← asAddr (tmps.getD a undef)) : ResultVar → Sem Value)).run P w = .ok l w ∧ R (match l.reverse ++ acc with | [v] => v | l => .tuple l.reverse.toArray) w.heap
  | [], acc, h => ⟨[], rfl, by rw [retK_nil] at h; simpa using h⟩
  | .tmp t :: rs, acc, h => by
    rw [retK_tmp] at h
    obtain ⟨l, h1, h2⟩ := run_results rs (tmps.getD t undef :: acc) h
    refine ⟨tmps.getD t undef :: l, ?_, by simpa using h2⟩
    simp only [List.mapM_cons, Sem.run_bind, Sem.run_pure, Result.andThen_ok, h1]
  | .cell a t :: rs, acc, h => by
    rw [retK_cell] at h
    cases hta : tyAgg P t with
    | none => simp [hta] at h
    | some b =>
      simp only [hta] at h
      have key : ∀ v, (∃ ad, tmps.getD a undef = .pointer (some ad) ∧ (loadVar t ad).run P w = .ok v w) → retK P rs (v :: acc) (fun t => tmps.getD t undef) w.heap R → ∃ l, ((ResultVar.cell a t :: rs).mapM (fun | .tmp t => pure (tmps.getD t undef) | .cell a t => do loadVar t (← asAddr (tmps.getD a undef)) : ResultVar → Sem Value)).run P w = .ok l w ∧ R (match l.reverse ++ acc with | [v] => v | l => .tuple l.reverse.toArray) w.heap := by
        intro v ⟨ad, hp, hl⟩ h
        obtain ⟨l, h1, h2⟩ := run_results rs (v :: acc) h
        refine ⟨v :: l, ?_, by simpa using h2⟩
        have has : (asAddr (tmps.getD a undef)).run P w = .ok ad w := by rw [hp]; rfl
        simp only [List.mapM_cons, Sem.run_bind, Sem.run_pure, Result.andThen_ok, has, hl, h1]
      cases b with
      | false =>
        simp only at h
        unfold vK at h
        split at h
        · rename_i v hv
          refine key v ?_ h
          unfold ldV at hv
          split at hv
          · rename_i ad hp
            exact ⟨ad, hp, run_loadVar_one hta hv⟩
          · cases hv
        · exact h.elim
      | true =>
        simp only at h
        cases hs : tySize P t with
        | none => simp [hs] at h
        | some n =>
          simp only [hs] at h
          unfold vK at h
          split at h
          · rename_i v hv
            refine key v ?_ h
            unfold ldsV at hv
            split at hv
            · rename_i ad hp
              cases hl : loadsOf w.heap ad 0 n with
              | none => simp [hl] at hv
              | some l =>
                simp only [hl, Option.map_some, Option.some.injEq] at hv
                subst hv
                exact ⟨ad, hp, run_loadVar_agg hta hs hl⟩
            · cases hv
          · exact h.elim

theorem results_of {P : Program} {ρ : Env} {w : World} {R : Value → Heap → Prop} {fn : Func} {tmps : Array Value} (ht : ∀ t, tmps.getD t undef = ρ t) (h : retK P fn.results.toList [] ρ w.heap R) :
    ∃ v, (results fn tmps).run P w = .ok v w ∧ R v w.heap := by
  obtain rfl : ρ = fun t => tmps.getD t undef := funext fun t => (ht t).symm
  obtain ⟨l, h1, h2⟩ := run_results _ [] h
  have e : (fn.results.mapM (fun | .tmp t => pure (tmps.getD t undef) | .cell a t => do loadVar t (← asAddr (tmps.getD a undef)) : ResultVar → Sem Value)).run P w = .ok l.toArray w := by
    rw [Array.mapM_eq_mapM_toList, Sem.run_map, h1]; rfl
  have hres : results fn tmps = (do
    let vs ← fn.results.mapM (fun | .tmp t => pure (tmps.getD t undef) | .cell a t => do loadVar t (← asAddr (tmps.getD a undef)) : ResultVar → Sem Value)
    pure (if h : vs.size = 1 then vs[0] else .tuple vs)) := rfl
  rw [hres]
  simp only [Sem.run_bind]
  rw [e]
  simp only [Result.andThen_ok, Sem.run_pure]
  refine ⟨_, rfl, ?_⟩
  cases l with
  | nil => simpa using h2
  | cons v l =>
    cases l with
    | nil => simpa using h2
    | cons u l =>
      have : ¬ ((v :: u :: l).toArray.size = 1) := by simp
      rw [dif_neg this]
      simp only [List.append_nil] at h2
      split at h2
      · rename_i hh
        have := congrArg List.length hh
        simp at this
      · simpa using h2

theorem fcall_of {P : Program} [FlatOk P] (hm : P.follows .mixedOrders = true) {f : FuncId} {fn : Func} {c : Code} {an : Ann} (hf : P.funcs[f]? = some fn) (hb : fn.body = some c) (hc : okCallee P f = true)
    (hok : okCode fn.ntmps c an = true) {args : Array Value} (ha : Nat.ble args.size fn.ntmps = true) {h : Heap} {R : Value → Heap → Prop} (H : cFunc P c an fn.results.toList args.toList h R) : FCall P f args h R := by
  refine FCall.ofCalls hc fun w hw => ?_
  subst hw
  have ha' : args.size ≤ fn.ntmps := by simpa using ha
  have hr : Rel fn.ntmps { tmps := args ++ Array.replicate (fn.ntmps - args.size) undef, defers := [] } (envOf args.toList) := by
    refine ⟨by simp; omega, rfl, fun t => ?_⟩
    simp only [envOf, Array.getD_eq_getD_getElem?, List.getD_eq_getElem?_getD, Array.getElem?_append, Array.getElem?_toList]
    split
    · rfl
    · rw [Array.getElem?_replicate, Array.getElem?_eq_none (by omega)]
      split <;> rfl
  refine calls_of_wp hf hb (wp_mono (cCode_sound hm c an _ _ w _ hok hr H) ?_)
  intro e a' w' ⟨ρ2, g1, _, g3, g4⟩
  have fin : retK P fn.results.toList [] ρ2 w'.heap R → a'.defers = [] ∧ ∃ v, (results fn a'.tmps).run P w' = .ok v w' ∧ ∃ u, Ending.returned v = .returned u ∧ Same w w' ∧ R u w'.heap := by
    intro hret
    obtain ⟨v, h1, h2⟩ := results_of g1.2.2 hret
    exact ⟨g1.2.1, v, h1, v, rfl, g3, h2⟩
  cases e with
  | normal => exact fin g4
  | ret => exact fin g4
  | exit id => exact g4.elim
  | _ => exact g4.elim
end Go.Crisp
