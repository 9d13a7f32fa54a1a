/- The engine, first part: what each operation of the program does, over the heap alone, as plain functions; each is shown to be what the model's operation does. Conditions: none. -/
import Derived.Orders
import Derived.OrdersHeld
import Derived.Deep.Quiet
import Derived.Calls
import Derived.Laws.Sem
import Derived.Laws.World
import Derived.Laws.StructEq
import Derived.Tactics
set_option linter.unusedVariables false
set_option linter.unusedSimpArgs false
namespace Go.Crisp
open Go

abbrev Heap := Array Obj
abbrev Env := Nat → Value
abbrev OpSem := Heap → (Value → Heap → Prop) → Prop

/-- Of two worlds only the heap and the count of draws may part. -/
def Same (w w' : World) : Prop := w'.os = w.os ∧ w'.tape = w.tape ∧ w'.output = w.output
theorem Same.refl (w : World) : Same w w := ⟨rfl, rfl, rfl⟩
theorem Same.trans {a b c : World} (h : Same a b) (k : Same b c) : Same a c := ⟨k.1.trans h.1, k.2.1.trans h.2.1, k.2.2.trans h.2.2⟩

def ev (ρ : Env) : Operand → Value
  | .tmp t => ρ t
  | .const v => v
  | .global g => .pointer (some ⟨g, 0, none⟩)
  | .func f => .func (.func f) #[] #[]

def up (ρ : Env) (d : Option Tmp) (v : Value) : Env :=
  match d with
  | some d => fun t => match Nat.beq t d with
    | true => v
    | false => ρ t
  | none => ρ

/-! ### the heap's words -/
def cellOf (h : Heap) (a : Addr) : Option Value :=
  match h[a.block]? with
  | some (.cells c _ _) => if a.spot.isSome then none else c[a.off]?
  | _ => none

def frozenOf (h : Heap) (a : Addr) : Bool :=
  match h[a.block]? with
  | some (.cells _ _ (lo, hi)) => lo ≤ a.off && a.off < hi
  | _ => false

def setCellH (h : Heap) (a : Addr) (v : Value) : Heap :=
  h.modify a.block fun
    | .cells c elem frozen => .cells (if a.spot.isSome then c else c.setIfInBounds a.off v) elem frozen
    | o => o

def loadsOf (h : Heap) (a : Addr) : Nat → Nat → Option (List Value)
  | _, 0 => some []
  | i, n + 1 => match cellOf h (a.add i) with
    | some v => match loadsOf h a (i + 1) n with
      | some l => some (v :: l)
      | none => none
    | none => none

def oneCell : Value → Bool
  | .agg _ | .tuple _ => false
  | _ => true

def storesOf (h : Heap) (a : Addr) : Nat → List Value → Option Heap
  | _, [] => some h
  | i, v :: l =>
    match cellOf h (a.add i) with
    | some _ => bif oneCell v && !frozenOf h (a.add i) then storesOf (setCellH h (a.add i) v) a (i + 1) l else none
    | none => none

/-! ### operations that only read: what they yield -/
/-- How the parts of a struct are compared: truths, numbers, structs of such. -/
inductive SE where
  | b | i
  | st (fs : List (Nat × Nat × SE))

/-- What is compared how. -/
inductive EK where
  | b | i | s | p | sl | m | f | o
  | st (fs : List (Nat × Nat × SE))

def seFs (f : TypeId → Option SE) (sz : TypeId → Option Nat) : List Field → Option (List (Nat × Nat × SE))
  | [] => some []
  | fd :: fs => match f fd.type with
    | none => none
    | some e => match sz fd.type with
      | none => none
      | some n => match seFs f sz fs with
        | none => none
        | some l => some ((fd.offset, n, e) :: l)
/-- A plain struct: what '==' asks of its type. -/
def flatT (P : Program) (fs : Array Field) (t : TypeId) : Bool := !P.stoodInHeld t && (!P.eqGuardType P.depth t && fs.toList.all fun f => f.name != "_")
def seOf (P : Program) : Nat → TypeId → Option SE
  | 0, _ => none
  | d + 1, t => match P.underlying t with
    | some .bool => some .b
    | some (.int _) => some .i
    | some (.struct fs) => match flatT P fs t with
      | true => match seFs (seOf P d) (fun t => (P.info? t).map (·.size)) fs.toList with
        | some l => some (.st l)
        | none => none
      | false => none
    | _ => none

def ekOf (P : Program) (t : TypeId) : EK :=
  match P.underlying t with
  | some .bool => .b
  | some (.int _) => .i
  | some .string => .s
  | some (.pointer _) => .p
  | some (.slice _) => .sl
  | some (.map _ _) => .m
  | some (.func _ _ _) => .f
  | some (.struct _) => match seOf P 4 t with
    | some (.st l) => .st l
    | _ => .o
  | _ => .o

def seAgg : SE → Bool
  | .st _ => true
  | _ => false
mutual
def seEq : SE → Value → Value → Option Bool
  | .b, .bool a, .bool b => some (a == b)
  | .i, .int k a, .int k' b => if k = k' then some (a == b) else none
  | .st fs, .agg xs, .agg ys => seEqL fs xs ys
  | _, _, _ => none
def seEqL : List (Nat × Nat × SE) → Array Value → Array Value → Option Bool
  | [], _, _ => some true
  | (o, n, e) :: fs, xs, ys =>
    match (bif seAgg e then some (.agg (xs.extract o (o + n))) else xs[o]?), (bif seAgg e then some (.agg (ys.extract o (o + n))) else ys[o]?) with
    | some a, some b => match seEq e a b with
      | some true => seEqL fs xs ys
      | some false => some false
      | none => none
    | _, _ => none
end

def eqV (e : EK) (x y : Value) : Option Bool :=
  match e, x, y with
  | .b, .bool a, .bool b => some (a == b)
  | .p, .pointer none, .pointer b => some b.isNone
  | .p, .pointer (some _), .pointer none => some false
  | .sl, .slice none _ _, .slice b _ _ => some b.isNone
  | .sl, .slice (some _) _ _, .slice none _ _ => some false
  | .m, .map none, .map b => some b.isNone
  | .m, .map (some _), .map none => some false
  | .f, .nilFunc, .nilFunc => some true
  | .f, .nilFunc, .func _ _ _ => some false
  | .f, .func _ _ _, .nilFunc => some false
  | .st fs, .agg xs, .agg ys => seEqL fs xs ys
  | _, _, _ => none

/-- The program's structs that are compared so are plain ones. -/
def flatOkB (P : Program) : Bool := true
class FlatOk (P : Program) : Prop where
  ok : flatOkB P = true

def intV (op : BinOp) (k : IntKind) (a b : Int) : Option Value :=
  match op with
  | .add => some (.int k (k.wrap (a + b)))
  | .sub => some (.int k (k.wrap (a - b)))
  | .mul => some (.int k (k.wrap (a * b)))
  | .quo => if b = 0 then none else some (.int k (k.wrap (a.tdiv b)))
  | .rem => if b = 0 then none else some (.int k (a.tmod b))
  | .and => some (.int k (k.wrap (BitVec.ofInt k.bits a &&& BitVec.ofInt k.bits b).toNat))
  | .or => some (.int k (k.wrap (BitVec.ofInt k.bits a ||| BitVec.ofInt k.bits b).toNat))
  | .xor => some (.int k (k.wrap (BitVec.ofInt k.bits a ^^^ BitVec.ofInt k.bits b).toNat))
  | .andNot => some (.int k (k.wrap (BitVec.ofInt k.bits a &&& ~~~ BitVec.ofInt k.bits b).toNat))
  | .eql => some (.bool (a == b))
  | .neq => some (.bool (a != b))
  | .lss => some (.bool (a < b))
  | .leq => some (.bool (a ≤ b))
  | .gtr => some (.bool (b < a))
  | .geq => some (.bool (b ≤ a))
  | _ => none

def strV (op : BinOp) (x y : ByteArray) : Option Value :=
  match op with
  | .add => if ((x.size + y.size : Nat) : Int) > IntKind.i64.max then none else some (.string (x ++ y))
  | .eql => some (.bool (x.toList == y.toList))
  | .neq => some (.bool !(x.toList == y.toList))
  | _ => none

def binV (e : EK) (op : BinOp) (x y : Value) : Option Value :=
  match x, y with
  | .int k a, .int k' b =>
    match op with
    | .shl => if b < 0 then none else some (.int k (k.wrap (a * 2 ^ (min b.toNat k.bits))))
    | .shr => if b < 0 then none else some (.int k (a.fdiv (2 ^ (min b.toNat k.bits))))
    | op => if k = k' then intV op k a b else none
  | .string a, .string b => strV op a b
  | x, y =>
    match op with
    | .eql => (eqV e x y).map .bool
    | .neq => (eqV e x y).map fun b => .bool !b
    | _ => none

def unV (op : UnOp) (x : Value) : Option Value :=
  match op, x with
  | .neg, .int k n => some (.int k (k.wrap (0 - n)))
  | .xor, .int k n => some (.int k (k.wrap (BitVec.ofInt k.bits (if k.signed then -1 else k.max) ^^^ BitVec.ofInt k.bits n).toNat))
  | .not, .bool b => some (.bool !b)
  | _, _ => none

def pickV (c x y : Value) : Option Value :=
  match c with
  | .bool b => some (bif b then x else y)
  | _ => none

def nilV : Value → Option Value
  | .pointer none | .nilIface | .nilFunc => none
  | .func (.method _) _ _ => none
  | x => some x

def ldV (h : Heap) (x : Value) : Option Value :=
  match x with
  | .pointer (some a) => cellOf h a
  | _ => none

def ldsV (n : Nat) (h : Heap) (x : Value) : Option Value :=
  match x with
  | .pointer (some a) => (loadsOf h a 0 n).map fun l => .agg l.toArray
  | _ => none

def fldV (off : Nat) (x : Value) : Option Value :=
  match x with
  | .pointer (some a) => some (.pointer (some (a.add off)))
  | _ => none

/-- A field of a value that isn't in memory. -/
def partV (agg : Bool) (size off : Nat) (x : Value) : Option Value :=
  match x with
  | .agg cs => bif agg then some (.agg (cs.extract off (off + size))) else cs[off]?
  | _ => none

def idxV (size : Nat) (x i : Value) : Option Value :=
  match x, i with
  | .slice (some a) len _, .int _ i => if 0 ≤ i ∧ i < (len : Int) then some (.pointer (some (a.add (i.toNat * size)))) else none
  | _, _ => none

/-- An element's place in an array that a pointer leads to. -/
def idxaV (len size : Nat) (x i : Value) : Option Value :=
  match x, i with
  | .pointer (some a), .int _ i => if 0 ≤ i ∧ i < (len : Int) then some (.pointer (some (a.add (i.toNat * size)))) else none
  | _, _ => none

/-- A byte of a string. -/
def indV (x i : Value) : Option Value :=
  match x, i with
  | .string s, .int _ i => (if 0 ≤ i then s[i.toNat]? else none).map fun b => .int .u8 b.toNat
  | _, _ => none

def extV (x : Value) (i : Nat) : Option Value :=
  match x with
  | .tuple vs => vs[i]?
  | _ => none

def cviV (k : IntKind) (x : Value) : Option Value :=
  match x with
  | .int _ n => some (.int k (k.wrap n))
  | _ => none

/-- A number as the text of its rune. -/
def cvrsV (x : Value) : Option Value :=
  match x with
  | .int _ n => some (.string (Utf8.encode n))
  | _ => none

def lenslV (x : Value) : Option Value :=
  match x with
  | .slice _ n _ => some (.int .i64 n)
  | _ => none

def lenstV (x : Value) : Option Value :=
  match x with
  | .string s => some (.int .i64 s.size)
  | _ => none

def lenmV (h : Heap) (x : Value) : Option Value :=
  match x with
  | .map none => some (.int .i64 0)
  | .map (some r) => match h[r]? with
    | some (.map es _) => some (.int .i64 es.size)
    | _ => none
  | _ => none

def maxV (x y : Value) : Option Value :=
  match x, y with
  | .int k a, .int _ b => some (.int k (if b > a then b else a))
  | _, _ => none
def minV (x y : Value) : Option Value :=
  match x, y with
  | .int k a, .int _ b => some (.int k (if b < a then b else a))
  | _, _ => none

def max3V (x y z : Value) : Option Value :=
  match maxV x y with
  | some a => maxV a z
  | none => none
def min3V (x y z : Value) : Option Value :=
  match minV x y with
  | some a => minV a z
  | none => none

/-- A slice's bound: a number, or what stands for it. -/
def bdV (x : Option Value) (d : Nat) (most : Nat) : Option Nat :=
  match x with
  | none => some d
  | some (.int _ i) => if 0 ≤ i ∧ i ≤ (most : Int) then some i.toNat else none
  | some _ => none

def slcV (size : Nat) (x : Value) (lo hi : Option Value) : Option Value :=
  match x with
  | .slice a len cap => match bdV hi len cap with
    | some h => match bdV lo 0 h with
      | some l => some (.slice (if cap = l then a else a.map (·.add (l * size))) (h - l) (cap - l))
      | none => none
    | none => none
  | _ => none

def slsV (x : Value) (lo hi : Option Value) : Option Value :=
  match x with
  | .string s => match bdV hi s.size s.size with
    | some h => match bdV lo 0 h with
      | some l => some (.string (s.extract l h))
      | none => none
    | none => none
  | _ => none

/-- Goes on with what there is. -/
def vK (r : Option Value) (K : Value → Prop) : Prop :=
  match r with
  | some v => K v
  | none => False

/-! ### what an operation is, over the heap -/
def tyAgg (P : Program) (t : TypeId) : Option Bool :=
  (P.underlying t).map fun
    | .struct _ | .array _ _ => true
    | _ => false

def tySize (P : Program) (t : TypeId) : Option Nat := (P.info? t).map (·.size)
def tyZero (P : Program) (t : TypeId) : Option Value := (P.info? t).bind (·.zero)

/-- An int's kind, for a map's keys. -/
def keyDesc (P : Program) (t : TypeId) : Option TypeDesc :=
  match P.underlying t with
  | some (.int k) => some (.int k)
  | some .bool => some .bool
  | some .string => some .string
  | _ => none

def mapAt (h : Heap) (m : Value) : Option (Array MapEntry × Nat) :=
  match m with
  | .map (some r) => match h[r]? with
    | some (.map es c) => some (es, c)
    | _ => none
  | _ => none

def lookV (kd : TypeDesc) (zero : Value) (ok : Bool) (h : Heap) (m k : Value) : Option Value :=
  match m with
  | .map none => some (bif ok then .tuple #[zero, .bool false] else zero)
  | m => match mapAt h m with
    | none => none
    | some (es, _) => match Instr.findNow kd k es.toList 0 with
      | some (some (_, v)) => some (bif ok then .tuple #[v, .bool true] else v)
      | some none => some (bif ok then .tuple #[zero, .bool false] else zero)
      | none => none

def fillL (cells : Array Value) : List (Nat × Nat × Value) → Option (Array Value)
  | [] => some cells
  | (off, size, v) :: rest =>
    if v.cells.size ≠ size || off + v.cells.size > cells.size then none
    else fillL (v.cells.zipIdx.foldl (fun cs (c, j) => cs.setIfInBounds (off + j) c) cells) rest

def placesL (P : Program) : List Field → Option (List (Nat × Nat))
  | [] => some []
  | f :: fs => match tySize P f.type with
    | none => none
    | some s => match placesL P fs with
      | none => none
      | some l => some ((f.offset, s) :: l)

/-- The places of a struct's fields, or of an array's cells. -/
def placesOf (P : Program) (t : TypeId) : Option (Nat → Option (Nat × Nat)) :=
  match P.underlying t with
  | some (.struct fs) => (placesL P fs.toList).map fun l => fun i => l[i]?
  | some (.array _ e) => (tySize P e).map fun s => fun i => some (i * s, s)
  | _ => none

def partsL (pl : Nat → Option (Nat × Nat)) (ρ : Env) : List (Nat × Operand) → Option (List (Nat × Nat × Value))
  | [] => some []
  | (i, x) :: rest => match pl i with
    | none => none
    | some (o, s) => match partsL pl ρ rest with
      | none => none
      | some l => some ((o, s, ev ρ x) :: l)

/-- Builtins that only read. -/
def roB (P : Program) (b : Builtin) (args : List Value) (ts : List TypeId) (h : Heap) : Option (Option Value) :=
  match b with
  | .len => match args, ts with
    | [x], [t] => match P.underlying t with
      | some (.slice _) => some (lenslV x)
      | some .string => some (lenstV x)
      | some (.map _ _) => some (lenmV h x)
      | _ => none
    | _, _ => none
  | .max => match args with
    | [x, y] => some (maxV x y)
    | [x, y, z] => some (max3V x y z)
    | _ => none
  | .min => match args with
    | [x, y] => some (minV x y)
    | [x, y, z] => some (min3V x y z)
    | _ => none
  | _ => none

/-- Operations that only read. -/
def roV (P : Program) (ρ : Env) (op : Op) (h : Heap) : Option (Option Value) :=
  match op with
  | .move x | .assign x => some (some (ev ρ x))
  | .pick c x y => some (pickV (ev ρ c) (ev ρ x) (ev ρ y))
  | .load t x => match tyAgg P t with
    | some false => some (ldV h (ev ρ x))
    | some true => match tySize P t with
      | some n => some (ldsV n h (ev ρ x))
      | none => none
    | none => none
  | .nilCheck x => some (nilV (ev ρ x))
  | .binOp op t x y _ => match ekOf P t with
    | .o => none
    | e => some (binV e op (ev ρ x) (ev ρ y))
  | .unOp op _ x => some (unV op (ev ρ x))
  | .convert s d x => match P.underlying s, P.underlying d with
    | some (.int _), some (.int k) => some (cviV k (ev ρ x))
    | some (.int _), some .string => some (cvrsV (ev ρ x))
    | _, _ => none
  | .slice t x lo hi none => match P.underlying t with
    | some (.slice e) => match tySize P e with
      | some n => some (slcV n (ev ρ x) (lo.map (ev ρ)) (hi.map (ev ρ)))
      | none => none
    | some .string => some (slsV (ev ρ x) (lo.map (ev ρ)) (hi.map (ev ρ)))
    | _ => none
  | .fieldAddr s x f => match P.underlying s with
    | some (.struct fs) => match fs[f]? with
      | some fd => match tySize P fd.type with
        | some 0 => none
        | some (_ + 1) => some (fldV fd.offset (ev ρ x))
        | none => none
      | none => none
    | _ => none
  | .field t x f => match P.underlying t with
    | some (.struct fs) => match fs[f]? with
      | some fd => match tyAgg P fd.type, tySize P fd.type with
        | some b, some n => some (partV b n fd.offset (ev ρ x))
        | _, _ => none
      | none => none
    | _ => none
  | .indexAddr t x i => match P.underlying t with
    | some (.slice e) => match tySize P e with
      | some n => some (idxV n (ev ρ x) (ev ρ i))
      | none => none
    | some (.array len e) => match tySize P e with
      | some n => some (idxaV len n (ev ρ x) (ev ρ i))
      | none => none
    | _ => none
  | .index t x i => match P.underlying t with
    | some .string => some (indV (ev ρ x) (ev ρ i))
    | _ => none
  | .extract t i => some (extV (ev ρ t) i)
  | .makeInterface t x => match P.underlying t with
    | some (.interface _) => none
    | some _ => some (some (.iface t (ev ρ x)))
    | none => none
  | .makeFunc fn first captured => some (some (.func fn (first.map (ev ρ)) (captured.map (ev ρ))))
  | .lookup t x k ok => match P.underlying t with
    | some (.map kt et) => match keyDesc P kt, tyZero P et with
      | some kd, some z => some (lookV kd z ok h (ev ρ x) (ev ρ k))
      | _, _ => none
    | _ => none
  | .build t parts => match tyZero P t, placesOf P t with
    | some z, some pl => match partsL pl ρ parts.toList with
      | some l => some ((fillL z.cells l).map .agg)
      | none => none
    | _, _ => none
  | .call c => match c.callee with
    | .builtin b => roB P b (c.args.map (ev ρ)).toList c.argTypes.toList h
    | _ => none
  | _ => none

section
variable {P : Program} {ρ : Env} {w : World}

theorem run_sizeOf' {t : TypeId} {n : Nat} (h : tySize P t = some n) : (sizeOf t).run P w = .ok n w := by
  unfold tySize at h
  cases hi : P.info? t with
  | none => simp [hi] at h
  | some i => simp [hi] at h; simp [sizeOf, typeInfo, hi, h]

theorem run_isAgg' {t : TypeId} {b : Bool} (h : tyAgg P t = some b) : (isAgg t).run P w = .ok b w := by
  unfold tyAgg at h
  cases hi : P.underlying t with
  | none => simp [hi] at h
  | some d =>
    simp only [hi, Option.map_some, Option.some.injEq] at h
    subst h
    simp only [isAgg, Sem.run_bind, run_underlying hi, Result.andThen_ok]
    cases d <;> rfl

theorem run_zeroValue' {t : TypeId} {z : Value} (h : tyZero P t = some z) : (zeroValue t).run P w = .ok z w := by
  unfold tyZero at h
  cases hi : P.info? t with
  | none => simp [hi] at h
  | some i => simp [hi] at h; simp [zeroValue, typeInfo, hi, h]

theorem cell?_eq (a : Addr) : w.cell? a = cellOf w.heap a := rfl

theorem run_load' {a : Addr} {v : Value} (h : cellOf w.heap a = some v) : (load a).run P w = .ok v w := by
  have : w.cell? a = some v := h
  simp [this]

theorem run_loadsOf (a : Addr) : ∀ (n i : Nat) (acc : Array Value) (l : List Value), loadsOf w.heap a i n = some l → (loadCellsFrom a i n acc).run P w = .ok (acc ++ l.toArray) w
  | 0, i, acc, l, h => by
    simp [loadsOf] at h; subst h; simp [loadCellsFrom]
  | n + 1, i, acc, l, h => by
    unfold loadsOf at h
    cases h1 : cellOf w.heap (a.add i) with
    | none => simp [h1] at h
    | some v =>
      simp only [h1] at h
      cases h2 : loadsOf w.heap a (i + 1) n with
      | none => simp [h2] at h
      | some l' =>
        simp only [h2, Option.some.injEq] at h
        subst h
        have := run_loadsOf a n (i + 1) (acc.push v) l' h2
        simp only [loadCellsFrom, Sem.run_bind, run_load' h1, Result.andThen_ok, this]
        congr 1
        apply Array.ext'
        simp

theorem run_loadVar_one {t : TypeId} {a : Addr} {v : Value} (ht : tyAgg P t = some false) (h : cellOf w.heap a = some v) : (loadVar t a).run P w = .ok v w := by
  simp [loadVar, run_isAgg' ht]; simpa using run_load' (P := P) h

theorem run_loadVar_agg {t : TypeId} {a : Addr} {n : Nat} {l : List Value} (ht : tyAgg P t = some true) (hs : tySize P t = some n) (h : loadsOf w.heap a 0 n = some l) :
    (loadVar t a).run P w = .ok (.agg l.toArray) w := by
  have := run_loadsOf (P := P) a n 0 #[] l h
  simp [loadVar, run_isAgg' ht, run_sizeOf' hs, loadCells, this]

theorem run_part' {t : TypeId} {b : Bool} {n off : Nat} {cs : Array Value} {v : Value} (ht : tyAgg P t = some b) (hs : tySize P t = some n) (h : partV b n off (.agg cs) = some v) :
    (part t cs off).run P w = .ok v w := by
  simp only [partV] at h
  simp only [part, Sem.run_bind, run_isAgg' ht, Result.andThen_ok]
  cases b
  · simp at h
    simp [h]
  · simp at h
    simp [run_sizeOf' hs, h]

theorem run_sliceBound' {x : Value} {most n : Nat} (c : BoundsCode) (d : Nat) (h : bdV (some x) d most = some n) : (Instr.sliceBound x most c).run P w = .ok n w := by
  unfold bdV at h
  cases x <;> simp at h
  rename_i k i
  obtain ⟨h1, rfl⟩ := h
  simp [Instr.sliceBound, asIntOf, h1]

theorem run_sliceBounds' {b : Bool} {len cap l h : Nat} {lo hi : Option Value} (hh : bdV hi len cap = some h) (hl : bdV lo 0 h = some l) :
    (Instr.sliceBounds b len cap lo hi none).run P w = .ok (l, h, cap) w := by
  unfold Instr.sliceBounds
  cases hi with
  | none =>
    simp [bdV] at hh; subst hh
    cases lo with
    | none => simp [bdV] at hl; subst hl; simp
    | some x => simp [run_sliceBound' _ _ hl]
  | some y =>
    cases lo with
    | none => simp [bdV] at hl; subst hl; simp [run_sliceBound' _ _ hh]
    | some x => simp [run_sliceBound' _ _ hh, run_sliceBound' _ _ hl]

theorem run_intV {op : BinOp} {k : IntKind} {a b : Int} {v : Value} (h : intV op k a b = some v) (hs : op ≠ .shl ∧ op ≠ .shr) (t : TypeId) :
    (binOp op t (.int k a) (.int k b)).run P w = .ok v w := by
  cases op <;> simp_all [intV, binOp, Op.intArith, Op.intDiv, Op.intBits, Op.intCmp]

theorem flat_at [FlatOk P] {t : TypeId} {d : Nat} {fs : Array Field} {e : SE} (hu : P.underlying t = some (.struct fs)) (hd : d < 5) (he : seOf P d t = some e) :
    P.stoodInHeld t = false ∧ P.eqGuardType P.depth t = false ∧ ∀ f ∈ fs.toList, f.name ≠ "_" := by
  have h1 : flatT P fs t = true := by
    cases d with
    | zero => cases he
    | succ d =>
      unfold seOf at he
      rw [hu] at he
      simp only at he
      split at he
      · rename_i hb; exact hb
      · cases he
  unfold flatT at h1
  simp only [Bool.and_eq_true, Bool.not_eq_true', List.all_eq_true, bne_iff_ne, ne_eq] at h1
  exact ⟨h1.1, h1.2.1, h1.2.2⟩

theorem seOf_agg : ∀ {d : Nat} {t : TypeId} {e : SE}, seOf P d t = some e → tyAgg P t = some (seAgg e)
  | 0, _, _, h => by cases h
  | d + 1, t, e, h => by
    unfold seOf at h
    unfold tyAgg
    split at h
    · rename_i hu; cases h; rw [hu]; rfl
    · rename_i hu; cases h; rw [hu]; rfl
    · rename_i hu
      split at h
      · split at h
        · cases h; rw [hu]; rfl
        · cases h
      · cases h
    · cases h

theorem run_seEq [FlatOk P] : ∀ (d : Nat), d < 5 → ∀ (k : Nat), d ≤ k → ∀ (t : TypeId) (e : SE) (x y : Value) (b : Bool), seOf P d t = some e → seEq e x y = some b → (Op.equalIn k t x y).run P w = .ok b w
  | 0, _, _, _, _, _, _, _, _, h, _ => by cases h
  | d + 1, hd, k, hk, t, e, x, y, b, h, hq => by
    obtain ⟨k, rfl⟩ : ∃ m, k = m + 1 := ⟨k - 1, by omega⟩
    have h' := h
    unfold seOf at h
    split at h
    · rename_i hu
      cases h
      unfold seEq at hq
      split at hq <;> simp_all
      subst hq
      exact run_equalIn_bool' _ _ _ _ _ hu
    · rename_i hu
      cases h
      unfold seEq at hq
      split at hq <;> simp_all
      obtain ⟨rfl, rfl⟩ := hq
      exact run_equalIn_int _ _ _ _ _ _ _ hu
    · rename_i fs hu
      split at h
      · split at h
        case h_2 => cases h
        rename_i l hl
        cases h
        have hf := flat_at hu hd h'
        unfold seEq at hq
        split at hq <;> try (simp at * ; done)
        rename_i fs' xs ys hfs
        cases hfs
        have hfo : P.fieldsOf t = fs := by unfold Program.fieldsOf; rw [hu]
        rw [run_equalIn_struct w k t xs ys (by rw [hfo]; exact hu) hf.1, hfo]
        have names := hf.2.2
        clear hfo hu h' hf
        generalize fs.toList = gs at hl names
        induction gs generalizing l b with
        | nil =>
          simp only [seFs, Option.some.injEq] at hl
          subst hl
          simp only [seEqL, Option.some.injEq] at hq
          subst hq
          rfl
        | cons f gs ih =>
          unfold seFs at hl
          split at hl
          · cases hl
          · rename_i e he
            split at hl
            · cases hl
            · rename_i n hn
              split at hl
              · cases hl
              · rename_i l' hl'
                cases hl
                unfold seEqL at hq
                split at hq
                · rename_i a b' ha hb
                  have pa := run_part' (P := P) (w := w) (seOf_agg he) hn (off := f.offset) (cs := xs) (v := a) (by simpa [partV] using ha)
                  have pb := run_part' (P := P) (w := w) (seOf_agg he) hn (off := f.offset) (cs := ys) (v := b') (by simpa [partV] using hb)
                  have nm := names f (List.mem_cons_self ..)
                  unfold Op.eqFields
                  rw [if_pos nm]
                  simp only [Sem.run_bind, pa, pb, Result.andThen_ok]
                  split at hq
                  · rename_i hs
                    rw [run_seEq d (by omega) k (by omega) _ _ _ _ _ he hs]
                    simp only [Result.andThen_ok, Bool.not_true, Bool.false_eq_true, if_false]
                    exact ih b l' hq hl' fun g hg => names g (List.mem_cons_of_mem _ hg)
                  · rename_i hs
                    cases hq
                    rw [run_seEq d (by omega) k (by omega) _ _ _ _ _ he hs]
                    rfl
                  · cases hq
                · cases hq
      · cases h
    · cases h

theorem eqV_shape {e : EK} {x y : Value} {b : Bool} (hs : ∀ fs, e ≠ .st fs) (h : eqV e x y = some b) : (∀ c, x ≠ .agg c) ∧ x ≠ .nilIface := by
  unfold eqV at h
  split at h <;> simp_all

theorem run_eqGuard {op : BinOp} {t : TypeId} {x y : Value} (x' y' : Operand) (h : (∀ c, x ≠ .agg c) ∧ x ≠ .nilIface) : (eqGuard op t x' y' x y).run P w = .ok () w := by
  unfold eqGuard
  cases op <;> (try rfl) <;> (simp only [Bool.not_true, Bool.false_eq_true, if_false]; cases x <;> first | rfl | simp_all)

theorem run_eqV {e : EK} {t : TypeId} {x y : Value} {b : Bool} (he : ekOf P t = e) (ho : e ≠ .o) (hs : ∀ fs, e ≠ .st fs) (h : eqV e x y = some b) : (Op.equal t x y).run P w = .ok b w := by
  unfold ekOf at he
  cases hu : P.underlying t with
  | none => simp [hu] at he; exact absurd he.symm ho
  | some d =>
    simp only [hu] at he
    unfold Op.equal Op.maxDepth
    rw [show (10000 : Nat) = 9999 + 1 from rfl]
    unfold Op.equalIn
    simp only [Sem.run_bind, run_underlying hu, Result.andThen_ok]
    cases d with
    | struct fs =>
      exfalso
      simp only at he
      split at he
      · exact hs _ he.symm
      · exact ho he.symm
    | _ =>
      simp only at he
      subst he
      first
      | exact absurd rfl ho
      | (unfold eqV at h; split at h <;> simp_all)

theorem run_binV_eq {e : EK} {op : BinOp} {t : TypeId} {x y v : Value} {b : Bool} (he : ekOf P t = e) (ho : e ≠ .o) (hs : ∀ fs, e ≠ .st fs) (hq : eqV e x y = some b)
    (h : op = .eql ∧ v = .bool b ∨ op = .neq ∧ v = .bool !b) : (binOp op t x y).run P w = .ok v w := by
  have hr := run_eqV (P := P) (w := w) he ho hs hq
  unfold eqV at hq
  rcases h with ⟨rfl, rfl⟩ | ⟨rfl, rfl⟩
  all_goals (split at hq <;> simp_all [binOp])

theorem run_stEq [FlatOk P] {l : List (Nat × Nat × SE)} {op : BinOp} {t : TypeId} {x y v : Value} {b : Bool} (he : ekOf P t = .st l) (hq : eqV (.st l) x y = some b)
    (h : op = .eql ∧ v = .bool b ∨ op = .neq ∧ v = .bool !b) (x' y' : Operand) : (do eqGuard op t x' y' x y; binOp op t x y : Sem Value).run P w = .ok v w := by
  have hu : ∃ fs, P.underlying t = some (.struct fs) ∧ seOf P 4 t = some (.st l) := by
    unfold ekOf at he
    split at he <;> first | (cases he; done) | skip
    rename_i fs hu
    split at he
    · rename_i l' hl; cases he; exact ⟨fs, hu, hl⟩
    · cases he
  obtain ⟨fs, hu, hl⟩ := hu
  unfold eqV at hq
  split at hq <;> first | (cases hq; done) | skip
  all_goals first | (rename_i xs ys h0; cases h0) | (rename_i h0 _ _; cases h0; done) | skip
  rename_i xs ys h0
  have hse : seEq (.st l) (.agg xs) (.agg ys) = some b := by unfold seEq; exact hq
  have hrun := run_seEq (P := P) (w := w) 4 (by omega) 10000 (by omega) t _ _ _ _ hl hse
  have hg := (flat_at hu (by omega) hl).2.1
  simp only [Sem.run_bind, run_eqGuard_agg w op t x' y' xs ys hg, Result.andThen_ok]
  rcases h with ⟨rfl, rfl⟩ | ⟨rfl, rfl⟩
  · rw [run_eql_struct, hrun]; rfl
  · rw [run_neq_struct, hrun]; rfl

theorem run_binV [FlatOk P] {e : EK} {op : BinOp} {t : TypeId} {x y v : Value} (he : ekOf P t = e) (ho : e ≠ .o) (h : binV e op x y = some v) (x' y' : Operand) :
    (do eqGuard op t x' y' x y; binOp op t x y : Sem Value).run P w = .ok v w := by
  unfold binV at h
  split at h
  · rename_i k a k' b
    simp only [Sem.run_bind, run_eqGuard x' y' (x := .int k a) (by simp), Result.andThen_ok]
    split at h
    · split at h
      · cases h
      · rename_i hb; simp only [Option.some.injEq] at h; subst h; simp [binOp, Op.shift, hb]
    · split at h
      · cases h
      · rename_i hb; simp only [Option.some.injEq] at h; subst h; simp [binOp, Op.shift, hb]
    · rename_i h1 h2
      split at h
      · rename_i hk; subst hk
        exact run_intV h ⟨h1, h2⟩ t
      · cases h
  · rename_i a b
    simp only [Sem.run_bind, run_eqGuard x' y' (x := .string a) (by simp), Result.andThen_ok]
    unfold strV at h
    cases op <;> simp_all [binOp, Op.stringOp]
  · split at h
    · cases hq : eqV e x y with
      | none => simp [hq] at h
      | some b =>
        simp [hq] at h; subst h
        by_cases hst : ∃ fs, e = .st fs
        · obtain ⟨l, rfl⟩ := hst
          exact run_stEq he hq (.inl ⟨rfl, rfl⟩) x' y'
        · have hs : ∀ fs, e ≠ .st fs := fun fs h => hst ⟨fs, h⟩
          simp only [Sem.run_bind, run_eqGuard x' y' (eqV_shape hs hq), Result.andThen_ok]
          exact run_binV_eq he ho hs hq (.inl ⟨rfl, rfl⟩)
    · cases hq : eqV e x y with
      | none => simp [hq] at h
      | some b =>
        simp [hq] at h; subst h
        by_cases hst : ∃ fs, e = .st fs
        · obtain ⟨l, rfl⟩ := hst
          exact run_stEq he hq (.inr ⟨rfl, rfl⟩) x' y'
        · have hs : ∀ fs, e ≠ .st fs := fun fs h => hst ⟨fs, h⟩
          simp only [Sem.run_bind, run_eqGuard x' y' (eqV_shape hs hq), Result.andThen_ok]
          exact run_binV_eq he ho hs hq (.inr ⟨rfl, rfl⟩)
    · cases h

theorem run_checkKey {e : Bool} {kt : TypeId} {kd : TypeDesc} {k : Value} (hk : keyDesc P kt = some kd) (n : Nat) : (Instr.checkKey e (n + 1) kt k).run P w = .ok () w := by
  unfold keyDesc at hk
  cases hu : P.underlying kt with
  | none => simp [hu] at hk
  | some d =>
    simp only [hu] at hk
    simp only [Instr.checkKey, Sem.run_bind, run_underlying hu, Result.andThen_ok]
    cases d <;> simp at hk <;> rfl

theorem sameNow_desc {P : Program} {kt : TypeId} {kd : TypeDesc} (hk : keyDesc P kt = some kd) : P.underlying kt = some kd := by
  unfold keyDesc at hk
  cases hu : P.underlying kt with
  | none => simp [hu] at hk
  | some d => cases d <;> simp_all

theorem run_findKey {kt : TypeId} {kd : TypeDesc} {k : Value} {es : List MapEntry} {r : Option (Nat × Value)} (hk : keyDesc P kt = some kd) (h : Instr.findNow kd k es 0 = some r) :
    (Instr.findKey kt k es).run P w = .ok r w := by
  simp [Instr.findKey, run_underlying (sameNow_desc hk), h]

theorem run_getMap {m : Nat} {es : Array MapEntry} {c : Nat} (h : w.heap[m]? = some (.map es c)) : (getObj m).run P w = .ok (.map es c) w := by
  simp [getObj, Sem.run, h]

theorem run_lookV {t kt et : TypeId} {kd : TypeDesc} {z : Value} {ok : Bool} {m k v : Value} (ht : P.underlying t = some (.map kt et)) (hk : keyDesc P kt = some kd) (hz : tyZero P et = some z)
    (h : lookV kd z ok w.heap m k = some v) : (Instr.lookup t m k ok).run P w = .ok v w := by
  unfold lookV at h
  split at h
  · simp only [Option.some.injEq] at h
    subst h
    simp only [Instr.lookup, Sem.run_bind, run_underlying ht, Result.andThen_ok, Sem.run_pure]
    rw [show (10000 : Nat) = 9999 + 1 from rfl, run_checkKey hk]
    simp only [Result.andThen_ok]
    rw [run_findKey hk (r := none) (by simp [Instr.findNow])]
    simp only [Result.andThen_ok, Sem.run_bind, run_zeroValue' hz, Sem.run_pure]
    cases ok <;> rfl
  · rename_i hm
    cases hq : mapAt w.heap m with
    | none => simp [hq] at h
    | some p =>
      obtain ⟨es, c⟩ := p
      simp only [hq] at h
      unfold mapAt at hq
      cases m with
      | map r =>
        cases r with
        | none => simp at hq
        | some r =>
          simp only at hq
          cases hh : w.heap[r]? with
          | none => simp [hh] at hq
          | some o =>
            cases o <;> simp [hh] at hq
            obtain ⟨rfl, rfl⟩ := hq
            simp only [Instr.lookup, Sem.run_bind, run_underlying ht, Result.andThen_ok, run_getMap hh, Sem.run_pure]
            rw [show (10000 : Nat) = 9999 + 1 from rfl, run_checkKey hk]
            simp only [Result.andThen_ok]
            cases hf : Instr.findNow kd k _ 0 with
            | none => rw [hf] at h; cases h
            | some q =>
              rw [hf] at h
              rw [run_findKey hk hf]
              cases q with
              | none =>
                simp only [Option.some.injEq] at h; subst h
                simp only [Result.andThen_ok, Sem.run_bind, run_zeroValue' hz, Sem.run_pure]
                cases ok <;> rfl
              | some q =>
                obtain ⟨i, u⟩ := q
                simp only [Option.some.injEq] at h; subst h
                simp only [Result.andThen_ok]
                cases ok <;> rfl
      | _ => simp at hq

theorem fill_eq {pl : Nat → Option (Nat × Nat)} {ρ : Env} : ∀ (ps : List (Nat × Operand)) (l : List (Nat × Nat × Value)) (cells out : Array Value), partsL pl ρ ps = some l → fillL cells l = some out →
    Instr.fill pl cells (ps.map fun (i, x) => (i, ev ρ x)) = some out
  | [], l, cells, out, h, h' => by simp [partsL] at h; subst h; simpa [fillL, Instr.fill] using h'
  | (i, x) :: ps, l, cells, out, h, h' => by
    unfold partsL at h
    cases hp : pl i with
    | none => simp [hp] at h
    | some p =>
      obtain ⟨o, s⟩ := p
      simp only [hp] at h
      cases hq : partsL pl ρ ps with
      | none => simp [hq] at h
      | some l' =>
        simp only [hq, Option.some.injEq] at h
        subst h
        simp only [fillL] at h'
        simp only [List.map_cons, Instr.fill, hp]
        split at h'
        · cases h'
        · rename_i hc
          rw [if_neg hc]
          exact fill_eq ps l' _ out hq h'

/-- What a reading operation yields is what the model's operation yields, in the very world that it got. -/
theorem run_fieldAt {s f off : Nat} {x v : Value} {fs : Array Field} {fd : Field} {n : Nat} (hs : P.underlying s = some (.struct fs)) (hf : fs[f]? = some fd) (hn : tySize P fd.type = some (n + 1)) (ho : fd.offset = off)
    (h : fldV off x = some v) : (Instr.fieldAt s x f).run P w = .ok v w := by
  unfold fldV at h
  split at h
  · rename_i a
    simp only [Option.some.injEq] at h
    subst h; subst ho
    simp [Instr.fieldAt, run_underlying hs, hf, Instr.sureAddr, fieldPlace, run_sizeOf' hn]
  · cases h

theorem run_max2 {x y v : Value} (h : maxV x y = some v) : (Builtin.max2 x y).run P w = .ok v w := by
  unfold maxV at h
  split at h
  · simp only [Option.some.injEq] at h; subst h; simp [Builtin.max2]
  · cases h
theorem run_min2 {x y v : Value} (h : minV x y = some v) : (Builtin.min2 x y).run P w = .ok v w := by
  unfold minV at h
  split at h
  · simp only [Option.some.injEq] at h; subst h; simp [Builtin.min2]
  · cases h

theorem run_sliceAt_slice {t e n : Nat} {x v : Value} {lo hi : Option Value} (ht : P.underlying t = some (.slice e)) (hn : tySize P e = some n) (h : slcV n x lo hi = some v) :
    (Instr.sliceAt t x lo hi none).run P w = .ok v w := by
  unfold slcV at h
  split at h
  · rename_i a len cap
    split at h
    · rename_i hh h1
      split at h
      · rename_i l h2
        simp only [Option.some.injEq] at h; subst h
        simp [Instr.sliceAt, Instr.slice, run_underlying ht, run_sliceBounds' h1 h2, run_sizeOf' hn]
      · cases h
    · cases h
  · cases h

theorem run_sliceAt_string {t : Nat} {x v : Value} {lo hi : Option Value} (ht : P.underlying t = some .string) (h : slsV x lo hi = some v) :
    (Instr.sliceAt t x lo hi none).run P w = .ok v w := by
  unfold slsV at h
  split at h
  · rename_i s
    split at h
    · rename_i hh h1
      split at h
      · rename_i l h2
        simp only [Option.some.injEq] at h; subst h
        simp [Instr.sliceAt, Instr.slice, run_underlying ht, run_sliceBounds' h1 h2]
      · cases h
    · cases h
  · cases h

theorem run_indexAt_slice {t e n : Nat} {x i v : Value} (ht : P.underlying t = some (.slice e)) (hn : tySize P e = some n) (h : idxV n x i = some v) :
    (Instr.indexAt t x i).run P w = .ok v w := by
  unfold idxV at h
  split at h
  · rename_i a len _ k j
    split at h
    · rename_i hb
      simp only [Option.some.injEq] at h; subst h
      simp [Instr.indexAt, asIntOf, run_underlying ht, hb, run_sizeOf' hn]
    · cases h
  · cases h

theorem run_indexAt_array {t e n len : Nat} {x i v : Value} (ht : P.underlying t = some (.array len e)) (hn : tySize P e = some n) (h : idxaV len n x i = some v) :
    (Instr.indexAt t x i).run P w = .ok v w := by
  unfold idxaV at h
  split at h
  · rename_i a k j
    split at h
    · rename_i hb
      simp only [Option.some.injEq] at h; subst h
      simp [Instr.indexAt, asIntOf, run_underlying ht, Instr.sureAddr, hb, run_sizeOf' hn]
    · cases h
  · cases h

theorem run_index_string {t : Nat} {x i v : Value} (ht : P.underlying t = some .string) (h : indV x i = some v) : (Instr.index t x i).run P w = .ok v w := by
  unfold indV at h
  split at h
  · rename_i s k j
    cases hb : (if 0 ≤ j then s[j.toNat]? else none) with
    | none => simp [hb] at h
    | some b =>
      simp [hb] at h; subst h
      simp [Instr.index, asIntOf, run_underlying ht, hb]
  · cases h

theorem run_placesL' : ∀ (fs : List Field) (l : List (Nat × Nat)), placesL P fs = some l → (fs.mapM fun f => do pure (f.offset, ← sizeOf f.type) : Sem (List (Nat × Nat))).run P w = .ok l w
  | [], l, h => by simp [placesL] at h; subst h; rfl
  | f :: fs, l, h => by
    unfold placesL at h
    cases h1 : tySize P f.type with
    | none => simp [h1] at h
    | some s =>
      simp only [h1] at h
      cases h2 : placesL P fs with
      | none => simp [h2] at h
      | some l' =>
        simp only [h2, Option.some.injEq] at h
        subst h
        simp only [List.mapM_cons, Sem.run_bind, run_sizeOf' h1, Result.andThen_ok, Sem.run_pure, run_placesL' fs l' h2]

theorem run_placesL {fs : Array Field} {l : List (Nat × Nat)} (h : placesL P fs.toList = some l) : (fs.mapM fun f => do pure (f.offset, ← sizeOf f.type) : Sem (Array (Nat × Nat))).run P w = .ok l.toArray w := by
  rw [Array.mapM_eq_mapM_toList, Sem.run_map, run_placesL' fs.toList l h]
  rfl

theorem roB_sound {b : Builtin} {args : List Value} {ts : Array TypeId} {ty : TypeId} {cs : Array Bool} {v : Value} (hr : roB P b args ts.toList w.heap = some (some v)) : (builtin b ts ty cs args.toArray).run P w = .ok (.value v) w := by
  unfold roB at hr
  split at hr
  · split at hr
    · rename_i x t hts
      obtain rfl : ts = #[t] := by apply Array.ext'; simpa using hts
      split at hr
      · rename_i e ht
        simp only [Option.some.injEq] at hr
        unfold lenslV at hr
        split at hr
        · simp only [Option.some.injEq] at hr; subst hr
          simp [builtin, Builtin.len_, run_underlying ht, goInt]
        · cases hr
      · rename_i ht
        simp only [Option.some.injEq] at hr
        unfold lenstV at hr
        split at hr
        · simp only [Option.some.injEq] at hr; subst hr
          simp [builtin, Builtin.len_, run_underlying ht, goInt]
        · cases hr
      · rename_i ht
        simp only [Option.some.injEq] at hr
        unfold lenmV at hr
        split at hr
        · simp at hr; subst hr
          simp [builtin, Builtin.len_, run_underlying ht, goInt]
        · split at hr
          · rename_i hm
            simp at hr; subst hr
            simp [builtin, Builtin.len_, run_underlying ht, goInt, run_getMap hm]
          · cases hr
        · cases hr
      · cases hr
    · cases hr
  · split at hr
    · simp only [Option.some.injEq] at hr
      simp [builtin, Builtin.max_, run_max2 hr]
    · rename_i x y z
      simp only [Option.some.injEq] at hr
      unfold max3V at hr
      split at hr
      · rename_i a ha
        simp [builtin, Builtin.max_, run_max2 ha, run_max2 hr]
      · cases hr
    · cases hr
  · split at hr
    · simp only [Option.some.injEq] at hr
      simp [builtin, Builtin.min_, run_min2 hr]
    · rename_i x y z
      simp only [Option.some.injEq] at hr
      unfold min3V at hr
      split at hr
      · rename_i a ha
        simp [builtin, Builtin.min_, run_min2 ha, run_min2 hr]
      · cases hr
    · cases hr
  · cases hr

theorem roV_sound [FlatOk P] {op : Op} {r : Option Value} {v : Value} (o : Oper) (ho : o.op = op) (hr : roV P ρ op w.heap = some r) (hv : r = some v) : (execOp (ev ρ) o).run P w = .ok (.value v) w := by
  subst hv
  unfold roV at hr
  split at hr
  case h_1 | h_2 => simp at hr; subst hr; simp [execOp, ho]
  case h_3 =>
    simp at hr
    unfold pickV at hr
    split at hr <;> simp at hr
    rename_i c b hc
    subst hr
    simp only [execOp, ho, hc, asBool]
    cases b <;> simp
  case h_4 t x =>
    split at hr
    · rename_i ht
      simp only [Option.some.injEq] at hr
      unfold ldV at hr
      split at hr
      · rename_i a hx
        simp [execOp, ho, Instr.loadAt, hx, Instr.sureAddr, run_loadVar_one ht hr]
      · cases hr
    · rename_i ht
      split at hr
      · rename_i n hn
        simp only [Option.some.injEq] at hr
        unfold ldsV at hr
        split at hr
        · rename_i a hx
          cases hl : loadsOf w.heap a 0 n with
          | none => simp [hl] at hr
          | some l =>
            simp [hl] at hr; subst hr
            simp [execOp, ho, Instr.loadAt, hx, Instr.sureAddr, run_loadVar_agg ht hn hl]
        · cases hr
      · cases hr
    · cases hr
  case h_5 x =>
    simp only [Option.some.injEq] at hr
    unfold nilV at hr
    simp only [execOp, ho]
    split at hr
    · cases hr
    · cases hr
    · cases hr
    · cases hr
    · simp only [Option.some.injEq] at hr
      subst hr
      split <;> simp_all
  case h_6 op t x y _ =>
    split at hr
    · cases hr
    · rename_i e he
      simp only [Option.some.injEq] at hr
      have := run_binV (P := P) (w := w) (t := t) rfl he hr x y
      simp only [execOp, ho]
      simp only [Sem.run_bind] at this ⊢
      rw [this]; rfl
  case h_7 op t x =>
    simp only [Option.some.injEq] at hr
    unfold unV at hr
    split at hr <;> simp at hr
    all_goals (rename_i hx; subst hr; simp [execOp, ho, hx, Op.unary, Op.intArith, Op.intBits])
  case h_8 s d x =>
    split at hr
    · rename_i h1 h2
      simp only [Option.some.injEq] at hr
      unfold cviV at hr
      split at hr <;> simp at hr
      rename_i hx; subst hr
      simp [execOp, ho, hx, convert, run_underlying h1, run_underlying h2, Conv.intToInt]
    · rename_i h1 h2
      simp only [Option.some.injEq] at hr
      unfold cvrsV at hr
      split at hr <;> simp at hr
      rename_i hx; subst hr
      simp [execOp, ho, hx, convert, run_underlying h1, run_underlying h2, Conv.intToString]
    · cases hr
  case h_9 t x lo hi =>
    simp only [execOp, ho]
    split at hr
    · rename_i e ht
      split at hr
      · rename_i n hn
        simp only [Option.some.injEq] at hr
        have := run_sliceAt_slice (P := P) (w := w) ht hn hr
        simp [this]
      · cases hr
    · rename_i ht
      simp only [Option.some.injEq] at hr
      have := run_sliceAt_string (P := P) (w := w) ht hr
      simp [this]
    · cases hr
  case h_10 s x f =>
    split at hr
    · rename_i fs hs
      split at hr
      · rename_i fd hf
        split at hr
        · cases hr
        · rename_i n hn
          simp only [Option.some.injEq] at hr
          have := run_fieldAt (P := P) (w := w) hs hf hn rfl hr
          simp [execOp, ho, this]
        · cases hr
      · cases hr
    · cases hr
  case h_11 t x f =>
    split at hr
    · rename_i fs hs
      split at hr
      · rename_i fd hf
        split at hr
        · rename_i b n hb hn
          simp only [Option.some.injEq] at hr
          have hr' := hr
          unfold partV at hr
          split at hr
          · rename_i cs hx
            rw [hx] at hr'
            have := run_part' (P := P) (w := w) hb hn hr'
            simp [execOp, ho, hx, Instr.field, run_underlying hs, hf, asAgg, this]
          · cases hr
        · cases hr
      · cases hr
    · cases hr
  case h_12 t x i =>
    simp only [execOp, ho]
    split at hr
    · rename_i e ht
      split at hr
      · rename_i n hn
        simp only [Option.some.injEq] at hr
        simp [run_indexAt_slice (P := P) (w := w) ht hn hr]
      · cases hr
    · rename_i len e ht
      split at hr
      · rename_i n hn
        simp only [Option.some.injEq] at hr
        simp [run_indexAt_array (P := P) (w := w) ht hn hr]
      · cases hr
    · cases hr
  case h_13 t x i =>
    split at hr
    · rename_i ht
      simp only [Option.some.injEq] at hr
      simp [execOp, ho, run_index_string (P := P) (w := w) ht hr]
    · cases hr
  case h_14 t i =>
    simp only [Option.some.injEq] at hr
    unfold extV at hr
    split at hr
    · rename_i vs hx
      simp [execOp, ho, hx, Instr.extract, hr]
    · cases hr
  case h_15 t x =>
    split at hr
    · cases hr
    · rename_i d hd _
      simp only [Option.some.injEq] at hr
      subst hr
      simp only [execOp, ho, Instr.makeInterface, Sem.run_bind]
      rename_i hq
      simp only [run_underlying hq, Result.andThen_ok]
      rfl
    · cases hr
  case h_16 fn first captured =>
    simp only [Option.some.injEq] at hr
    subst hr
    simp [execOp, ho, Instr.makeFunc]
  case h_17 t x k ok =>
    split at hr
    · rename_i kt et ht
      split at hr
      · rename_i kd z hk hz
        simp only [Option.some.injEq] at hr
        simp [execOp, ho, run_lookV (P := P) (w := w) ht hk hz hr]
      · cases hr
    · cases hr
  case h_18 t parts =>
    split at hr
    · rename_i z pl hz hp
      split at hr
      · rename_i l hl
        simp only [Option.some.injEq] at hr
        cases hf : fillL z.cells l with
        | none => simp [hf] at hr
        | some cs =>
          simp [hf] at hr; subst hr
          have hfill := fill_eq _ _ _ _ hl hf
          rw [← Array.toList_map] at hfill
          unfold placesOf at hp
          simp only [execOp, ho, Instr.build, Sem.run_bind, run_zeroValue' hz, Result.andThen_ok, Sem.run_pure]
          cases hu : P.underlying t with
          | none => simp [hu] at hp
          | some d =>
            rw [run_underlying hu]
            simp only [hu] at hp
            cases d with
            | struct fs =>
              simp only at hp
              cases hq : placesL P fs.toList with
              | none => simp [hq] at hp
              | some l' =>
                simp only [hq, Option.map_some, Option.some.injEq] at hp
                subst hp
                simp only [Result.andThen_ok, Sem.run_bind, run_placesL hq]
                have e : (fun i : Nat => (l'.toArray)[i]?) = fun i : Nat => l'[i]? := by funext i; simp
                rw [e, hfill]
                rfl
            | array n e =>
              simp only at hp
              cases hq : tySize P e with
              | none => simp [hq] at hp
              | some s =>
                simp only [hq, Option.map_some, Option.some.injEq] at hp
                subst hp
                simp only [Result.andThen_ok, Sem.run_bind, run_sizeOf' hq]
                rw [hfill]
                rfl
            | _ => simp at hp
      · cases hr
    · cases hr
  case h_19 c =>
    split at hr
    · rename_i b hb
      have := roB_sound (P := P) (w := w) (ty := o.type) (cs := c.args.map fun | .const _ => true | _ => false) hr
      rw [Array.toArray_toList] at this
      simp only [execOp, ho, resolve, hb, Sem.run_bind, Sem.run_pure, Result.andThen_ok, invoke]
      exact this
    · cases hr
  case h_20 => cases hr
end

/-! ### operations that write or make -/
def failK : OpSem := fun _ _ => False

def newK (c : Array Value) (t : TypeId) : OpSem := fun h K => K (.pointer (some ⟨h.size, 0, none⟩)) (h.push (.cells c t))

def stK (n : Nat) (x v : Value) : OpSem := fun h K =>
  match x with
  | .pointer (some a) => if v.cells.size = n then (match storesOf h a 0 v.cells.toList with | some h' => K undef h' | none => False) else False
  | _ => False

/-- Zero cells of a row. -/
def zerosOf (z : Value) (n : Nat) : Array Value := (Array.range n).map (fun i => z.cells[i % z.cells.size]!)

def rowK (c : Array Value) (e : TypeId) (len : Nat) (l : List (Nat × Nat × Value)) : OpSem := fun h K =>
  match fillL c l with
  | some c' => K (.slice (some ⟨h.size, 0, none⟩) len len) (h.push (.cells c' e))
  | none => False

/-- 'make' of a slice. -/
def mkK (z : Value) (e : TypeId) (size bytes : Nat) (l c : Value) : OpSem := fun h K =>
  match l, c with
  | .int _ l, .int _ c =>
    0 ≤ IntKind.i64.wrap l ∧ IntKind.i64.wrap l ≤ IntKind.i64.wrap c ∧ (bytes : Int) * IntKind.i64.wrap c ≤ 2 ^ 48 ∧
      K (.slice (some ⟨h.size, 0, none⟩) (IntKind.i64.wrap l).toNat (IntKind.i64.wrap c).toNat) (h.push (.cells (zerosOf z ((IntKind.i64.wrap c).toNat * size)) e))
  | _, _ => False

def newmK : OpSem := fun h K => K (.map (some h.size)) (h.push (.map #[] 0))

def setObjH (h : Heap) (r : Nat) (o : Obj) : Heap := h.setIfInBounds r o

def mapPutK (kd : TypeDesc) (m k v : Value) : OpSem := fun h K =>
  match m with
  | .map (some r) => match h[r]? with
    | some (.map es c) => match Instr.findNow kd k es.toList 0 with
      | some (some (i, _)) => Instr.sameBits 10000 (((es[i]?).map (·.key)).getD k) k = true ∧ K undef (setObjH h r (.map (es.modify i fun e => { e with key := k, val := v }) c))
      | some none => K undef (setObjH h r (.map (es.push { key := k, val := v, born := c }) (c + 1)))
      | none => False
    | _ => False
  | _ => False

/-- 'm[k] += x' begins: the entry, made if there is none. -/
def mapEntryK (kd : TypeDesc) (z : Value) (m k : Value) : OpSem := fun h K =>
  match m with
  | .map (some r) => match h[r]? with
    | some (.map es c) => match Instr.findNow kd k es.toList 0 with
      | some (some (i, v)) => Instr.sameBits 10000 (((es[i]?).map (·.key)).getD k) k = true ∧
          K (.tuple #[v, .int .i64 (((es[i]?).map fun e => (e.born : Int)).getD 0)]) (setObjH h r (.map (es.modify i fun e => { e with key := k }) c))
      | some none => K (.tuple #[z, .int .i64 (c : Nat)]) (setObjH h r (.map (es.push { key := k, val := z, born := c }) (c + 1)))
      | none => False
    | _ => False
  | _ => False

def entryStK (m s v : Value) : OpSem := fun h K =>
  match m, s with
  | .map (some r), .int _ n => match h[r]? with
    | some (.map es c) => match es.findIdx? (fun e => (e.born : Int) == n) with
      | some i => K undef (setObjH h r (.map (es.modify i fun e => { e with val := v }) c))
      | none => False
    | _ => False
  | _, _ => False

def mapDelK (kd : TypeDesc) (m k : Value) : OpSem := fun h K =>
  match m with
  | .map none => K (.tuple #[]) h
  | .map (some r) => match h[r]? with
    | some (.map es c) => match Instr.findNow kd k es.toList 0 with
      | some (some (i, _)) => K (.tuple #[]) (setObjH h r (.map (es.eraseIdxIfInBounds i) c))
      | some none => K (.tuple #[]) (setObjH h r (.map es c))
      | none => False
    | _ => False
  | _ => False

/-- A range over a map begins. -/
def rangeMapK (m : Value) : OpSem := fun h K =>
  match m with
  | .map none => K (.pointer (some ⟨h.size, 0, none⟩)) (h.push (.mapIter none 0 #[] 0))
  | .map (some r) => match h[r]? with
    | some (.map _ c) => K (.pointer (some ⟨h.size, 0, none⟩)) (h.push (.mapIter (some r) c #[] c))
    | _ => False
  | _ => False

def rangeStrK (s : Value) : OpSem := fun h K =>
  match s with
  | .string s => K (.pointer (some ⟨h.size, 0, none⟩)) (h.push (.stringIter s 0))
  | _ => False

/-- A step of a range over a string. -/
def nextStrK (it : Value) : OpSem := fun h K =>
  match it with
  | .pointer (some ⟨r, 0, _⟩) => match h[r]? with
    | some (.stringIter s pos) =>
      if pos < s.size then K (.tuple #[.bool true, .int .i64 (pos : Nat), .int .i32 (Utf8.decode s pos).1]) (setObjH h r (.stringIter s (pos + (Utf8.decode s pos).2)))
      else K (.tuple #[.bool false]) h
    | _ => False
  | _ => False

/-- A step of a range over a map: whichever entry comes next. -/
def nextMapK (it : Value) : OpSem := fun h K =>
  match it with
  | .pointer (some ⟨r, 0, _⟩) => match h[r]? with
    | some (.mapIter none _ _ _) => K (.tuple #[.bool false]) h
    | some (.mapIter (some m) since seen last) => match h[m]? with
      | some (.map es clock) =>
        (!seen.isEmpty && !es.isEmpty && es.all (·.born ≥ last)) = false ∧
        (∀ e ∈ es, seen.contains e.born = false → K (.tuple #[.bool true, e.key, e.val]) (setObjH h r (.mapIter (some m) since (seen.push e.born) clock))) ∧
        ((∀ e ∈ es, seen.contains e.born = false → since ≤ e.born) → K (.tuple #[.bool false]) h)
      | _ => False
    | _ => False
  | _ => False

def entryK (it : Value) : OpSem := fun h K =>
  match it with
  | .pointer (some ⟨r, 0, _⟩) => match h[r]? with
    | some (.mapIter (some m) _ seen stepped) => match h[m]? with
      | some (.map es clock) => if clock ≠ stepped then False else match seen.back? with
        | some stamp => match es.find? (·.born == stamp) with
          | some e => K (.tuple #[e.key, e.val]) h
          | none => False
        | none => False
      | _ => False
    | _ => False
  | _ => False

/-- The cells that are appended, or copied, at most so many. -/
def srcOf (size : Nat) (h : Heap) (n : Nat) (x : Value) : Option (List Value) :=
  match x with
  | .slice (some a) _ _ => loadsOf h a 0 (n * size)
  | .slice none _ _ => some []
  | .string s => some ((s.extract 0 n).data.map fun b => Value.int .u8 b.toNat).toList
  | _ => none

def lenN (x : Value) : Option Nat :=
  match x with
  | .slice _ n _ => some n
  | .string s => some s.size
  | _ => none

def appK (z : Value) (e : TypeId) (size bytes : Nat) (s x : Value) : OpSem := fun h K =>
  match s, lenN x with
  | .slice base sLen sCap, some n =>
    if sLen + n ≤ sCap then
      match srcOf size h n x with
      | some news => match base with
        | some a => match storesOf h (a.add (sLen * size)) 0 news with
          | some h' => K (.slice base (sLen + n) sCap) h'
          | none => False
        | none => K (.slice none (sLen + n) sCap) h
      | none => False
    else
      ((sLen + n : Nat) : Int) ≤ IntKind.i64.max ∧ Builtin.nextslicecap (sLen + n) sCap * bytes ≤ 2 ^ 48 ∧
      match srcOf size h sLen s, srcOf size h n x with
      | some olds, some news => ∀ newCap, sLen + n ≤ newCap → newCap ≤ 2 ^ 63 - 1 →
          K (.slice (some ⟨h.size, 0, none⟩) (sLen + n) newCap) (h.push (.cells (olds.toArray ++ news.toArray ++ Builtin.zeroCells z.cells (newCap - (sLen + n))) e))
      | _, _ => False
  | _, _ => False

def cpyK (size : Nat) (d x : Value) : OpSem := fun h K =>
  match d, lenN x with
  | .slice base dLen _, some n =>
    match srcOf size h (Nat.min n dLen) x with
    | some news => match base with
      | some a => match storesOf h a 0 news with
        | some h' => K (.int .i64 (Nat.min n dLen : Nat)) h'
        | none => False
      | none => K (.int .i64 (Nat.min n dLen : Nat)) h
    | none => False
  | _, _ => False

def okCallee (P : Program) (f : FuncId) : Bool :=
  match P.funcs[f]? with
  | some fn => !(fn.name == "runtime.NumGoroutine") && fn.body.isSome
  | none => false

/-- A function, entered in any world of this heap, returns; K holds of its value, and of the heap then. -/
def ECall (P : Program) (f : FuncId) (args : Array Value) : OpSem := fun h K =>
  okCallee P f = true ∧ ∀ w : World, w.heap = h → Calls P f args w fun e w' => ∃ v, e = .returned v ∧ Same w w' ∧ K v w'.heap
/-- A function, called in any world of this heap, returns (it is entered, or its value comes at once); K holds of its value, and of the heap then. -/
def FCall (P : Program) (f : FuncId) (args : Array Value) : OpSem := fun h K =>
  ECall P f args h K ∨ ∀ w : World, w.heap = h → ∃ v w', (callFunc f args).run P w = .ok (.value v) w' ∧ Same w w' ∧ K v w'.heap

theorem FCall.mono {P : Program} {f : FuncId} {args : Array Value} {h : Heap} {K K' : Value → Heap → Prop} (hc : FCall P f args h K) (hk : ∀ v h', K v h' → K' v h') : FCall P f args h K' :=
  hc.imp (fun hc => ⟨hc.1, fun w hw => (hc.2 w hw).mono fun _ _ ⟨v, he, hs, hK⟩ => ⟨v, he, hs, hk _ _ hK⟩⟩)
    fun hc w hw => let ⟨v, w', a, b, c⟩ := hc w hw; ⟨v, w', a, b, hk _ _ c⟩
theorem FCall.ofCalls {P : Program} {f : FuncId} {args : Array Value} {h : Heap} {K : Value → Heap → Prop} (hc : okCallee P f = true)
    (H : ∀ w : World, w.heap = h → Calls P f args w fun e w' => ∃ v, e = .returned v ∧ Same w w' ∧ K v w'.heap) : FCall P f args h K := .inl ⟨hc, H⟩
theorem FCall.ofRun {P : Program} {f : FuncId} {args : Array Value} {h : Heap} {K : Value → Heap → Prop}
    (H : ∀ w : World, w.heap = h → ∃ v w', (callFunc f args).run P w = .ok (.value v) w' ∧ Same w w' ∧ K v w'.heap) : FCall P f args h K := .inr H

def clK (P : Program) (f : Value) (args : Array Value) (h : Heap) (K : Value → Heap → Prop) : Prop :=
  match f with
  | .func (.func f) first captured => FCall P f (first ++ args ++ captured) h K
  | _ => False

def effB (P : Program) (b : Builtin) (args : List Value) (ts : List TypeId) (h : Heap) (K : Value → Heap → Prop) : Prop :=
  match b with
  | .append => match args, ts with
    | [s, x], [t, u] => match P.underlying t, P.underlying u with
      | some (.slice e), some (.slice _) | some (.slice e), some .string => match (P.info? e).bind fun i => i.zero.map fun z => (z, i.size, i.bytes) with
        | some (z, size, bytes) => appK z e size bytes s x h K
        | none => False
      | _, _ => False
    | _, _ => False
  | .copy => match args, ts with
    | [d, x], t :: _ => match P.underlying t with
      | some (.slice e) => match tySize P e with
        | some size => cpyK size d x h K
        | none => False
      | _ => False
    | _, _ => False
  | .delete => match args, ts with
    | [m, k], t :: _ => match P.underlying t with
      | some (.map kt _) => match keyDesc P kt with
        | some kd => mapDelK kd m k h K
        | none => False
      | _ => False
    | _, _ => False
  | _ => False

/-- The bytes of some cells. -/
def bytesL : List Value → Option (List UInt8)
  | [] => some []
  | v :: r => match v with
    | .int .u8 n => match bytesL r with
      | some l => some (UInt8.ofNat n.toNat :: l)
      | none => none
    | _ => none
/-- Bytes as a string. -/
def bsK (x : Value) : OpSem := fun h K =>
  match x with
  | .slice none _ _ => K (.string ByteArray.empty) h
  | .slice (some a) n _ => match loadsOf h a 0 n with
    | some l => match bytesL l with
      | some b => K (.string ⟨⟨b⟩⟩) h
      | none => False
    | none => False
  | _ => False

def effK (P : Program) (ρ : Env) (op : Op) (h : Heap) (K : Value → Heap → Prop) : Prop :=
  match op with
  | .alloc t => match tyZero P t with
    | some z => newK z.cells t h K
    | none => False
  | .box t x => newK (ev ρ x).cells t h K
  | .buildSlice t len parts => match P.underlying t with
    | some (.slice e) => match tySize P e, tyZero P e with
      | some s, some z => if len * s > 2 ^ 24 then False else match partsL (fun i => some (i * s, s)) ρ parts.toList with
        | some l => rowK (zerosOf z (len * s)) e len l h K
        | none => False
      | _, _ => False
    | _ => False
  | .store t a x => match tySize P t with
    | some n => stK n (ev ρ a) (ev ρ x) h K
    | none => False
  | .makeSlice t l c => match P.underlying t with
    | some (.slice e) => match (P.info? e).bind fun i => i.zero.map fun z => (z, i.size, i.bytes) with
      | some (z, size, bytes) => mkK z e size bytes (ev ρ l) (ev ρ c) h K
      | none => False
    | _ => False
  | .makeMap _ none => newmK h K
  | .mapUpdate t m k x | .insert t m k x => match P.underlying t with
    | some (.map kt _) => match keyDesc P kt with
      | some kd => mapPutK kd (ev ρ m) (ev ρ k) (ev ρ x) h K
      | none => False
    | _ => False
  | .mapEntry t m k => match P.underlying t with
    | some (.map kt et) => match keyDesc P kt, tyZero P et with
      | some kd, some z => mapEntryK kd z (ev ρ m) (ev ρ k) h K
      | _, _ => False
    | _ => False
  | .entryStore _ m s x => entryStK (ev ρ m) (ev ρ s) (ev ρ x) h K
  | .range t x => match P.underlying t with
    | some (.map _ _) => rangeMapK (ev ρ x) h K
    | some .string => rangeStrK (ev ρ x) h K
    | _ => False
  | .next it s => bif s then nextStrK (ev ρ it) h K else nextMapK (ev ρ it) h K
  | .entry it => entryK (ev ρ it) h K
  | .call c => match c.callee with
    | .builtin b => effB P b (c.args.map (ev ρ)).toList c.argTypes.toList h K
    | .value (.func f) => FCall P f (c.args.map (ev ρ)) h K
    | .value x => clK P (ev ρ x) (c.args.map (ev ρ)) h K
    | _ => False
  | .convert s d x => match P.underlying s, P.underlying d with
    | some (.slice e), some .string => match P.underlying e with
      | some (.int .u8) => bsK (ev ρ x) h K
      | _ => False
    | _, _ => False
  | _ => False

def Done (P : Program) (K : Value → Heap → Prop) (w : World) : Result Next → Prop
  | .ok (.value v) w' => Same w w' ∧ K v w'.heap
  | .ok .skip w' => Same w w' ∧ K undef w'.heap
  | .ok (.enter f args) w' => w' = w ∧ ECall P f args w.heap K
  | _ => False

section
variable {P : Program} {ρ : Env} {w : World} {K : Value → Heap → Prop}

theorem oneCell_eq (v : Value) : oneCell v = v.oneCell' := by cases v <;> rfl

theorem run_storesOf (a : Addr) : ∀ (l : List Value) (i : Nat) (w : World) (h' : Heap), storesOf w.heap a i l = some h' →
    ∃ w', (storeCells a l i).run P w = .ok () w' ∧ Same w w' ∧ w'.heap = h'
  | [], i, w, h', h => by simp [storesOf] at h; exact ⟨w, by simp [storeCells], Same.refl w, h⟩
  | v :: l, i, w, h', h => by
    unfold storesOf at h
    cases hc : cellOf w.heap (a.add i) with
    | none => simp [hc] at h
    | some old =>
      simp only [hc] at h
      cases ho : (oneCell v && !frozenOf w.heap (a.add i)) with
      | false => rw [ho] at h; cases h
      | true =>
        rw [ho] at h
        simp only [cond_true] at h
        rw [Bool.and_eq_true] at ho
        obtain ⟨w', hr, hs, hh⟩ := run_storesOf a l (i + 1) (w.setCell (a.add i) v) h' h
        refine ⟨w', ?_, ⟨hs.1, hs.2.1, hs.2.2⟩, hh⟩
        have h1 : w.cell? (a.add i) = some old := hc
        have h2 : w.frozen? (a.add i) = false := by
          show frozenOf w.heap (a.add i) = false
          simpa using ho.2
        simp only [storeCells, Sem.run_bind]
        rw [run_store P w _ _ _ (by rw [← oneCell_eq]; exact ho.1)]
        simp [h1, h2, hr]

theorem run_srcOf {size n : Nat} {x : Value} {l : List Value} (h : srcOf size w.heap n x = some l) : (Builtin.firstCells size n x).run P w = .ok l.toArray w := by
  unfold srcOf at h
  split at h
  · rename_i a _ _
    have := run_loadsOf (P := P) a _ 0 #[] l h
    simp [Builtin.firstCells, loadCells, this]
  · simp at h; subst h; simp [Builtin.firstCells]
  · simp only [Option.some.injEq] at h; subst h; simp only [Builtin.firstCells, Array.toArray_toList]; rfl
  · cases h

theorem run_lenN {x : Value} {n : Nat} (h : lenN x = some n) : (Builtin.lenOf x).run P w = .ok n w := by
  unfold lenN at h
  split at h <;> simp at h <;> subst h <;> simp [Builtin.lenOf]

/-- What a run of a reading of a value comes to. -/
theorem Done.value {s : Sem Value} {v : Value} {w' : World} (hr : s.run P w = .ok v w') (hs : Same w w') (hK : K v w'.heap) :
    Done P K w ((do pure (.value (← s)) : Sem Next).run P w) := by
  simp only [Sem.run_bind, hr, Result.andThen_ok, Sem.run_pure]
  exact ⟨hs, hK⟩

theorem Done.unit {s : Sem Unit} {w' : World} (hr : s.run P w = .ok () w') (hs : Same w w') (hK : K undef w'.heap) :
    Done P K w ((do s; pure .skip : Sem Next).run P w) := by
  simp only [Sem.run_bind, hr, Result.andThen_ok, Sem.run_pure]
  exact ⟨hs, hK⟩

theorem run_newObj' (o : Obj) : (newObj o).run P w = .ok w.heap.size { w with heap := w.heap.push o } := rfl

theorem newK_sound {c : Array Value} {t : TypeId} {s : Sem Addr} (hs : s = newRow t c) (h : newK c t w.heap K) : Done P K w ((do pure (.value (← (do pure (.pointer (some (← s))) : Sem Value))) : Sem Next).run P w) := by
  subst hs
  refine Done.value (v := .pointer (some ⟨w.heap.size, 0, none⟩)) (w' := { w with heap := w.heap.push (.cells c t) }) ?_ ⟨rfl, rfl, rfl⟩ h
  simp [newRow]

theorem stK_sound {t n : Nat} {x v : Value} (hn : tySize P t = some n) (h : stK n x v w.heap K) : ∃ w', (Instr.storeAt t x v).run P w = .ok () w' ∧ Same w w' ∧ K undef w'.heap := by
  unfold stK at h
  split at h
  · rename_i a
    split at h
    · rename_i hv
      cases hq : storesOf w.heap a 0 v.cells.toList with
      | none => simp [hq] at h
      | some h' =>
        simp only [hq] at h
        obtain ⟨w', hr, hs, hh⟩ := run_storesOf (P := P) a _ 0 w h' hq
        refine ⟨w', ?_, hs, hh ▸ h⟩
        simp [Instr.storeAt, Instr.sureAddr, storeVar, run_sizeOf' hn, hv, hr]
    · exact h.elim
  · exact h.elim

theorem setObj_run {r : Nat} {o o' : Obj} (h : w.heap[r]? = some o) (hn : ∀ c e f, o ≠ .cells c e f) : (setObj r o').run P w = .ok () { w with heap := setObjH w.heap r o' } := by
  simp only [setObj, Sem.run, h]
  cases o <;> first | rfl | exact absurd rfl (hn _ _ _)

theorem run_keyThatStays {a b : Value} (h : Instr.sameBits 10000 a b = true) : (Instr.keyThatStays a b).run P w = .ok b w := by
  simp [Instr.keyThatStays, h]

theorem mapPutK_sound {t kt et : TypeId} {kd : TypeDesc} {m k v : Value} (ht : P.underlying t = some (.map kt et)) (hk : keyDesc P kt = some kd) (h : mapPutK kd m k v w.heap K) :
    ∃ w', (Instr.mapUpdate t m k v).run P w = .ok () w' ∧ Same w w' ∧ K undef w'.heap := by
  unfold mapPutK at h
  split at h
  · rename_i r
    split at h
    · rename_i es c hm
      simp only [Instr.mapUpdate, Sem.run_bind, run_underlying ht, Result.andThen_ok, run_getMap hm]
      rw [show (10000 : Nat) = 9999 + 1 from rfl, run_checkKey hk]
      simp only [Result.andThen_ok]
      split at h
      · rename_i i u hf
        rw [run_findKey hk hf]
        simp only [Result.andThen_ok, Sem.run_bind]
        rw [run_keyThatStays h.1]
        simp only [Result.andThen_ok]
        exact ⟨_, setObj_run hm (by simp), ⟨rfl, rfl, rfl⟩, h.2⟩
      · rename_i hf
        rw [run_findKey hk hf]
        exact ⟨_, setObj_run hm (by simp), ⟨rfl, rfl, rfl⟩, h⟩
      · exact h.elim
    · exact h.elim
  · exact h.elim

theorem mapEntryK_sound {t kt et : TypeId} {kd : TypeDesc} {z m k : Value} (ht : P.underlying t = some (.map kt et)) (hk : keyDesc P kt = some kd) (hz : tyZero P et = some z) (h : mapEntryK kd z m k w.heap K) :
    ∃ v w', (Instr.mapEntry t m k).run P w = .ok v w' ∧ Same w w' ∧ K v w'.heap := by
  unfold mapEntryK at h
  split at h
  · rename_i r
    split at h
    · rename_i es c hm
      simp only [Instr.mapEntry, Sem.run_bind, run_underlying ht, Result.andThen_ok, run_getMap hm]
      rw [show (10000 : Nat) = 9999 + 1 from rfl, run_checkKey hk]
      simp only [Result.andThen_ok]
      split at h
      · rename_i i u hf
        rw [run_findKey hk hf]
        simp only [Result.andThen_ok, Sem.run_bind]
        rw [run_keyThatStays h.1]
        simp only [Result.andThen_ok]
        rw [setObj_run hm (by simp)]
        exact ⟨_, _, rfl, ⟨rfl, rfl, rfl⟩, h.2⟩
      · rename_i hf
        rw [run_findKey hk hf]
        simp only [Result.andThen_ok, Sem.run_bind, run_zeroValue' hz]
        rw [setObj_run hm (by simp)]
        exact ⟨_, _, rfl, ⟨rfl, rfl, rfl⟩, h⟩
      · exact h.elim
    · exact h.elim
  · exact h.elim

theorem entryStK_sound {t : TypeId} {m s v : Value} (h : entryStK m s v w.heap K) : ∃ w', (Instr.entryStore t m s v).run P w = .ok () w' ∧ Same w w' ∧ K undef w'.heap := by
  unfold entryStK at h
  split at h
  · rename_i r k n
    split at h
    · rename_i es c hm
      split at h
      · rename_i i hf
        simp only [Instr.entryStore, Sem.run_bind, run_getMap hm, Result.andThen_ok, asInt, asIntOf, Sem.run_pure]
        simp only [hf]
        exact ⟨_, setObj_run hm (by simp), ⟨rfl, rfl, rfl⟩, h⟩
      · exact h.elim
    · exact h.elim
  · exact h.elim

theorem mapDelK_sound {t kt et : TypeId} {ty : TypeId} {kd : TypeDesc} {m k : Value} {ts : Array TypeId} (h0 : ts[0]? = some t) (ht : P.underlying t = some (.map kt et)) (hk : keyDesc P kt = some kd) (h : mapDelK kd m k w.heap K) :
    ∃ v w', (Builtin.delete_ ts ty #[m, k]).run P w = .ok v w' ∧ Same w w' ∧ K v w'.heap := by
  have h10 : (10000 : Nat) = 9999 + 1 := rfl
  unfold mapDelK at h
  split at h
  · refine ⟨.tuple #[], w, ?_, Same.refl w, h⟩
    simp [Builtin.delete_, h0, run_underlying ht]
    rw [h10, run_checkKey hk]
    rfl
  · rename_i r
    split at h
    · rename_i es c hm
      simp only [Builtin.delete_, h0]
      simp [run_underlying ht, run_getMap hm]
      rw [h10, run_checkKey hk]
      simp only [Result.andThen_ok]
      split at h
      · rename_i i u hf
        rw [run_findKey hk hf]
        simp only [Result.andThen_ok]
        rw [Sem.run_map, setObj_run hm (by simp)]
        exact ⟨_, _, rfl, ⟨rfl, rfl, rfl⟩, h⟩
      · rename_i hf
        rw [run_findKey hk hf]
        simp only [Result.andThen_ok]
        rw [Sem.run_map, setObj_run hm (by simp)]
        exact ⟨_, _, rfl, ⟨rfl, rfl, rfl⟩, h⟩
      · exact h.elim
    · exact h.elim
  · exact h.elim

theorem rangeMapK_sound {t kt et : TypeId} {m : Value} (ht : P.underlying t = some (.map kt et)) (h : rangeMapK m w.heap K) : ∃ v w', (Instr.range t m).run P w = .ok v w' ∧ Same w w' ∧ K v w'.heap := by
  unfold rangeMapK at h
  split at h
  · simp only [Instr.range, Sem.run_bind, run_underlying ht, Result.andThen_ok, Sem.run_pure, run_newObj']
    exact ⟨_, _, rfl, ⟨rfl, rfl, rfl⟩, h⟩
  · rename_i r
    split at h
    · rename_i es c hm
      simp only [Instr.range, Sem.run_bind, run_underlying ht, Result.andThen_ok, Sem.run_pure, run_getMap hm, run_newObj']
      exact ⟨_, _, rfl, ⟨rfl, rfl, rfl⟩, h⟩
    · exact h.elim
  · exact h.elim

theorem rangeStrK_sound {t : TypeId} {s : Value} (ht : P.underlying t = some .string) (h : rangeStrK s w.heap K) : ∃ v w', (Instr.range t s).run P w = .ok v w' ∧ Same w w' ∧ K v w'.heap := by
  unfold rangeStrK at h
  split at h
  · simp only [Instr.range, Sem.run_bind, run_underlying ht, Result.andThen_ok, Sem.run_pure, run_newObj']
    exact ⟨_, _, rfl, ⟨rfl, rfl, rfl⟩, h⟩
  · exact h.elim

theorem getObj_run {r : Nat} {o : Obj} (h : w.heap[r]? = some o) (hn : ∀ c e f, o ≠ .cells c e f) : (getObj r).run P w = .ok o w := by
  simp only [getObj, Sem.run, h]

theorem nextStrK_sound {t : TypeId} {it : Value} (h : nextStrK it w.heap K) : ∃ v w', (Instr.next it true t).run P w = .ok v w' ∧ Same w w' ∧ K v w'.heap := by
  unfold nextStrK at h
  split at h
  · rename_i r sp
    split at h
    · rename_i s pos hm
      simp only [Instr.next, Sem.run_bind, getObj_run hm (by simp), Result.andThen_ok]
      split at h
      · rename_i hp
        simp only [hp, if_true, Sem.run_bind, setObj_run hm (by simp), Result.andThen_ok, Sem.run_pure]
        exact ⟨_, _, rfl, ⟨rfl, rfl, rfl⟩, h⟩
      · rename_i hp
        simp only [hp, if_false, Sem.run_pure]
        exact ⟨_, _, rfl, Same.refl w, h⟩
    · exact h.elim
  · exact h.elim

theorem nextMapK_sound {t : TypeId} {it : Value} (h : nextMapK it w.heap K) : ∃ v w', (Instr.next it false t).run P w = .ok v w' ∧ Same w w' ∧ K v w'.heap := by
  unfold nextMapK at h
  split at h
  · rename_i r sp
    split at h
    · rename_i hm
      simp only [Instr.next, Sem.run_bind, getObj_run hm (by simp), Result.andThen_ok, Sem.run_pure]
      exact ⟨_, _, rfl, Same.refl w, h⟩
    · rename_i m since seen last hm
      split at h
      · rename_i es clock hes
        obtain ⟨h0, h1, h2⟩ := h
        simp only [Instr.next, Sem.run_bind, getObj_run hm (by simp), run_getMap hes, Result.andThen_ok]
        rw [if_neg (by rw [h0]; simp)]
        simp only [Sem.run_bind, run_choose]
        generalize hL : (es.filter fun e => !seen.contains e.born) = left
        generalize hO : left.filter (fun e => decide (e.born < since)) = old
        generalize hN : left.filter (fun e => decide (e.born ≥ since)) = new
        generalize hC : (if old.isEmpty = true then #[none] else #[]) ++ (old ++ new).map some = cand
        have key : ∀ (j : Nat) (w1 : World), j < cand.size → Same w w1 → w1.heap = w.heap →
            ∃ v w', (Sem.run P (match cand[j]? with
              | some (some e) => do
                setObj r (.mapIter (some m) since (seen.push e.born) clock)
                pure (.tuple #[.bool true, e.key, e.val])
              | some none => pure (.tuple #[.bool false])
              | none => stuck "Next: no such candidate") w1) = .ok v w' ∧ Same w w' ∧ K v w'.heap := by
          intro j w1 hj hs hh
          rw [Array.getElem?_eq_getElem hj]
          have hmem : cand[j] ∈ cand := Array.getElem_mem hj
          generalize cand[j] = x at hmem ⊢
          rw [← hC, Array.mem_append] at hmem
          cases x with
          | none =>
            refine ⟨_, _, rfl, hs, ?_⟩
            rw [hh]
            refine h2 fun e he hns => ?_
            have hold : old = #[] := by
              rcases hmem with hmem | hmem
              · by_cases ho : old.isEmpty = true
                · simpa using ho
                · simp [ho] at hmem
              · simp at hmem
            rcases Nat.lt_or_ge e.born since with hlt | hge
            · exfalso
              have : e ∈ old := by
                rw [← hO, ← hL]
                simp only [Array.mem_filter]
                exact ⟨⟨he, by simpa using hns⟩, by simpa using hlt⟩
              rw [hold] at this
              simp at this
            · exact hge
          | some e =>
            have hin : e ∈ es ∧ seen.contains e.born = false := by
              have : e ∈ left := by
                rcases hmem with hmem | hmem
                · split at hmem <;> simp at hmem
                · simp only [Array.mem_map, Option.some.injEq] at hmem
                  obtain ⟨e', he', rfl⟩ := hmem
                  rw [Array.mem_append] at he'
                  rcases he' with he' | he'
                  · rw [← hO] at he'; exact (Array.mem_filter.1 he').1
                  · rw [← hN] at he'; exact (Array.mem_filter.1 he').1
              rw [← hL] at this
              have := Array.mem_filter.1 this
              exact ⟨this.1, by simpa using this.2⟩
            simp only [Sem.run_bind]
            rw [setObj_run (w := w1) (by rw [hh]; exact hm) (by simp)]
            refine ⟨_, _, rfl, hs, ?_⟩
            simp only [hh]
            exact h1 e hin.1 hin.2
        have hpos : 0 < cand.size := by
          rw [← hC]
          by_cases ho : old.isEmpty = true
          · simp [ho]; omega
          · have : 0 < old.size := by
              rcases Nat.eq_zero_or_pos old.size with h0 | h0
              · exact absurd (by simpa using h0) ho
              · exact h0
            simp [ho]; omega
        split
        · exact key _ _ hpos (Same.refl w) rfl
        · exact key _ _ (by simp only [Question.cut]; exact Nat.mod_lt _ hpos) ⟨rfl, rfl, rfl⟩ rfl
      · exact h.elim
    · exact h.elim
  · exact h.elim

theorem entryK_sound {it : Value} (h : entryK it w.heap K) : ∃ v w', (Instr.entry it).run P w = .ok v w' ∧ Same w w' ∧ K v w'.heap := by
  unfold entryK at h
  split at h
  · rename_i r sp
    split at h
    · rename_i m _ seen stepped hm
      split at h
      · rename_i es clock hes
        split at h
        · exact h.elim
        · rename_i hc
          split at h
          · rename_i stamp hb
            split at h
            · rename_i e he
              simp only [Instr.entry, Sem.run_bind, getObj_run hm (by simp), run_getMap hes, Result.andThen_ok, hb]
              rw [if_neg (by simpa using hc)]
              simp only [he, Sem.run_pure]
              exact ⟨_, _, rfl, Same.refl w, h⟩
            · exact h.elim
          · exact h.elim
      · exact h.elim
    · exact h.elim
  · exact h.elim

theorem info_parts' {e : TypeId} {z : Value} {size bytes : Nat} (h : (P.info? e).bind (fun i => i.zero.map fun z => (z, i.size, i.bytes)) = some (z, size, bytes)) :
    ∃ i, P.info? e = some i ∧ i.zero = some z ∧ i.size = size ∧ i.bytes = bytes := by
  cases hi : P.info? e with
  | none => simp [hi] at h
  | some i =>
    cases hz : i.zero with
    | none => simp [hi, hz] at h
    | some z' => simp [hi, hz] at h; exact ⟨i, rfl, by rw [hz, h.1], h.2.1, h.2.2⟩

theorem range0 (f : Nat → Value) : (Array.range 0).map f = #[] := by simp

theorem mkK_sound {t e : TypeId} {z : Value} {size bytes : Nat} {l c : Value} (ht : P.underlying t = some (.slice e))
    (hi : (P.info? e).bind (fun i => i.zero.map fun z => (z, i.size, i.bytes)) = some (z, size, bytes)) (h : mkK z e size bytes l c w.heap K) :
    ∃ v w', (Instr.makeSlice t l c).run P w = .ok v w' ∧ Same w w' ∧ K v w'.heap := by
  obtain ⟨i, hj, hz, rfl, rfl⟩ := info_parts' hi
  clear hi
  unfold mkK at h
  split at h
  · rename_i k l k' c
    obtain ⟨h1, h2, h3, hK⟩ := h
    simp only [Instr.makeSlice, Sem.run_bind, run_underlying ht, Result.andThen_ok, asInt, asIntOf, Sem.run_pure, typeInfo, run_program, hj]
    rw [if_neg (by simp; omega)]
    simp only [Sem.run_bind, run_askRoom, Result.andThen_ok, sizeOf, typeInfo, run_program, hj, Sem.run_pure]
    by_cases h0 : (IntKind.i64.wrap c).toNat * i.size = 0
    · simp only [h0, if_true, Sem.run_pure, Result.andThen_ok, newRow, Sem.run_bind, run_newObj']
      refine ⟨_, _, rfl, ⟨rfl, rfl, rfl⟩, ?_⟩
      rw [zerosOf, h0, range0] at hK
      rw [range0]
      exact hK
    · simp only [h0, if_false, Sem.run_bind, zeroValue, typeInfo, run_program, hj, hz, Sem.run_pure, Result.andThen_ok, newRow, run_newObj']
      exact ⟨_, _, rfl, ⟨rfl, rfl, rfl⟩, hK⟩
  · exact h.elim

theorem rowK_sound {t e : TypeId} {s len : Nat} {z : Value} {parts : Array (Nat × Operand)} {l : List (Nat × Nat × Value)} (ht : P.underlying t = some (.slice e)) (hs : tySize P e = some s) (hz : tyZero P e = some z)
    (hsmall : ¬ len * s > 2 ^ 24) (hl : partsL (fun i => some (i * s, s)) ρ parts.toList = some l) (h : rowK (zerosOf z (len * s)) e len l w.heap K) :
    ∃ v w', (Instr.buildSlice t len (parts.map fun (i, x) => (i, ev ρ x))).run P w = .ok v w' ∧ Same w w' ∧ K v w'.heap := by
  unfold rowK at h
  cases hf : fillL (zerosOf z (len * s)) l with
  | none => simp [hf] at h
  | some c =>
    simp only [hf] at h
    have hfill := fill_eq _ _ _ _ hl hf
    rw [← Array.toList_map] at hfill
    simp only [Instr.buildSlice, Sem.run_bind, run_underlying ht, Result.andThen_ok, run_sizeOf' hs, hsmall, if_false]
    by_cases h0 : len * s = 0
    · simp only [h0, if_true, Sem.run_bind, Sem.run_pure, Result.andThen_ok]
      have e : zerosOf z (len * s) = #[] := by simp [zerosOf, h0]
      rw [e] at hfill
      rw [range0, hfill]
      simp only [newRow, Sem.run_bind, run_newObj', Result.andThen_ok, Sem.run_pure]
      exact ⟨_, _, rfl, ⟨rfl, rfl, rfl⟩, h⟩
    · simp only [h0, if_false, Sem.run_bind, run_zeroValue' hz, Result.andThen_ok, Sem.run_pure]
      unfold zerosOf at hfill
      rw [hfill]
      simp only [newRow, Sem.run_bind, run_newObj', Result.andThen_ok, Sem.run_pure]
      exact ⟨_, _, rfl, ⟨rfl, rfl, rfl⟩, h⟩

theorem appK_sound {t u e ty : TypeId} {z : Value} {size bytes : Nat} {s x : Value} {ts : Array TypeId} (hts : ts.toList = [t, u]) (ht : P.underlying t = some (.slice e)) (hu : ∃ d, P.underlying u = some d ∧ ∀ k, d ≠ .int k)
    (hi : (P.info? e).bind (fun i => i.zero.map fun z => (z, i.size, i.bytes)) = some (z, size, bytes)) (h : appK z e size bytes s x w.heap K) :
    ∃ v w', (Builtin.append_ ts ty #[s, x]).run P w = .ok v w' ∧ Same w w' ∧ K v w'.heap := by
  obtain ⟨i, hj, hz, rfl, rfl⟩ := info_parts' hi
  clear hi
  obtain ⟨d, hu, hd⟩ := hu
  obtain rfl : ts = #[t, u] := by apply Array.ext'; simpa using hts
  unfold appK at h
  split at h
  · rename_i base sLen sCap n hn
    simp only [Builtin.append_, List.getElem?_toArray, List.getElem?_cons_zero, List.getElem?_cons_succ, Sem.run_bind, run_underlying ht, run_underlying hu, Result.andThen_ok, Sem.run_pure, sizeOf, typeInfo, run_program, hj]
    rw [if_neg (by simp)]
    simp only [Sem.run_bind, run_lenN hn, Result.andThen_ok]
    simp only [Bool.not_false, if_true]
    split at h
    · rename_i hroom
      simp only [hroom, if_true]
      split at h
      · rename_i news hsrc
        simp only [Sem.run_bind, run_srcOf hsrc, Result.andThen_ok]
        split at h
        · rename_i a
          split at h
          · rename_i h' hst
            obtain ⟨w', hr, hs, hh⟩ := run_storesOf (P := P) _ _ 0 w h' hst
            simp only [Sem.run_bind, hr, Result.andThen_ok, Sem.run_pure]
            exact ⟨_, _, rfl, hs, hh ▸ h⟩
          · exact h.elim
        · simp only [Sem.run_pure]
          exact ⟨_, _, rfl, Same.refl w, h⟩
      · exact h.elim
    · rename_i hroom
      obtain ⟨hlen, hcap, h⟩ := h
      simp only [hroom, if_false]
      split at h
      · rename_i olds news ho hn'
        simp only [Sem.run_bind, run_program, Result.andThen_ok, hj, Sem.run_pure]
        rw [if_neg (by omega)]
        simp only [Sem.run_bind, run_program, Result.andThen_ok, hj, Sem.run_pure]
        rw [if_neg (by omega)]
        simp only [Sem.run_bind, run_program, Result.andThen_ok, hj, Sem.run_pure, run_choose, Question.forced, Bool.false_eq_true, if_false, run_askRoom]
        have hH : ∀ m l, srcOf i.size w.heap m l = srcOf i.size ({ w with drawn := w.drawn + 1 } : World).heap m l := fun _ _ => rfl
        rw [hH] at ho hn'
        rw [run_srcOf ho]
        simp only [Sem.run_bind, Result.andThen_ok]
        rw [run_srcOf hn']
        simp only [Sem.run_bind, Result.andThen_ok, newRow, run_newObj', Sem.run_pure, zeroValue, typeInfo, run_program, hj, hz]
        refine ⟨_, _, rfl, ⟨rfl, rfl, rfl⟩, ?_⟩
        refine h _ ?_ ?_
        · simp only [Question.cut]; omega
        · simp only [Question.cut]
          have h63 : ((sLen + n : Nat) : Int) ≤ 2 ^ 63 - 1 := by simpa [IntKind.max, IntKind.signed, IntKind.bits] using hlen
          have := Nat.mod_lt (w.tape w.drawn (.appendCap (sLen + n) sCap e)) (show 0 < 2 ^ 63 - (sLen + n) by omega)
          omega
      · exact h.elim
  · exact h.elim

theorem cpyK_sound {t e ty : TypeId} {size : Nat} {d x : Value} {ts : Array TypeId} (h0 : ts[0]? = some t) (ht : P.underlying t = some (.slice e)) (hs : tySize P e = some size) (h : cpyK size d x w.heap K) :
    ∃ v w', (Builtin.copy_ ts ty #[d, x]).run P w = .ok v w' ∧ Same w w' ∧ K v w'.heap := by
  unfold cpyK at h
  split at h
  · rename_i base dLen dCap _ n hn
    simp only [Builtin.copy_, h0]
    simp only [List.getElem?_toArray, List.getElem?_cons_zero, List.getElem?_cons_succ, Sem.run_bind, run_underlying ht, Result.andThen_ok, run_lenN hn, run_sizeOf' hs]
    split at h
    · rename_i news hsrc
      rw [run_srcOf hsrc]
      simp only [Result.andThen_ok]
      split at h
      · rename_i a
        split at h
        · rename_i h' hst
          obtain ⟨w', hr, hs, hh⟩ := run_storesOf (P := P) _ _ 0 w h' hst
          simp only [Sem.run_bind, hr, Result.andThen_ok, Sem.run_pure]
          exact ⟨_, _, rfl, hs, hh ▸ h⟩
        · exact h.elim
      · simp only [Sem.run_pure]
        exact ⟨_, _, rfl, Same.refl w, h⟩
    · exact h.elim
  · exact h.elim

theorem Done.of {s : Sem Value} (h : ∃ v w', s.run P w = .ok v w' ∧ Same w w' ∧ K v w'.heap) : Done P K w ((do pure (.value (← s)) : Sem Next).run P w) := by
  obtain ⟨v, w', h1, h2, h3⟩ := h
  exact Done.value h1 h2 h3

theorem Done.ofU {s : Sem Unit} (h : ∃ w', s.run P w = .ok () w' ∧ Same w w' ∧ K undef w'.heap) : Done P K w ((do s; pure .skip : Sem Next).run P w) := by
  obtain ⟨w', h1, h2, h3⟩ := h
  exact Done.unit h1 h2 h3

theorem run_callFunc {f : FuncId} {args : Array Value} (h : okCallee P f = true) : (callFunc f args).run P w = .ok (.enter f args) w := by
  unfold okCallee at h
  cases hf : P.funcs[f]? with
  | none => simp [hf] at h
  | some fn =>
    simp only [hf, Bool.and_eq_true, Bool.not_eq_true'] at h
    simp only [callFunc, Sem.run_bind, run_program, Result.andThen_ok, hf]
    rw [if_neg (by rw [h.1]; simp)]
    have hb : fn.body.isNone = false := by cases hb : fn.body <;> simp_all
    rw [if_neg (by rw [hb]; simp)]
    rfl

theorem FCall.done {f : FuncId} {args : Array Value} (h : FCall P f args w.heap K) : Done P K w ((callFunc f args).run P w) := by
  rcases h with h | h
  · rw [run_callFunc h.1]
    exact ⟨rfl, h⟩
  · obtain ⟨v, w', h1, h2, h3⟩ := h w rfl
    rw [h1]
    exact ⟨h2, h3⟩
theorem FCall.calls {f : FuncId} {args : Array Value} {h : Heap} (hok : okCallee P f = true) (H : FCall P f args h K) (w : World) (hw : w.heap = h) : Calls P f args w fun e w' => ∃ v, e = .returned v ∧ Same w w' ∧ K v w'.heap := by
  rcases H with H | H
  · exact H.2 w hw
  · obtain ⟨v, w', h1, _⟩ := H w hw
    rw [run_callFunc hok] at h1
    cases h1

theorem clK_sound {x : Value} {args : Array Value} (h : clK P x args w.heap K) : Done P K w ((do let d ← Deferred.ofValue x args; invoke d.target d.args : Sem Next).run P w) := by
  unfold clK at h
  split at h
  · simp only [Deferred.ofValue, Sem.run_bind, Sem.run_pure, Result.andThen_ok, invoke]
    exact h.done
  · exact h.elim

theorem effB_sound {b : Builtin} {args : List Value} {ts : Array TypeId} {ty : TypeId} {cs : Array Bool} (h : effB P b args ts.toList w.heap K) : Done P K w ((builtin b ts ty cs args.toArray).run P w) := by
  unfold effB at h
  split at h
  · split at h
    · rename_i s x t u hts
      split at h
      · rename_i e d ht hu
        split at h
        · rename_i z size bytes hi
          exact Done.of (appK_sound hts ht ⟨_, hu, by simp⟩ hi h)
        · exact h.elim
      · rename_i e ht hu
        split at h
        · rename_i z size bytes hi
          exact Done.of (appK_sound hts ht ⟨_, hu, by simp⟩ hi h)
        · exact h.elim
      · exact h.elim
    · exact h.elim
  · split at h
    · rename_i d x t rest hts
      have h0 : ts[0]? = some t := by rw [← Array.getElem?_toList, hts]; rfl
      split at h
      · rename_i e ht
        split at h
        · rename_i size hs
          exact Done.of (cpyK_sound h0 ht hs h)
        · exact h.elim
      · exact h.elim
    · exact h.elim
  · split at h
    · rename_i m k t rest hts
      have h0 : ts[0]? = some t := by rw [← Array.getElem?_toList, hts]; rfl
      split at h
      · rename_i kt et ht
        split at h
        · rename_i kd hk
          exact Done.of (mapDelK_sound h0 ht hk h)
        · exact h.elim
      · exact h.elim
    · exact h.elim
  · exact h.elim

theorem bytes_loop (f : Value → ByteArray → Sem (ForInStep ByteArray)) (hf : ∀ n s, f (.int .u8 n) s = pure (.yield (s.push (UInt8.ofNat n.toNat)))) :
    ∀ (l : List Value) (b : List UInt8) (s : ByteArray), bytesL l = some b → (forIn l s f).run P w = .ok ⟨s.data ++ b.toArray⟩ w
  | [], b, s, h => by
    simp only [bytesL, Option.some.injEq] at h
    subst h
    simp
  | v :: r, b, s, h => by
    unfold bytesL at h
    split at h
    · rename_i n
      split at h
      · rename_i l hl
        simp only [Option.some.injEq] at h
        subst h
        have := bytes_loop f hf r l (s.push (UInt8.ofNat n.toNat)) hl
        simp only [List.forIn_cons, hf, Sem.run_bind, Sem.run_pure, Result.andThen_ok, this]
        congr 1
        apply ByteArray.ext
        apply Array.ext'
        show (s.data.push (UInt8.ofNat n.toNat) ++ l.toArray).toList = _
        simp
      · cases h
    · cases h
theorem bsK_sound {x : Value} (h : bsK x w.heap K) : ∃ v w', (Conv.bytesToString x).run P w = .ok v w' ∧ Same w w' ∧ K v w'.heap := by
  unfold bsK at h
  split at h
  · exact ⟨_, w, rfl, Same.refl w, h⟩
  · rename_i a n c
    split at h
    · rename_i l hl
      split at h
      · rename_i b hb
        refine ⟨_, w, ?_, Same.refl w, h⟩
        have h1 := run_loadsOf (P := P) a _ 0 #[] l hl
        simp only [Conv.bytesToString, loadCells, Sem.run_bind, h1, Result.andThen_ok, Array.empty_append, List.forIn_toArray]
        rw [bytes_loop _ (fun n s => rfl) l b ByteArray.empty hb]
        simp
      · exact h.elim
    · exact h.elim
  · exact h.elim

theorem effK_sound {op : Op} (o : Oper) (ho : o.op = op) (h : effK P ρ op w.heap K) : Done P K w ((execOp (ev ρ) o).run P w) := by
  unfold effK at h
  split at h
  case h_1 t =>
    split at h
    · rename_i z hz
      simp only [execOp, ho]
      refine Done.of ⟨.pointer (some ⟨w.heap.size, 0, none⟩), { w with heap := w.heap.push (.cells z.cells t) }, ?_, ⟨rfl, rfl, rfl⟩, h⟩
      simp only [Instr.alloc, Sem.run_bind, run_zeroValue' hz, Result.andThen_ok, newVar, newRow, run_newObj', Sem.run_pure]
    · exact h.elim
  case h_2 t x =>
    simp only [execOp, ho]
    refine Done.of ⟨.pointer (some ⟨w.heap.size, 0, none⟩), { w with heap := w.heap.push (.cells (ev ρ x).cells t) }, ?_, ⟨rfl, rfl, rfl⟩, h⟩
    simp only [Instr.box, Sem.run_bind, Result.andThen_ok, newVar, newRow, run_newObj', Sem.run_pure]
  case h_3 t len parts =>
    split at h
    · rename_i e ht
      split at h
      · rename_i s z hs hz
        split at h
        · exact h.elim
        · rename_i hsmall
          split at h
          · rename_i l hl
            simp only [execOp, ho]
            exact Done.of (rowK_sound ht hs hz hsmall hl h)
          · exact h.elim
      · exact h.elim
    · exact h.elim
  case h_4 t a x =>
    split at h
    · rename_i n hn
      simp only [execOp, ho]
      exact Done.ofU (stK_sound hn h)
    · exact h.elim
  case h_5 t l c =>
    split at h
    · rename_i e ht
      split at h
      · rename_i z size bytes hi
        simp only [execOp, ho]
        exact Done.of (mkK_sound ht hi h)
      · exact h.elim
    · exact h.elim
  case h_6 t =>
    simp only [execOp, ho]
    refine Done.of ⟨.map (some w.heap.size), { w with heap := w.heap.push (.map #[] 0) }, ?_, ⟨rfl, rfl, rfl⟩, h⟩
    simp only [Instr.makeMap, Option.map_none, Sem.run_bind, run_newObj', Result.andThen_ok, Sem.run_pure]
  case h_7 t m k x | h_8 t m k x =>
    split at h
    · rename_i kt et ht
      split at h
      · rename_i kd hk
        simp only [execOp, ho]
        exact Done.ofU (mapPutK_sound ht hk h)
      · exact h.elim
    · exact h.elim
  case h_9 t m k =>
    split at h
    · rename_i kt et ht
      split at h
      · rename_i kd z hk hz
        simp only [execOp, ho]
        exact Done.of (mapEntryK_sound ht hk hz h)
      · exact h.elim
    · exact h.elim
  case h_10 t m s x =>
    simp only [execOp, ho]
    exact Done.ofU (entryStK_sound h)
  case h_11 t x =>
    split at h
    · rename_i kt et ht
      simp only [execOp, ho]
      exact Done.of (rangeMapK_sound ht h)
    · rename_i ht
      simp only [execOp, ho]
      exact Done.of (rangeStrK_sound ht h)
    · exact h.elim
  case h_12 it s =>
    simp only [execOp, ho]
    cases s
    · exact Done.of (nextMapK_sound h)
    · exact Done.of (nextStrK_sound h)
  case h_13 it =>
    simp only [execOp, ho]
    exact Done.of (entryK_sound h)
  case h_14 c =>
    split at h
    · rename_i b hb
      have := effB_sound (P := P) (w := w) (ty := o.type) (cs := c.args.map fun | .const _ => true | _ => false) h
      rw [Array.toArray_toList] at this
      simp only [execOp, ho, resolve, hb, Sem.run_bind, Sem.run_pure, Result.andThen_ok, invoke]
      exact this
    · rename_i f hb
      simp only [execOp, ho, resolve, hb, ev, Deferred.ofValue, Sem.run_bind, Sem.run_pure, Result.andThen_ok, invoke]
      simp only [Array.empty_append, Array.append_empty]
      exact h.done
    · rename_i x _ hb
      simp only [execOp, ho, resolve, hb]
      exact clK_sound h
    · exact h.elim
  case h_15 s d x =>
    split at h
    · rename_i e h1 h2
      split at h
      · rename_i h3
        simp only [execOp, ho]
        refine Done.of ?_
        obtain ⟨v, w', h4, h5, h6⟩ := bsK_sound (P := P) h
        refine ⟨v, w', ?_, h5, h6⟩
        simp only [convert, Sem.run_bind, run_underlying h1, run_underlying h2, run_underlying h3, Result.andThen_ok]
        generalize ev ρ x = y at h h4 ⊢
        cases y <;> first | exact h4 | (simp only [Sem.run_bind, run_underlying h3, Result.andThen_ok]; exact h4) | exact h.elim
      · exact h.elim
    · exact h.elim
  case h_16 => exact h.elim
end
end Go.Crisp
