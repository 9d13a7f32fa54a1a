/- Several texts of this session, one behind the other, without what this claim does not need (put together by its program pack.py). Conditions: none. -/
import Derived.Orders
import Derived.OrdersHeld
import Derived.Deep.Quiet
import Derived.Calls
import Derived.Laws.Sem
import Derived.Laws.World
import Derived.Laws.StructEq
import Derived.LaidEql
import Derived.Tactics
import Derived.KernelRfl
import Derived.Test.YtolcfipmjhjeaaaDoorProg
import Derived.Shelf.Strings.Search3
import Derived.Shelf.Strings.Cut
import Derived.Shelf.Strconv.ParseIntPublic10
import Derived.Shelf.Unicode.DecodeAny
import Derived.RangeFuncKeeps
import Derived.RangeFuncCalls
import Derived.RangeFuncLeaves
import Derived.RangeFuncBox
import Derived.Shelf.Abstract
import Derived.WalkKit
import Derived.OwnWalkIn
import Derived.TacticsIn
import Derived.TacticsInMore
import Derived.LoopNIn
import Derived.LoopIn
import Derived.RegionIn
import Derived.Shelf.RegionOpen
import Derived.Lib.IndexLaws
import Derived.Laws.Append
import Derived.Lib.ItoaNum
import Derived.Lib.LaidTab
set_option linter.unusedVariables false
set_option linter.unusedSimpArgs false
set_option maxRecDepth 100000
namespace Go.Crisp
open Go
section
abbrev Heap := Array Obj
abbrev Env := Nat → Value
abbrev OpSem := Heap → (Value → Heap → Prop) → Prop
def Same (w w' : World) : Prop := w'.os = w.os ∧ w'.tape = w.tape ∧ w'.output = w.output
theorem Same.refl (w : World) : Same w w := ⟨rfl, rfl, rfl⟩
theorem Same.trans {a b c : World} (h : Same a b) (k : Same b c) : Same a c := ⟨k.1.trans h.1, k.2.1.trans h.2.1, k.2.2.trans h.2.2⟩
def ev (ρ : Env) : Operand → Value
 | .tmp t => ρ t
 | .const v => v
 | .global g => .pointer (some ⟨g, 0, none⟩)
 | .func f => .func (.func f) #[] #[]
def up (ρ : Env) (d : Option Tmp) (v : Value) : Env :=
 match d with
 | some d => fun t => match Nat.beq t d with
  | true => v
  | false => ρ t
 | none => ρ
def cellOf (h : Heap) (a : Addr) : Option Value :=
 match h[a.block]? with
 | some (.cells c _ _) => if a.spot.isSome then none else c[a.off]?
 | _ => none
def frozenOf (h : Heap) (a : Addr) : Bool :=
 match h[a.block]? with
 | some (.cells _ _ (lo, hi)) => lo ≤ a.off && a.off < hi
 | _ => false
def setCellH (h : Heap) (a : Addr) (v : Value) : Heap :=
 h.modify a.block fun
  | .cells c elem frozen => .cells (if a.spot.isSome then c else c.setIfInBounds a.off v) elem frozen
  | o => o
def loadsOf (h : Heap) (a : Addr) : Nat → Nat → Option (List Value)
 | _, 0 => some []
 | i, n + 1 => match cellOf h (a.add i) with
  | some v => match loadsOf h a (i + 1) n with
   | some l => some (v :: l)
   | none => none
  | none => none
def oneCell : Value → Bool
 | .agg _ | .tuple _ => false
 | _ => true
def storesOf (h : Heap) (a : Addr) : Nat → List Value → Option Heap
 | _, [] => some h
 | i, v :: l =>
  match cellOf h (a.add i) with
  | some _ => bif oneCell v && !frozenOf h (a.add i) then storesOf (setCellH h (a.add i) v) a (i + 1) l else none
  | none => none
inductive SE where
 | b | i
 | st (fs : List (Nat × Nat × SE))
inductive EK where
 | b | i | s | p | sl | m | f | o
 | st (fs : List (Nat × Nat × SE))
def seFs (f : TypeId → Option SE) (sz : TypeId → Option Nat) : List Field → Option (List (Nat × Nat × SE))
 | [] => some []
 | fd :: fs => match f fd.type with
  | none => none
  | some e => match sz fd.type with
   | none => none
   | some n => match seFs f sz fs with
    | none => none
    | some l => some ((fd.offset, n, e) :: l)
def flatT (P : Program) (fs : Array Field) (t : TypeId) : Bool := !P.stoodInHeld t && (!P.eqGuardType P.depth t && fs.toList.all fun f => f.name != "_")
def seOf (P : Program) : Nat → TypeId → Option SE
 | 0, _ => none
 | d + 1, t => match P.underlying t with
  | some .bool => some .b
  | some (.int _) => some .i
  | some (.struct fs) => match flatT P fs t with
   | true => match seFs (seOf P d) (fun t => (P.info? t).map (·.size)) fs.toList with
    | some l => some (.st l)
    | none => none
   | false => none
  | _ => none
def ekOf (P : Program) (t : TypeId) : EK :=
 match P.underlying t with
 | some .bool => .b
 | some (.int _) => .i
 | some .string => .s
 | some (.pointer _) => .p
 | some (.slice _) => .sl
 | some (.map _ _) => .m
 | some (.func _ _ _) => .f
 | some (.struct _) => match seOf P 4 t with
  | some (.st l) => .st l
  | _ => .o
 | _ => .o
def seAgg : SE → Bool
 | .st _ => true
 | _ => false
mutual
def seEq : SE → Value → Value → Option Bool
 | .b, .bool a, .bool b => some (a == b)
 | .i, .int k a, .int k' b => if k = k' then some (a == b) else none
 | .st fs, .agg xs, .agg ys => seEqL fs xs ys
 | _, _, _ => none
def seEqL : List (Nat × Nat × SE) → Array Value → Array Value → Option Bool
 | [], _, _ => some true
 | (o, n, e) :: fs, xs, ys =>
  match (bif seAgg e then some (.agg (xs.extract o (o + n))) else xs[o]?), (bif seAgg e then some (.agg (ys.extract o (o + n))) else ys[o]?) with
  | some a, some b => match seEq e a b with
   | some true => seEqL fs xs ys
   | some false => some false
   | none => none
  | _, _ => none
end
def eqV (e : EK) (x y : Value) : Option Bool :=
 match e, x, y with
 | .b, .bool a, .bool b => some (a == b)
 | .p, .pointer none, .pointer b => some b.isNone
 | .p, .pointer (some _), .pointer none => some false
 | .sl, .slice none _ _, .slice b _ _ => some b.isNone
 | .sl, .slice (some _) _ _, .slice none _ _ => some false
 | .m, .map none, .map b => some b.isNone
 | .m, .map (some _), .map none => some false
 | .f, .nilFunc, .nilFunc => some true
 | .f, .nilFunc, .func _ _ _ => some false
 | .f, .func _ _ _, .nilFunc => some false
 | .st fs, .agg xs, .agg ys => seEqL fs xs ys
 | _, _, _ => none
def flatOkB (P : Program) : Bool := true
class FlatOk (P : Program) : Prop where
 ok : flatOkB P = true
def intV (op : BinOp) (k : IntKind) (a b : Int) : Option Value :=
 match op with
 | .add => some (.int k (k.wrap (a + b)))
 | .sub => some (.int k (k.wrap (a - b)))
 | .mul => some (.int k (k.wrap (a * b)))
 | .quo => if b = 0 then none else some (.int k (k.wrap (a.tdiv b)))
 | .rem => if b = 0 then none else some (.int k (a.tmod b))
 | .and => some (.int k (k.wrap (BitVec.ofInt k.bits a &&& BitVec.ofInt k.bits b).toNat))
 | .or => some (.int k (k.wrap (BitVec.ofInt k.bits a ||| BitVec.ofInt k.bits b).toNat))
 | .xor => some (.int k (k.wrap (BitVec.ofInt k.bits a ^^^ BitVec.ofInt k.bits b).toNat))
 | .andNot => some (.int k (k.wrap (BitVec.ofInt k.bits a &&& ~~~ BitVec.ofInt k.bits b).toNat))
 | .eql => some (.bool (a == b))
 | .neq => some (.bool (a != b))
 | .lss => some (.bool (a < b))
 | .leq => some (.bool (a ≤ b))
 | .gtr => some (.bool (b < a))
 | .geq => some (.bool (b ≤ a))
 | _ => none
def strV (op : BinOp) (x y : ByteArray) : Option Value :=
 match op with
 | .add => if ((x.size + y.size : Nat) : Int) > IntKind.i64.max then none else some (.string (x ++ y))
 | .eql => some (.bool (x.toList == y.toList))
 | .neq => some (.bool !(x.toList == y.toList))
 | _ => none
def binV (e : EK) (op : BinOp) (x y : Value) : Option Value :=
 match x, y with
 | .int k a, .int k' b =>
  match op with
  | .shl => if b < 0 then none else some (.int k (k.wrap (a * 2 ^ (min b.toNat k.bits))))
  | .shr => if b < 0 then none else some (.int k (a.fdiv (2 ^ (min b.toNat k.bits))))
  | op => if k = k' then intV op k a b else none
 | .string a, .string b => strV op a b
 | x, y =>
  match op with
  | .eql => (eqV e x y).map .bool
  | .neq => (eqV e x y).map fun b => .bool !b
  | _ => none
def unV (op : UnOp) (x : Value) : Option Value :=
 match op, x with
 | .neg, .int k n => some (.int k (k.wrap (0 - n)))
 | .xor, .int k n => some (.int k (k.wrap (BitVec.ofInt k.bits (if k.signed then -1 else k.max) ^^^ BitVec.ofInt k.bits n).toNat))
 | .not, .bool b => some (.bool !b)
 | _, _ => none
def pickV (c x y : Value) : Option Value :=
 match c with
 | .bool b => some (bif b then x else y)
 | _ => none
def nilV : Value → Option Value
 | .pointer none | .nilIface | .nilFunc => none
 | .func (.method _) _ _ => none
 | x => some x
def ldV (h : Heap) (x : Value) : Option Value :=
 match x with
 | .pointer (some a) => cellOf h a
 | _ => none
def nilO : Operand → Bool
 | .const (.pointer none) => true
 | _ => false
def plainB (h : Heap) (b : Nat) : Bool := match h[b]? with
 | some (.cells _ _ (0, 0)) => true
 | _ => false
def peV (h : Heap) (op : BinOp) (x y : Value) : Option Value :=
 match x, y with
 | .pointer (some a), .pointer (some b) => match op with
  | .eql => if a = b then some (.bool true) else if plainB h a.block && plainB h b.block then some (.bool false) else none
  | .neq => if a = b then some (.bool false) else if plainB h a.block && plainB h b.block then some (.bool true) else none
  | _ => none
 | x, y => binV .p op x y
def ldsV (n : Nat) (h : Heap) (x : Value) : Option Value :=
 match x with
 | .pointer (some a) => (loadsOf h a 0 n).map fun l => .agg l.toArray
 | _ => none
def fldV (off : Nat) (x : Value) : Option Value :=
 match x with
 | .pointer (some a) => some (.pointer (some (a.add off)))
 | _ => none
def partV (agg : Bool) (size off : Nat) (x : Value) : Option Value :=
 match x with
 | .agg cs => bif agg then some (.agg (cs.extract off (off + size))) else cs[off]?
 | _ => none
def idxV (size : Nat) (x i : Value) : Option Value :=
 match x, i with
 | .slice (some a) len _, .int _ i => if 0 ≤ i ∧ i < (len : Int) then some (.pointer (some (a.add (i.toNat * size)))) else none
 | _, _ => none
def idxaV (len size : Nat) (x i : Value) : Option Value :=
 match x, i with
 | .pointer (some a), .int _ i => if 0 ≤ i ∧ i < (len : Int) then some (.pointer (some (a.add (i.toNat * size)))) else none
 | _, _ => none
def indV (x i : Value) : Option Value :=
 match x, i with
 | .string s, .int _ i => (if 0 ≤ i then s[i.toNat]? else none).map fun b => .int .u8 b.toNat
 | _, _ => none
def extV (x : Value) (i : Nat) : Option Value :=
 match x with
 | .tuple vs => vs[i]?
 | _ => none
def cviV (k : IntKind) (x : Value) : Option Value :=
 match x with
 | .int _ n => some (.int k (k.wrap n))
 | _ => none
def cvrsV (x : Value) : Option Value :=
 match x with
 | .int _ n => some (.string (Utf8.encode n))
 | _ => none
def lenslV (x : Value) : Option Value :=
 match x with
 | .slice _ n _ => some (.int .i64 n)
 | _ => none
def lenstV (x : Value) : Option Value :=
 match x with
 | .string s => some (.int .i64 s.size)
 | _ => none
def lenmV (h : Heap) (x : Value) : Option Value :=
 match x with
 | .map none => some (.int .i64 0)
 | .map (some r) => match h[r]? with
  | some (.map es _) => some (.int .i64 es.size)
  | _ => none
 | _ => none
def maxV (x y : Value) : Option Value :=
 match x, y with
 | .int k a, .int _ b => some (.int k (if b > a then b else a))
 | _, _ => none
def minV (x y : Value) : Option Value :=
 match x, y with
 | .int k a, .int _ b => some (.int k (if b < a then b else a))
 | _, _ => none
def max3V (x y z : Value) : Option Value :=
 match maxV x y with
 | some a => maxV a z
 | none => none
def min3V (x y z : Value) : Option Value :=
 match minV x y with
 | some a => minV a z
 | none => none
def bdV (x : Option Value) (d : Nat) (most : Nat) : Option Nat :=
 match x with
 | none => some d
 | some (.int _ i) => if 0 ≤ i ∧ i ≤ (most : Int) then some i.toNat else none
 | some _ => none
def slcV (size : Nat) (x : Value) (lo hi : Option Value) : Option Value :=
 match x with
 | .slice a len cap => match bdV hi len cap with
  | some h => match bdV lo 0 h with
   | some l => some (.slice (if cap = l then a else a.map (·.add (l * size))) (h - l) (cap - l))
   | none => none
  | none => none
 | _ => none
def slsV (x : Value) (lo hi : Option Value) : Option Value :=
 match x with
 | .string s => match bdV hi s.size s.size with
  | some h => match bdV lo 0 h with
   | some l => some (.string (s.extract l h))
   | none => none
  | none => none
 | _ => none
def vK (r : Option Value) (K : Value → Prop) : Prop :=
 match r with
 | some v => K v
 | none => False
def tyAgg (P : Program) (t : TypeId) : Option Bool :=
 (P.underlying t).map fun
  | .struct _ | .array _ _ => true
  | _ => false
def tySize (P : Program) (t : TypeId) : Option Nat := (P.info? t).map (·.size)
def tyZero (P : Program) (t : TypeId) : Option Value := (P.info? t).bind (·.zero)
def keyDesc (P : Program) (t : TypeId) : Option TypeDesc :=
 match P.underlying t with
 | some (.int k) => some (.int k)
 | some .bool => some .bool
 | some .string => some .string
 | _ => none
def mapAt (h : Heap) (m : Value) : Option (Array MapEntry × Nat) :=
 match m with
 | .map (some r) => match h[r]? with
  | some (.map es c) => some (es, c)
  | _ => none
 | _ => none
def lookV (kd : TypeDesc) (zero : Value) (ok : Bool) (h : Heap) (m k : Value) : Option Value :=
 match m with
 | .map none => some (bif ok then .tuple #[zero, .bool false] else zero)
 | m => match mapAt h m with
  | none => none
  | some (es, _) => match Instr.findNow kd k es.toList 0 with
   | some (some (_, v)) => some (bif ok then .tuple #[v, .bool true] else v)
   | some none => some (bif ok then .tuple #[zero, .bool false] else zero)
   | none => none
def fillL (cells : Array Value) : List (Nat × Nat × Value) → Option (Array Value)
 | [] => some cells
 | (off, size, v) :: rest =>
  if v.cells.size ≠ size || off + v.cells.size > cells.size then none
  else fillL (v.cells.zipIdx.foldl (fun cs (c, j) => cs.setIfInBounds (off + j) c) cells) rest
def placesL (P : Program) : List Field → Option (List (Nat × Nat))
 | [] => some []
 | f :: fs => match tySize P f.type with
  | none => none
  | some s => match placesL P fs with
   | none => none
   | some l => some ((f.offset, s) :: l)
def placesOf (P : Program) (t : TypeId) : Option (Nat → Option (Nat × Nat)) :=
 match P.underlying t with
 | some (.struct fs) => (placesL P fs.toList).map fun l => fun i => l[i]?
 | some (.array _ e) => (tySize P e).map fun s => fun i => some (i * s, s)
 | _ => none
def partsL (pl : Nat → Option (Nat × Nat)) (ρ : Env) : List (Nat × Operand) → Option (List (Nat × Nat × Value))
 | [] => some []
 | (i, x) :: rest => match pl i with
  | none => none
  | some (o, s) => match partsL pl ρ rest with
   | none => none
   | some l => some ((o, s, ev ρ x) :: l)
def roB (P : Program) (b : Builtin) (args : List Value) (ts : List TypeId) (h : Heap) : Option (Option Value) :=
 match b with
 | .len => match args, ts with
  | [x], [t] => match P.underlying t with
   | some (.slice _) => some (lenslV x)
   | some .string => some (lenstV x)
   | some (.map _ _) => some (lenmV h x)
   | _ => none
  | _, _ => none
 | .max => match args with
  | [x, y] => some (maxV x y)
  | [x, y, z] => some (max3V x y z)
  | _ => none
 | .min => match args with
  | [x, y] => some (minV x y)
  | [x, y, z] => some (min3V x y z)
  | _ => none
 | _ => none
def roV (P : Program) (ρ : Env) (op : Op) (h : Heap) : Option (Option Value) :=
 match op with
 | .move x | .assign x => some (some (ev ρ x))
 | .pick c x y => some (pickV (ev ρ c) (ev ρ x) (ev ρ y))
 | .load t x => match tyAgg P t with
  | some false => some (ldV h (ev ρ x))
  | some true => match tySize P t with
   | some n => some (ldsV n h (ev ρ x))
   | none => none
  | none => none
 | .nilCheck x => some (nilV (ev ρ x))
 | .binOp op t x y _ => match ekOf P t with
  | .o => none
  | .p => match nilO x || nilO y with
   | true => some (binV .p op (ev ρ x) (ev ρ y))
   | false => match P.underlying t with
    | some (.pointer e) => match tySize P e with
     | some (_ + 1) => some (peV h op (ev ρ x) (ev ρ y))
     | _ => none
    | _ => none
  | e => some (binV e op (ev ρ x) (ev ρ y))
 | .unOp op _ x => some (unV op (ev ρ x))
 | .convert s d x => match P.underlying s, P.underlying d with
  | some (.int _), some (.int k) => some (cviV k (ev ρ x))
  | some (.int _), some .string => some (cvrsV (ev ρ x))
  | _, _ => none
 | .slice t x lo hi none => match P.underlying t with
  | some (.slice e) => match tySize P e with
   | some n => some (slcV n (ev ρ x) (lo.map (ev ρ)) (hi.map (ev ρ)))
   | none => none
  | some .string => some (slsV (ev ρ x) (lo.map (ev ρ)) (hi.map (ev ρ)))
  | _ => none
 | .fieldAddr s x f => match P.underlying s with
  | some (.struct fs) => match fs[f]? with
   | some fd => match tySize P fd.type with
    | some 0 => none
    | some (_ + 1) => some (fldV fd.offset (ev ρ x))
    | none => none
   | none => none
  | _ => none
 | .field t x f => match P.underlying t with
  | some (.struct fs) => match fs[f]? with
   | some fd => match tyAgg P fd.type, tySize P fd.type with
    | some b, some n => some (partV b n fd.offset (ev ρ x))
    | _, _ => none
   | none => none
  | _ => none
 | .indexAddr t x i => match P.underlying t with
  | some (.slice e) => match tySize P e with
   | some n => some (idxV n (ev ρ x) (ev ρ i))
   | none => none
  | some (.array len e) => match tySize P e with
   | some n => some (idxaV len n (ev ρ x) (ev ρ i))
   | none => none
  | _ => none
 | .index t x i => match P.underlying t with
  | some .string => some (indV (ev ρ x) (ev ρ i))
  | _ => none
 | .extract t i => some (extV (ev ρ t) i)
 | .makeInterface t x => match P.underlying t with
  | some (.interface _) => none
  | some _ => some (some (.iface t (ev ρ x)))
  | none => none
 | .makeFunc fn first captured => some (some (.func fn (first.map (ev ρ)) (captured.map (ev ρ))))
 | .lookup t x k ok => match P.underlying t with
  | some (.map kt et) => match keyDesc P kt, tyZero P et with
   | some kd, some z => some (lookV kd z ok h (ev ρ x) (ev ρ k))
   | _, _ => none
  | _ => none
 | .build t parts => match tyZero P t, placesOf P t with
  | some z, some pl => match partsL pl ρ parts.toList with
   | some l => some ((fillL z.cells l).map .agg)
   | none => none
  | _, _ => none
 | .call c => match c.callee with
  | .builtin b => roB P b (c.args.map (ev ρ)).toList c.argTypes.toList h
  | _ => none
 | _ => none
section
variable {P : Program} {ρ : Env} {w : World}
theorem run_sizeOf' {t : TypeId} {n : Nat} (h : tySize P t = some n) : (sizeOf t).run P w = .ok n w := by
 unfold tySize at h
 cases hi : P.info? t with
 | none => simp [hi] at h
 | some i => simp [hi] at h; simp [sizeOf, typeInfo, hi, h]
theorem run_isAgg' {t : TypeId} {b : Bool} (h : tyAgg P t = some b) : (isAgg t).run P w = .ok b w := by
 unfold tyAgg at h
 cases hi : P.underlying t with
 | none => simp [hi] at h
 | some d =>
  simp only [hi, Option.map_some, Option.some.injEq] at h
  subst h
  simp only [isAgg, Sem.run_bind, run_underlying hi, Result.andThen_ok]
  cases d <;> rfl
theorem run_zeroValue' {t : TypeId} {z : Value} (h : tyZero P t = some z) : (zeroValue t).run P w = .ok z w := by
 unfold tyZero at h
 cases hi : P.info? t with
 | none => simp [hi] at h
 | some i => simp [hi] at h; simp [zeroValue, typeInfo, hi, h]
theorem cell?_eq (a : Addr) : w.cell? a = cellOf w.heap a := rfl
theorem run_load' {a : Addr} {v : Value} (h : cellOf w.heap a = some v) : (load a).run P w = .ok v w := by
 have : w.cell? a = some v := h
 simp [this]
theorem run_loadsOf (a : Addr) : ∀ (n i : Nat) (acc : Array Value) (l : List Value), loadsOf w.heap a i n = some l → (loadCellsFrom a i n acc).run P w = .ok (acc ++ l.toArray) w
 | 0, i, acc, l, h => by
  simp [loadsOf] at h; subst h; simp [loadCellsFrom]
 | n + 1, i, acc, l, h => by
  unfold loadsOf at h
  cases h1 : cellOf w.heap (a.add i) with
  | none => simp [h1] at h
  | some v =>
   simp only [h1] at h
   cases h2 : loadsOf w.heap a (i + 1) n with
   | none => simp [h2] at h
   | some l' =>
    simp only [h2, Option.some.injEq] at h
    subst h
    have := run_loadsOf a n (i + 1) (acc.push v) l' h2
    simp only [loadCellsFrom, Sem.run_bind, run_load' h1, Result.andThen_ok, this]
    congr 1
    apply Array.ext'
    simp
theorem run_loadVar_one {t : TypeId} {a : Addr} {v : Value} (ht : tyAgg P t = some false) (h : cellOf w.heap a = some v) : (loadVar t a).run P w = .ok v w := by
 simp [loadVar, run_isAgg' ht]; simpa using run_load' (P := P) h
theorem run_loadVar_agg {t : TypeId} {a : Addr} {n : Nat} {l : List Value} (ht : tyAgg P t = some true) (hs : tySize P t = some n) (h : loadsOf w.heap a 0 n = some l) :
  (loadVar t a).run P w = .ok (.agg l.toArray) w := by
 have := run_loadsOf (P := P) a n 0 #[] l h
 simp [loadVar, run_isAgg' ht, run_sizeOf' hs, loadCells, this]
theorem run_part' {t : TypeId} {b : Bool} {n off : Nat} {cs : Array Value} {v : Value} (ht : tyAgg P t = some b) (hs : tySize P t = some n) (h : partV b n off (.agg cs) = some v) :
  (part t cs off).run P w = .ok v w := by
 simp only [partV] at h
 simp only [part, Sem.run_bind, run_isAgg' ht, Result.andThen_ok]
 cases b
 ·simp at h
  simp [h]
 ·simp at h
  simp [run_sizeOf' hs, h]
theorem run_sliceBound' {x : Value} {most n : Nat} (c : BoundsCode) (d : Nat) (h : bdV (some x) d most = some n) : (Instr.sliceBound x most c).run P w = .ok n w := by
 unfold bdV at h
 cases x <;> simp at h
 rename_i k i
 obtain ⟨h1, rfl⟩ := h
 simp [Instr.sliceBound, asIntOf, h1]
theorem run_sliceBounds' {b : Bool} {len cap l h : Nat} {lo hi : Option Value} (hh : bdV hi len cap = some h) (hl : bdV lo 0 h = some l) :
  (Instr.sliceBounds b len cap lo hi none).run P w = .ok (l, h, cap) w := by
 unfold Instr.sliceBounds
 cases hi with
 | none =>
  simp [bdV] at hh; subst hh
  cases lo with
  | none => simp [bdV] at hl; subst hl; simp
  | some x => simp [run_sliceBound' _ _ hl]
 | some y =>
  cases lo with
  | none => simp [bdV] at hl; subst hl; simp [run_sliceBound' _ _ hh]
  | some x => simp [run_sliceBound' _ _ hh, run_sliceBound' _ _ hl]
theorem run_intV {op : BinOp} {k : IntKind} {a b : Int} {v : Value} (h : intV op k a b = some v) (hs : op ≠ .shl ∧ op ≠ .shr) (t : TypeId) :
  (binOp op t (.int k a) (.int k b)).run P w = .ok v w := by
 cases op <;> simp_all [intV, binOp, Op.intArith, Op.intDiv, Op.intBits, Op.intCmp]
theorem flat_at [FlatOk P] {t : TypeId} {d : Nat} {fs : Array Field} {e : SE} (hu : P.underlying t = some (.struct fs)) (hd : d < 5) (he : seOf P d t = some e) :
  P.stoodInHeld t = false ∧ P.eqGuardType P.depth t = false ∧ ∀ f ∈ fs.toList, f.name ≠ "_" := by
 have h1 : flatT P fs t = true := by
  cases d with
  | zero => cases he
  | succ d =>
   unfold seOf at he
   rw [hu] at he
   simp only at he
   split at he
   ·rename_i hb; exact hb
   ·cases he
 unfold flatT at h1
 simp only [Bool.and_eq_true, Bool.not_eq_true', List.all_eq_true, bne_iff_ne, ne_eq] at h1
 exact ⟨h1.1, h1.2.1, h1.2.2⟩
theorem seOf_agg : ∀ {d : Nat} {t : TypeId} {e : SE}, seOf P d t = some e → tyAgg P t = some (seAgg e)
 | 0, _, _, h => by cases h
 | d + 1, t, e, h => by
  unfold seOf at h
  unfold tyAgg
  split at h
  ·rename_i hu; cases h; rw [hu]; rfl
  ·rename_i hu; cases h; rw [hu]; rfl
  ·rename_i hu
   split at h
   ·split at h
    ·cases h; rw [hu]; rfl
    ·cases h
   ·cases h
  ·cases h
theorem run_seEq [FlatOk P] : ∀ (d : Nat), d < 5 → ∀ (k : Nat), d ≤ k → ∀ (t : TypeId) (e : SE) (x y : Value) (b : Bool), seOf P d t = some e → seEq e x y = some b → (Op.equalIn k t x y).run P w = .ok b w
 | 0, _, _, _, _, _, _, _, _, h, _ => by cases h
 | d + 1, hd, k, hk, t, e, x, y, b, h, hq => by
  obtain ⟨k, rfl⟩ : ∃ m, k = m + 1 := ⟨k - 1, by omega⟩
  have h' := h
  unfold seOf at h
  split at h
  ·rename_i hu
   cases h
   unfold seEq at hq
   split at hq <;> simp_all
   subst hq
   exact run_equalIn_bool' _ _ _ _ _ hu
  ·rename_i hu
   cases h
   unfold seEq at hq
   split at hq <;> simp_all
   obtain ⟨rfl, rfl⟩ := hq
   exact run_equalIn_int _ _ _ _ _ _ _ hu
  ·rename_i fs hu
   split at h
   ·split at h
    case h_2 => cases h
    rename_i l hl
    cases h
    have hf := flat_at hu hd h'
    unfold seEq at hq
    split at hq <;> try (simp at * ; done)
    rename_i fs' xs ys hfs
    cases hfs
    have hfo : P.fieldsOf t = fs := by unfold Program.fieldsOf; rw [hu]
    rw [run_equalIn_struct w k t xs ys (by rw [hfo]; exact hu) hf.1, hfo]
    have names := hf.2.2
    clear hfo hu h' hf
    generalize fs.toList = gs at hl names
    induction gs generalizing l b with
    | nil =>
     simp only [seFs, Option.some.injEq] at hl
     subst hl
     simp only [seEqL, Option.some.injEq] at hq
     subst hq
     rfl
    | cons f gs ih =>
     unfold seFs at hl
     split at hl
     ·cases hl
     ·rename_i e he
      split at hl
      ·cases hl
      ·rename_i n hn
       split at hl
       ·cases hl
       ·rename_i l' hl'
        cases hl
        unfold seEqL at hq
        split at hq
        ·rename_i a b' ha hb
         have pa := run_part' (P := P) (w := w) (seOf_agg he) hn (off := f.offset) (cs := xs) (v := a) (by simpa [partV] using ha)
         have pb := run_part' (P := P) (w := w) (seOf_agg he) hn (off := f.offset) (cs := ys) (v := b') (by simpa [partV] using hb)
         have nm := names f (List.mem_cons_self ..)
         unfold Op.eqFields
         rw [if_pos nm]
         simp only [Sem.run_bind, pa, pb, Result.andThen_ok]
         split at hq
         ·rename_i hs
          rw [run_seEq d (by omega) k (by omega) _ _ _ _ _ he hs]
          simp only [Result.andThen_ok, Bool.not_true, Bool.false_eq_true, if_false]
          exact ih b l' hq hl' fun g hg => names g (List.mem_cons_of_mem _ hg)
         ·rename_i hs
          cases hq
          rw [run_seEq d (by omega) k (by omega) _ _ _ _ _ he hs]
          rfl
         ·cases hq
        ·cases hq
   ·cases h
  ·cases h
theorem eqV_shape {e : EK} {x y : Value} {b : Bool} (hs : ∀ fs, e ≠ .st fs) (h : eqV e x y = some b) : (∀ c, x ≠ .agg c) ∧ x ≠ .nilIface := by
 unfold eqV at h
 split at h <;> simp_all
theorem run_eqGuard {op : BinOp} {t : TypeId} {x y : Value} (x' y' : Operand) (h : (∀ c, x ≠ .agg c) ∧ x ≠ .nilIface) : (eqGuard op t x' y' x y).run P w = .ok () w := by
 unfold eqGuard
 cases op <;> (try rfl) <;> (simp only [Bool.not_true, Bool.false_eq_true, if_false]; cases x <;> first | rfl | simp_all)
theorem run_eqV {e : EK} {t : TypeId} {x y : Value} {b : Bool} (he : ekOf P t = e) (ho : e ≠ .o) (hs : ∀ fs, e ≠ .st fs) (h : eqV e x y = some b) : (Op.equal t x y).run P w = .ok b w := by
 unfold ekOf at he
 cases hu : P.underlying t with
 | none => simp [hu] at he; exact absurd he.symm ho
 | some d =>
  simp only [hu] at he
  unfold Op.equal Op.maxDepth
  rw [show (10000 : Nat) = 9999 + 1 from rfl]
  unfold Op.equalIn
  simp only [Sem.run_bind, run_underlying hu, Result.andThen_ok]
  cases d with
  | struct fs =>
   exfalso
   simp only at he
   split at he
   ·exact hs _ he.symm
   ·exact ho he.symm
  | _ =>
   simp only at he
   subst he
   first
   | exact absurd rfl ho
   | (unfold eqV at h; split at h <;> simp_all)
theorem run_binV_eq {e : EK} {op : BinOp} {t : TypeId} {x y v : Value} {b : Bool} (he : ekOf P t = e) (ho : e ≠ .o) (hs : ∀ fs, e ≠ .st fs) (hq : eqV e x y = some b)
  (h : op = .eql ∧ v = .bool b ∨ op = .neq ∧ v = .bool !b) : (binOp op t x y).run P w = .ok v w := by
 have hr := run_eqV (P := P) (w := w) he ho hs hq
 unfold eqV at hq
 rcases h with ⟨rfl, rfl⟩ | ⟨rfl, rfl⟩
 all_goals (split at hq <;> simp_all [binOp])
theorem run_stEq [FlatOk P] {l : List (Nat × Nat × SE)} {op : BinOp} {t : TypeId} {x y v : Value} {b : Bool} (he : ekOf P t = .st l) (hq : eqV (.st l) x y = some b)
  (h : op = .eql ∧ v = .bool b ∨ op = .neq ∧ v = .bool !b) (x' y' : Operand) : (do eqGuard op t x' y' x y; binOp op t x y : Sem Value).run P w = .ok v w := by
 have hu : ∃ fs, P.underlying t = some (.struct fs) ∧ seOf P 4 t = some (.st l) := by
  unfold ekOf at he
  split at he <;> first | (cases he; done) | skip
  rename_i fs hu
  split at he
  ·rename_i l' hl; cases he; exact ⟨fs, hu, hl⟩
  ·cases he
 obtain ⟨fs, hu, hl⟩ := hu
 unfold eqV at hq
 split at hq <;> first | (cases hq; done) | skip
 all_goals first | (rename_i xs ys h0; cases h0) | (rename_i h0 _ _; cases h0; done) | skip
 rename_i xs ys h0
 have hse : seEq (.st l) (.agg xs) (.agg ys) = some b := by unfold seEq; exact hq
 have hrun := run_seEq (P := P) (w := w) 4 (by omega) 10000 (by omega) t _ _ _ _ hl hse
 have hg := (flat_at hu (by omega) hl).2.1
 simp only [Sem.run_bind, run_eqGuard_agg w op t x' y' xs ys hg, Result.andThen_ok]
 rcases h with ⟨rfl, rfl⟩ | ⟨rfl, rfl⟩
 ·rw [run_eql_struct, hrun]; rfl
 ·rw [run_neq_struct, hrun]; rfl
theorem run_binV [FlatOk P] {e : EK} {op : BinOp} {t : TypeId} {x y v : Value} (he : ekOf P t = e) (ho : e ≠ .o) (h : binV e op x y = some v) (x' y' : Operand) :
  (do eqGuard op t x' y' x y; binOp op t x y : Sem Value).run P w = .ok v w := by
 unfold binV at h
 split at h
 ·rename_i k a k' b
  simp only [Sem.run_bind, run_eqGuard x' y' (x := .int k a) (by simp), Result.andThen_ok]
  split at h
  ·split at h
   ·cases h
   ·rename_i hb; simp only [Option.some.injEq] at h; subst h; simp [binOp, Op.shift, hb]
  ·split at h
   ·cases h
   ·rename_i hb; simp only [Option.some.injEq] at h; subst h; simp [binOp, Op.shift, hb]
  ·rename_i h1 h2
   split at h
   ·rename_i hk; subst hk
    exact run_intV h ⟨h1, h2⟩ t
   ·cases h
 ·rename_i a b
  simp only [Sem.run_bind, run_eqGuard x' y' (x := .string a) (by simp), Result.andThen_ok]
  unfold strV at h
  cases op <;> simp_all [binOp, Op.stringOp]
 ·split at h
  ·cases hq : eqV e x y with
   | none => simp [hq] at h
   | some b =>
    simp [hq] at h; subst h
    by_cases hst : ∃ fs, e = .st fs
    ·obtain ⟨l, rfl⟩ := hst
     exact run_stEq he hq (.inl ⟨rfl, rfl⟩) x' y'
    ·have hs : ∀ fs, e ≠ .st fs := fun fs h => hst ⟨fs, h⟩
     simp only [Sem.run_bind, run_eqGuard x' y' (eqV_shape hs hq), Result.andThen_ok]
     exact run_binV_eq he ho hs hq (.inl ⟨rfl, rfl⟩)
  ·cases hq : eqV e x y with
   | none => simp [hq] at h
   | some b =>
    simp [hq] at h; subst h
    by_cases hst : ∃ fs, e = .st fs
    ·obtain ⟨l, rfl⟩ := hst
     exact run_stEq he hq (.inr ⟨rfl, rfl⟩) x' y'
    ·have hs : ∀ fs, e ≠ .st fs := fun fs h => hst ⟨fs, h⟩
     simp only [Sem.run_bind, run_eqGuard x' y' (eqV_shape hs hq), Result.andThen_ok]
     exact run_binV_eq he ho hs hq (.inr ⟨rfl, rfl⟩)
  ·cases h
theorem run_checkKey {e : Bool} {kt : TypeId} {kd : TypeDesc} {k : Value} (hk : keyDesc P kt = some kd) (n : Nat) : (Instr.checkKey e (n + 1) kt k).run P w = .ok () w := by
 unfold keyDesc at hk
 cases hu : P.underlying kt with
 | none => simp [hu] at hk
 | some d =>
  simp only [hu] at hk
  simp only [Instr.checkKey, Sem.run_bind, run_underlying hu, Result.andThen_ok]
  cases d <;> simp at hk <;> rfl
theorem sameNow_desc {P : Program} {kt : TypeId} {kd : TypeDesc} (hk : keyDesc P kt = some kd) : P.underlying kt = some kd := by
 unfold keyDesc at hk
 cases hu : P.underlying kt with
 | none => simp [hu] at hk
 | some d => cases d <;> simp_all
theorem run_findKey {kt : TypeId} {kd : TypeDesc} {k : Value} {es : List MapEntry} {r : Option (Nat × Value)} (hk : keyDesc P kt = some kd) (h : Instr.findNow kd k es 0 = some r) :
  (Instr.findKey kt k es).run P w = .ok r w := by
 simp [Instr.findKey, run_underlying (sameNow_desc hk), h]
theorem run_getMap {m : Nat} {es : Array MapEntry} {c : Nat} (h : w.heap[m]? = some (.map es c)) : (getObj m).run P w = .ok (.map es c) w := by
 simp [getObj, Sem.run, h]
theorem run_lookV {t kt et : TypeId} {kd : TypeDesc} {z : Value} {ok : Bool} {m k v : Value} (ht : P.underlying t = some (.map kt et)) (hk : keyDesc P kt = some kd) (hz : tyZero P et = some z)
  (h : lookV kd z ok w.heap m k = some v) : (Instr.lookup t m k ok).run P w = .ok v w := by
 unfold lookV at h
 split at h
 ·simp only [Option.some.injEq] at h
  subst h
  simp only [Instr.lookup, Sem.run_bind, run_underlying ht, Result.andThen_ok, Sem.run_pure]
  rw [show (10000 : Nat) = 9999 + 1 from rfl, run_checkKey hk]
  simp only [Result.andThen_ok]
  rw [run_findKey hk (r := none) (by simp [Instr.findNow])]
  simp only [Result.andThen_ok, Sem.run_bind, run_zeroValue' hz, Sem.run_pure]
  cases ok <;> rfl
 ·rename_i hm
  cases hq : mapAt w.heap m with
  | none => simp [hq] at h
  | some p =>
   obtain ⟨es, c⟩ := p
   simp only [hq] at h
   unfold mapAt at hq
   cases m with
   | map r =>
    cases r with
    | none => simp at hq
    | some r =>
     simp only at hq
     cases hh : w.heap[r]? with
     | none => simp [hh] at hq
     | some o =>
      cases o <;> simp [hh] at hq
      obtain ⟨rfl, rfl⟩ := hq
      simp only [Instr.lookup, Sem.run_bind, run_underlying ht, Result.andThen_ok, run_getMap hh, Sem.run_pure]
      rw [show (10000 : Nat) = 9999 + 1 from rfl, run_checkKey hk]
      simp only [Result.andThen_ok]
      cases hf : Instr.findNow kd k _ 0 with
      | none => rw [hf] at h; cases h
      | some q =>
       rw [hf] at h
       rw [run_findKey hk hf]
       cases q with
       | none =>
        simp only [Option.some.injEq] at h; subst h
        simp only [Result.andThen_ok, Sem.run_bind, run_zeroValue' hz, Sem.run_pure]
        cases ok <;> rfl
       | some q =>
        obtain ⟨i, u⟩ := q
        simp only [Option.some.injEq] at h; subst h
        simp only [Result.andThen_ok]
        cases ok <;> rfl
   | _ => simp at hq
theorem fill_eq {pl : Nat → Option (Nat × Nat)} {ρ : Env} : ∀ (ps : List (Nat × Operand)) (l : List (Nat × Nat × Value)) (cells out : Array Value), partsL pl ρ ps = some l → fillL cells l = some out →
  Instr.fill pl cells (ps.map fun (i, x) => (i, ev ρ x)) = some out
 | [], l, cells, out, h, h' => by simp [partsL] at h; subst h; simpa [fillL, Instr.fill] using h'
 | (i, x) :: ps, l, cells, out, h, h' => by
  unfold partsL at h
  cases hp : pl i with
  | none => simp [hp] at h
  | some p =>
   obtain ⟨o, s⟩ := p
   simp only [hp] at h
   cases hq : partsL pl ρ ps with
   | none => simp [hq] at h
   | some l' =>
    simp only [hq, Option.some.injEq] at h
    subst h
    simp only [fillL] at h'
    simp only [List.map_cons, Instr.fill, hp]
    split at h'
    ·cases h'
    ·rename_i hc
     rw [if_neg hc]
     exact fill_eq ps l' _ out hq h'
theorem run_fieldAt {s f off : Nat} {x v : Value} {fs : Array Field} {fd : Field} {n : Nat} (hs : P.underlying s = some (.struct fs)) (hf : fs[f]? = some fd) (hn : tySize P fd.type = some (n + 1)) (ho : fd.offset = off)
  (h : fldV off x = some v) : (Instr.fieldAt s x f).run P w = .ok v w := by
 unfold fldV at h
 split at h
 ·rename_i a
  simp only [Option.some.injEq] at h
  subst h; subst ho
  simp [Instr.fieldAt, run_underlying hs, hf, Instr.sureAddr, fieldPlace, run_sizeOf' hn]
 ·cases h
theorem run_max2 {x y v : Value} (h : maxV x y = some v) : (Builtin.max2 x y).run P w = .ok v w := by
 unfold maxV at h
 split at h
 ·simp only [Option.some.injEq] at h; subst h; simp [Builtin.max2]
 ·cases h
theorem run_min2 {x y v : Value} (h : minV x y = some v) : (Builtin.min2 x y).run P w = .ok v w := by
 unfold minV at h
 split at h
 ·simp only [Option.some.injEq] at h; subst h; simp [Builtin.min2]
 ·cases h
theorem run_sliceAt_slice {t e n : Nat} {x v : Value} {lo hi : Option Value} (ht : P.underlying t = some (.slice e)) (hn : tySize P e = some n) (h : slcV n x lo hi = some v) :
  (Instr.sliceAt t x lo hi none).run P w = .ok v w := by
 unfold slcV at h
 split at h
 ·rename_i a len cap
  split at h
  ·rename_i hh h1
   split at h
   ·rename_i l h2
    simp only [Option.some.injEq] at h; subst h
    simp [Instr.sliceAt, Instr.slice, run_underlying ht, run_sliceBounds' h1 h2, run_sizeOf' hn]
   ·cases h
  ·cases h
 ·cases h
theorem run_sliceAt_string {t : Nat} {x v : Value} {lo hi : Option Value} (ht : P.underlying t = some .string) (h : slsV x lo hi = some v) :
  (Instr.sliceAt t x lo hi none).run P w = .ok v w := by
 unfold slsV at h
 split at h
 ·rename_i s
  split at h
  ·rename_i hh h1
   split at h
   ·rename_i l h2
    simp only [Option.some.injEq] at h; subst h
    simp [Instr.sliceAt, Instr.slice, run_underlying ht, run_sliceBounds' h1 h2]
   ·cases h
  ·cases h
 ·cases h
theorem run_indexAt_slice {t e n : Nat} {x i v : Value} (ht : P.underlying t = some (.slice e)) (hn : tySize P e = some n) (h : idxV n x i = some v) :
  (Instr.indexAt t x i).run P w = .ok v w := by
 unfold idxV at h
 split at h
 ·rename_i a len _ k j
  split at h
  ·rename_i hb
   simp only [Option.some.injEq] at h; subst h
   simp [Instr.indexAt, asIntOf, run_underlying ht, hb, run_sizeOf' hn]
  ·cases h
 ·cases h
theorem run_indexAt_array {t e n len : Nat} {x i v : Value} (ht : P.underlying t = some (.array len e)) (hn : tySize P e = some n) (h : idxaV len n x i = some v) :
  (Instr.indexAt t x i).run P w = .ok v w := by
 unfold idxaV at h
 split at h
 ·rename_i a k j
  split at h
  ·rename_i hb
   simp only [Option.some.injEq] at h; subst h
   simp [Instr.indexAt, asIntOf, run_underlying ht, Instr.sureAddr, hb, run_sizeOf' hn]
  ·cases h
 ·cases h
theorem run_index_string {t : Nat} {x i v : Value} (ht : P.underlying t = some .string) (h : indV x i = some v) : (Instr.index t x i).run P w = .ok v w := by
 unfold indV at h
 split at h
 ·rename_i s k j
  cases hb : (if 0 ≤ j then s[j.toNat]? else none) with
  | none => simp [hb] at h
  | some b =>
   simp [hb] at h; subst h
   simp [Instr.index, asIntOf, run_underlying ht, hb]
 ·cases h
theorem run_placesL' : ∀ (fs : List Field) (l : List (Nat × Nat)), placesL P fs = some l → (fs.mapM fun f => do pure (f.offset, ← sizeOf f.type) : Sem (List (Nat × Nat))).run P w = .ok l w
 | [], l, h => by simp [placesL] at h; subst h; rfl
 | f :: fs, l, h => by
  unfold placesL at h
  cases h1 : tySize P f.type with
  | none => simp [h1] at h
  | some s =>
   simp only [h1] at h
   cases h2 : placesL P fs with
   | none => simp [h2] at h
   | some l' =>
    simp only [h2, Option.some.injEq] at h
    subst h
    simp only [List.mapM_cons, Sem.run_bind, run_sizeOf' h1, Result.andThen_ok, Sem.run_pure, run_placesL' fs l' h2]
theorem run_placesL {fs : Array Field} {l : List (Nat × Nat)} (h : placesL P fs.toList = some l) : (fs.mapM fun f => do pure (f.offset, ← sizeOf f.type) : Sem (Array (Nat × Nat))).run P w = .ok l.toArray w := by
 rw [Array.mapM_eq_mapM_toList, Sem.run_map, run_placesL' fs.toList l h]
 rfl
theorem roB_sound {b : Builtin} {args : List Value} {ts : Array TypeId} {ty : TypeId} {cs : Array Bool} {v : Value} (hr : roB P b args ts.toList w.heap = some (some v)) : (builtin b ts ty cs args.toArray).run P w = .ok (.value v) w := by
 unfold roB at hr
 split at hr
 ·split at hr
  ·rename_i x t hts
   obtain rfl : ts = #[t] := by apply Array.ext'; simpa using hts
   split at hr
   ·rename_i e ht
    simp only [Option.some.injEq] at hr
    unfold lenslV at hr
    split at hr
    ·simp only [Option.some.injEq] at hr; subst hr
     simp [builtin, Builtin.len_, run_underlying ht, goInt]
    ·cases hr
   ·rename_i ht
    simp only [Option.some.injEq] at hr
    unfold lenstV at hr
    split at hr
    ·simp only [Option.some.injEq] at hr; subst hr
     simp [builtin, Builtin.len_, run_underlying ht, goInt]
    ·cases hr
   ·rename_i ht
    simp only [Option.some.injEq] at hr
    unfold lenmV at hr
    split at hr
    ·simp at hr; subst hr
     simp [builtin, Builtin.len_, run_underlying ht, goInt]
    ·split at hr
     ·rename_i hm
      simp at hr; subst hr
      simp [builtin, Builtin.len_, run_underlying ht, goInt, run_getMap hm]
     ·cases hr
    ·cases hr
   ·cases hr
  ·cases hr
 ·split at hr
  ·simp only [Option.some.injEq] at hr
   simp [builtin, Builtin.max_, run_max2 hr]
  ·rename_i x y z
   simp only [Option.some.injEq] at hr
   unfold max3V at hr
   split at hr
   ·rename_i a ha
    simp [builtin, Builtin.max_, run_max2 ha, run_max2 hr]
   ·cases hr
  ·cases hr
 ·split at hr
  ·simp only [Option.some.injEq] at hr
   simp [builtin, Builtin.min_, run_min2 hr]
  ·rename_i x y z
   simp only [Option.some.injEq] at hr
   unfold min3V at hr
   split at hr
   ·rename_i a ha
    simp [builtin, Builtin.min_, run_min2 ha, run_min2 hr]
   ·cases hr
  ·cases hr
 ·cases hr
theorem plainB_some {h : Heap} {b : Nat} (H : plainB h b = true) : ∃ c t, h[b]? = some (.cells c t (0, 0)) := by
 unfold plainB at H
 split at H
 ·rename_i c t hb; exact ⟨c, t, hb⟩
 ·cases H
theorem run_peV [FlatOk P] {op : BinOp} {t e : TypeId} {n : Nat} {x y v : Value} (he : ekOf P t = .p) (hu : P.underlying t = some (.pointer e)) (hn : tySize P e = some (n + 1)) (h : peV w.heap op x y = some v) (x' y' : Operand) :
  (do eqGuard op t x' y' x y; binOp op t x y : Sem Value).run P w = .ok v w := by
 unfold peV at h
 split at h
 ·rename_i a b
  have hi : ∃ j, P.info? e = some j ∧ j.size ≠ 0 := by
   unfold tySize at hn
   cases hj : P.info? e with
   | none => rw [hj] at hn; cases hn
   | some j => rw [hj] at hn; simp only [Option.map_some, Option.some.injEq] at hn; exact ⟨j, rfl, by omega⟩
  obtain ⟨j, hj, hsz⟩ := hi
  have same : ∀ d : Nat, (Op.equalIn (d + 1) t (.pointer (some a)) (.pointer (some a))).run P w = .ok true w := fun d => by
   simp [Op.equalIn, run_underlying hu, sizeOf, typeInfo, hj, run_sameAddr_same]
  have other : ∀ (hne : a ≠ b), (plainB w.heap a.block && plainB w.heap b.block) = true → ∀ d : Nat, (Op.equalIn (d + 1) t (.pointer (some a)) (.pointer (some b))).run P w = .ok false w := fun hne hpl d => by
   rw [Bool.and_eq_true] at hpl
   obtain ⟨ca, ta, ha⟩ := plainB_some hpl.1
   obtain ⟨cb, tb, hb⟩ := plainB_some hpl.2
   simp [Op.equalIn, run_underlying hu, sizeOf, typeInfo, hj, hsz, run_sameAddr_other w hne ha hb]
  simp only [Sem.run_bind, run_eqGuard x' y' (show (∀ c, Value.pointer (some a) ≠ .agg c) ∧ Value.pointer (some a) ≠ .nilIface from ⟨by simp, by simp⟩), Result.andThen_ok]
  split at h
  ·split at h
   ·rename_i hab; subst hab; cases h; simp only [binOp]; simp [Op.equal, Op.maxDepth, same 9999]
   ·rename_i hab
    split at h
    ·rename_i hpl; cases h; simp only [binOp]; simp [Op.equal, Op.maxDepth, other hab hpl 9999]
    ·cases h
  ·split at h
   ·rename_i hab; subst hab; cases h; simp only [binOp]; simp [Op.equal, Op.maxDepth, same 9999]
   ·rename_i hab
    split at h
    ·rename_i hpl; cases h; simp only [binOp]; simp [Op.equal, Op.maxDepth, other hab hpl 9999]
    ·cases h
  ·cases h
 ·exact run_binV (P := P) (w := w) (t := t) he (by intro h; cases h) h x' y'
theorem roV_sound [FlatOk P] {op : Op} {r : Option Value} {v : Value} (o : Oper) (ho : o.op = op) (hr : roV P ρ op w.heap = some r) (hv : r = some v) : (execOp (ev ρ) o).run P w = .ok (.value v) w := by
 subst hv
 unfold roV at hr
 split at hr
 case h_1 | h_2 => simp at hr; subst hr; simp [execOp, ho]
 case h_3 =>
  simp at hr
  unfold pickV at hr
  split at hr <;> simp at hr
  rename_i c b hc
  subst hr
  simp only [execOp, ho, hc, asBool]
  cases b <;> simp
 case h_4 t x =>
  split at hr
  ·rename_i ht
   simp only [Option.some.injEq] at hr
   unfold ldV at hr
   split at hr
   ·rename_i a hx
    simp [execOp, ho, Instr.loadAt, hx, Instr.sureAddr, run_loadVar_one ht hr]
   ·cases hr
  ·rename_i ht
   split at hr
   ·rename_i n hn
    simp only [Option.some.injEq] at hr
    unfold ldsV at hr
    split at hr
    ·rename_i a hx
     cases hl : loadsOf w.heap a 0 n with
     | none => simp [hl] at hr
     | some l =>
      simp [hl] at hr; subst hr
      simp [execOp, ho, Instr.loadAt, hx, Instr.sureAddr, run_loadVar_agg ht hn hl]
    ·cases hr
   ·cases hr
  ·cases hr
 case h_5 x =>
  simp only [Option.some.injEq] at hr
  unfold nilV at hr
  simp only [execOp, ho]
  split at hr
  ·cases hr
  ·cases hr
  ·cases hr
  ·cases hr
  ·simp only [Option.some.injEq] at hr
   subst hr
   split <;> simp_all
 case h_6 op t x y _ =>
  split at hr
  ·cases hr
  ·rename_i hp
   split at hr
   ·simp only [Option.some.injEq] at hr
    have := run_binV (P := P) (w := w) (t := t) hp (by intro h; cases h) hr x y
    simp only [execOp, ho]
    simp only [Sem.run_bind] at this ⊢
    rw [this]; rfl
   ·split at hr
    ·rename_i e hu
     split at hr
     ·rename_i n hn
      simp only [Option.some.injEq] at hr
      have := run_peV (P := P) (w := w) hp hu hn hr x y
      simp only [execOp, ho]
      simp only [Sem.run_bind] at this ⊢
      rw [this]; rfl
     ·cases hr
    ·cases hr
  ·rename_i e he _
   simp only [Option.some.injEq] at hr
   have := run_binV (P := P) (w := w) (t := t) rfl he hr x y
   simp only [execOp, ho]
   simp only [Sem.run_bind] at this ⊢
   rw [this]; rfl
 case h_7 op t x =>
  simp only [Option.some.injEq] at hr
  unfold unV at hr
  split at hr <;> simp at hr
  all_goals (rename_i hx; subst hr; simp [execOp, ho, hx, Op.unary, Op.intArith, Op.intBits])
 case h_8 s d x =>
  split at hr
  ·rename_i h1 h2
   simp only [Option.some.injEq] at hr
   unfold cviV at hr
   split at hr <;> simp at hr
   rename_i hx; subst hr
   simp [execOp, ho, hx, convert, run_underlying h1, run_underlying h2, Conv.intToInt]
  ·rename_i h1 h2
   simp only [Option.some.injEq] at hr
   unfold cvrsV at hr
   split at hr <;> simp at hr
   rename_i hx; subst hr
   simp [execOp, ho, hx, convert, run_underlying h1, run_underlying h2, Conv.intToString]
  ·cases hr
 case h_9 t x lo hi =>
  simp only [execOp, ho]
  split at hr
  ·rename_i e ht
   split at hr
   ·rename_i n hn
    simp only [Option.some.injEq] at hr
    have := run_sliceAt_slice (P := P) (w := w) ht hn hr
    simp [this]
   ·cases hr
  ·rename_i ht
   simp only [Option.some.injEq] at hr
   have := run_sliceAt_string (P := P) (w := w) ht hr
   simp [this]
  ·cases hr
 case h_10 s x f =>
  split at hr
  ·rename_i fs hs
   split at hr
   ·rename_i fd hf
    split at hr
    ·cases hr
    ·rename_i n hn
     simp only [Option.some.injEq] at hr
     have := run_fieldAt (P := P) (w := w) hs hf hn rfl hr
     simp [execOp, ho, this]
    ·cases hr
   ·cases hr
  ·cases hr
 case h_11 t x f =>
  split at hr
  ·rename_i fs hs
   split at hr
   ·rename_i fd hf
    split at hr
    ·rename_i b n hb hn
     simp only [Option.some.injEq] at hr
     have hr' := hr
     unfold partV at hr
     split at hr
     ·rename_i cs hx
      rw [hx] at hr'
      have := run_part' (P := P) (w := w) hb hn hr'
      simp [execOp, ho, hx, Instr.field, run_underlying hs, hf, asAgg, this]
     ·cases hr
    ·cases hr
   ·cases hr
  ·cases hr
 case h_12 t x i =>
  simp only [execOp, ho]
  split at hr
  ·rename_i e ht
   split at hr
   ·rename_i n hn
    simp only [Option.some.injEq] at hr
    simp [run_indexAt_slice (P := P) (w := w) ht hn hr]
   ·cases hr
  ·rename_i len e ht
   split at hr
   ·rename_i n hn
    simp only [Option.some.injEq] at hr
    simp [run_indexAt_array (P := P) (w := w) ht hn hr]
   ·cases hr
  ·cases hr
 case h_13 t x i =>
  split at hr
  ·rename_i ht
   simp only [Option.some.injEq] at hr
   simp [execOp, ho, run_index_string (P := P) (w := w) ht hr]
  ·cases hr
 case h_14 t i =>
  simp only [Option.some.injEq] at hr
  unfold extV at hr
  split at hr
  ·rename_i vs hx
   simp [execOp, ho, hx, Instr.extract, hr]
  ·cases hr
 case h_15 t x =>
  split at hr
  ·cases hr
  ·rename_i d hd _
   simp only [Option.some.injEq] at hr
   subst hr
   simp only [execOp, ho, Instr.makeInterface, Sem.run_bind]
   rename_i hq
   simp only [run_underlying hq, Result.andThen_ok]
   rfl
  ·cases hr
 case h_16 fn first captured =>
  simp only [Option.some.injEq] at hr
  subst hr
  simp [execOp, ho, Instr.makeFunc]
 case h_17 t x k ok =>
  split at hr
  ·rename_i kt et ht
   split at hr
   ·rename_i kd z hk hz
    simp only [Option.some.injEq] at hr
    simp [execOp, ho, run_lookV (P := P) (w := w) ht hk hz hr]
   ·cases hr
  ·cases hr
 case h_18 t parts =>
  split at hr
  ·rename_i z pl hz hp
   split at hr
   ·rename_i l hl
    simp only [Option.some.injEq] at hr
    cases hf : fillL z.cells l with
    | none => simp [hf] at hr
    | some cs =>
     simp [hf] at hr; subst hr
     have hfill := fill_eq _ _ _ _ hl hf
     rw [← Array.toList_map] at hfill
     unfold placesOf at hp
     simp only [execOp, ho, Instr.build, Sem.run_bind, run_zeroValue' hz, Result.andThen_ok, Sem.run_pure]
     cases hu : P.underlying t with
     | none => simp [hu] at hp
     | some d =>
      rw [run_underlying hu]
      simp only [hu] at hp
      cases d with
      | struct fs =>
       simp only at hp
       cases hq : placesL P fs.toList with
       | none => simp [hq] at hp
       | some l' =>
        simp only [hq, Option.map_some, Option.some.injEq] at hp
        subst hp
        simp only [Result.andThen_ok, Sem.run_bind, run_placesL hq]
        have e : (fun i : Nat => (l'.toArray)[i]?) = fun i : Nat => l'[i]? := by funext i; simp
        rw [e, hfill]
        rfl
      | array n e =>
       simp only at hp
       cases hq : tySize P e with
       | none => simp [hq] at hp
       | some s =>
        simp only [hq, Option.map_some, Option.some.injEq] at hp
        subst hp
        simp only [Result.andThen_ok, Sem.run_bind, run_sizeOf' hq]
        rw [hfill]
        rfl
      | _ => simp at hp
   ·cases hr
  ·cases hr
 case h_19 c =>
  split at hr
  ·rename_i b hb
   have := roB_sound (P := P) (w := w) (ty := o.type) (cs := c.args.map fun | .const _ => true | _ => false) hr
   rw [Array.toArray_toList] at this
   simp only [execOp, ho, resolve, hb, Sem.run_bind, Sem.run_pure, Result.andThen_ok, invoke]
   exact this
  ·cases hr
 case h_20 => cases hr
end
def newK (c : Array Value) (t : TypeId) : OpSem := fun h K => K (.pointer (some ⟨h.size, 0, none⟩)) (h.push (.cells c t))
def stK (n : Nat) (x v : Value) : OpSem := fun h K =>
 match x with
 | .pointer (some a) => if v.cells.size = n then (match storesOf h a 0 v.cells.toList with | some h' => K undef h' | none => False) else False
 | _ => False
def zerosOf (z : Value) (n : Nat) : Array Value := (Array.range n).map (fun i => z.cells[i % z.cells.size]!)
def rowK (c : Array Value) (e : TypeId) (len : Nat) (l : List (Nat × Nat × Value)) : OpSem := fun h K =>
 match fillL c l with
 | some c' => K (.slice (some ⟨h.size, 0, none⟩) len len) (h.push (.cells c' e))
 | none => False
def mkK (z : Value) (e : TypeId) (size bytes : Nat) (l c : Value) : OpSem := fun h K =>
 match l, c with
 | .int _ l, .int _ c =>
  0 ≤ IntKind.i64.wrap l ∧ IntKind.i64.wrap l ≤ IntKind.i64.wrap c ∧ (bytes : Int) * IntKind.i64.wrap c ≤ 2 ^ 48 ∧
   K (.slice (some ⟨h.size, 0, none⟩) (IntKind.i64.wrap l).toNat (IntKind.i64.wrap c).toNat) (h.push (.cells (zerosOf z ((IntKind.i64.wrap c).toNat * size)) e))
 | _, _ => False
def newmK : OpSem := fun h K => K (.map (some h.size)) (h.push (.map #[] 0))
def setObjH (h : Heap) (r : Nat) (o : Obj) : Heap := h.setIfInBounds r o
def mapPutK (kd : TypeDesc) (m k v : Value) : OpSem := fun h K =>
 match m with
 | .map (some r) => match h[r]? with
  | some (.map es c) => match Instr.findNow kd k es.toList 0 with
   | some (some (i, _)) => Instr.sameBits 10000 (((es[i]?).map (·.key)).getD k) k = true ∧ K undef (setObjH h r (.map (es.modify i fun e => { e with key := k, val := v }) c))
   | some none => K undef (setObjH h r (.map (es.push { key := k, val := v, born := c }) (c + 1)))
   | none => False
  | _ => False
 | _ => False
def mapEntryK (kd : TypeDesc) (z : Value) (m k : Value) : OpSem := fun h K =>
 match m with
 | .map (some r) => match h[r]? with
  | some (.map es c) => match Instr.findNow kd k es.toList 0 with
   | some (some (i, v)) => Instr.sameBits 10000 (((es[i]?).map (·.key)).getD k) k = true ∧
     K (.tuple #[v, .int .i64 (((es[i]?).map fun e => (e.born : Int)).getD 0)]) (setObjH h r (.map (es.modify i fun e => { e with key := k }) c))
   | some none => K (.tuple #[z, .int .i64 (c : Nat)]) (setObjH h r (.map (es.push { key := k, val := z, born := c }) (c + 1)))
   | none => False
  | _ => False
 | _ => False
def entryStK (m s v : Value) : OpSem := fun h K =>
 match m, s with
 | .map (some r), .int _ n => match h[r]? with
  | some (.map es c) => match es.findIdx? (fun e => (e.born : Int) == n) with
   | some i => K undef (setObjH h r (.map (es.modify i fun e => { e with val := v }) c))
   | none => False
  | _ => False
 | _, _ => False
def mapDelK (kd : TypeDesc) (m k : Value) : OpSem := fun h K =>
 match m with
 | .map none => K (.tuple #[]) h
 | .map (some r) => match h[r]? with
  | some (.map es c) => match Instr.findNow kd k es.toList 0 with
   | some (some (i, _)) => K (.tuple #[]) (setObjH h r (.map (es.eraseIdxIfInBounds i) c))
   | some none => K (.tuple #[]) (setObjH h r (.map es c))
   | none => False
  | _ => False
 | _ => False
def rangeMapK (m : Value) : OpSem := fun h K =>
 match m with
 | .map none => K (.pointer (some ⟨h.size, 0, none⟩)) (h.push (.mapIter none 0 #[] 0))
 | .map (some r) => match h[r]? with
  | some (.map _ c) => K (.pointer (some ⟨h.size, 0, none⟩)) (h.push (.mapIter (some r) c #[] c))
  | _ => False
 | _ => False
def rangeStrK (s : Value) : OpSem := fun h K =>
 match s with
 | .string s => K (.pointer (some ⟨h.size, 0, none⟩)) (h.push (.stringIter s 0))
 | _ => False
def nextStrK (it : Value) : OpSem := fun h K =>
 match it with
 | .pointer (some ⟨r, 0, _⟩) => match h[r]? with
  | some (.stringIter s pos) =>
   if pos < s.size then K (.tuple #[.bool true, .int .i64 (pos : Nat), .int .i32 (Utf8.decode s pos).1]) (setObjH h r (.stringIter s (pos + (Utf8.decode s pos).2)))
   else K (.tuple #[.bool false]) h
  | _ => False
 | _ => False
def nextMapK (it : Value) : OpSem := fun h K =>
 match it with
 | .pointer (some ⟨r, 0, _⟩) => match h[r]? with
  | some (.mapIter none _ _ _) => K (.tuple #[.bool false]) h
  | some (.mapIter (some m) since seen last) => match h[m]? with
   | some (.map es clock) =>
    (!seen.isEmpty && !es.isEmpty && es.all (·.born ≥ last)) = false ∧
    (∀ e ∈ es, seen.contains e.born = false → K (.tuple #[.bool true, e.key, e.val]) (setObjH h r (.mapIter (some m) since (seen.push e.born) clock))) ∧
    ((∀ e ∈ es, seen.contains e.born = false → since ≤ e.born) → K (.tuple #[.bool false]) h)
   | _ => False
  | _ => False
 | _ => False
def entryK (it : Value) : OpSem := fun h K =>
 match it with
 | .pointer (some ⟨r, 0, _⟩) => match h[r]? with
  | some (.mapIter (some m) _ seen stepped) => match h[m]? with
   | some (.map es clock) => if clock ≠ stepped then False else match seen.back? with
    | some stamp => match es.find? (·.born == stamp) with
     | some e => K (.tuple #[e.key, e.val]) h
     | none => False
    | none => False
   | _ => False
  | _ => False
 | _ => False
def srcOf (size : Nat) (h : Heap) (n : Nat) (x : Value) : Option (List Value) :=
 match x with
 | .slice (some a) _ _ => loadsOf h a 0 (n * size)
 | .slice none _ _ => some []
 | .string s => some ((s.extract 0 n).data.map fun b => Value.int .u8 b.toNat).toList
 | _ => none
def lenN (x : Value) : Option Nat :=
 match x with
 | .slice _ n _ => some n
 | .string s => some s.size
 | _ => none
def appK (z : Value) (e : TypeId) (size bytes : Nat) (s x : Value) : OpSem := fun h K =>
 match s, lenN x with
 | .slice base sLen sCap, some n =>
  if sLen + n ≤ sCap then
   match srcOf size h n x with
   | some news => match base with
    | some a => match storesOf h (a.add (sLen * size)) 0 news with
     | some h' => K (.slice base (sLen + n) sCap) h'
     | none => False
    | none => K (.slice none (sLen + n) sCap) h
   | none => False
  else
   ((sLen + n : Nat) : Int) ≤ IntKind.i64.max ∧ Builtin.nextslicecap (sLen + n) sCap * bytes ≤ 2 ^ 48 ∧
   match srcOf size h sLen s, srcOf size h n x with
   | some olds, some news => ∀ newCap, sLen + n ≤ newCap → newCap ≤ 2 ^ 63 - 1 →
     K (.slice (some ⟨h.size, 0, none⟩) (sLen + n) newCap) (h.push (.cells (olds.toArray ++ news.toArray ++ Builtin.zeroCells z.cells (newCap - (sLen + n))) e))
   | _, _ => False
 | _, _ => False
def cpyK (size : Nat) (d x : Value) : OpSem := fun h K =>
 match d, lenN x with
 | .slice base dLen _, some n =>
  match srcOf size h (Nat.min n dLen) x with
  | some news => match base with
   | some a => match storesOf h a 0 news with
    | some h' => K (.int .i64 (Nat.min n dLen : Nat)) h'
    | none => False
   | none => K (.int .i64 (Nat.min n dLen : Nat)) h
  | none => False
 | _, _ => False
def okCallee (P : Program) (f : FuncId) : Bool :=
 match P.funcs[f]? with
 | some fn => !(fn.name == "runtime.NumGoroutine") && fn.body.isSome
 | none => false
def ECall (P : Program) (f : FuncId) (args : Array Value) : OpSem := fun h K =>
 okCallee P f = true ∧ ∀ w : World, w.heap = h → Calls P f args w fun e w' => ∃ v, e = .returned v ∧ Same w w' ∧ K v w'.heap
def FCall (P : Program) (f : FuncId) (args : Array Value) : OpSem := fun h K =>
 ECall P f args h K ∨ ∀ w : World, w.heap = h → ∃ v w', (callFunc f args).run P w = .ok (.value v) w' ∧ Same w w' ∧ K v w'.heap
theorem FCall.mono {P : Program} {f : FuncId} {args : Array Value} {h : Heap} {K K' : Value → Heap → Prop} (hc : FCall P f args h K) (hk : ∀ v h', K v h' → K' v h') : FCall P f args h K' :=
 hc.imp (fun hc => ⟨hc.1, fun w hw => (hc.2 w hw).mono fun _ _ ⟨v, he, hs, hK⟩ => ⟨v, he, hs, hk _ _ hK⟩⟩)
  fun hc w hw => let ⟨v, w', a, b, c⟩ := hc w hw; ⟨v, w', a, b, hk _ _ c⟩
theorem FCall.ofCalls {P : Program} {f : FuncId} {args : Array Value} {h : Heap} {K : Value → Heap → Prop} (hc : okCallee P f = true)
  (H : ∀ w : World, w.heap = h → Calls P f args w fun e w' => ∃ v, e = .returned v ∧ Same w w' ∧ K v w'.heap) : FCall P f args h K := .inl ⟨hc, H⟩
def clK (P : Program) (f : Value) (args : Array Value) (h : Heap) (K : Value → Heap → Prop) : Prop :=
 match f with
 | .func (.func f) first captured => FCall P f (first ++ args ++ captured) h K
 | _ => False
def effB (P : Program) (b : Builtin) (args : List Value) (ts : List TypeId) (h : Heap) (K : Value → Heap → Prop) : Prop :=
 match b with
 | .append => match args, ts with
  | [s, x], [t, u] => match P.underlying t, P.underlying u with
   | some (.slice e), some (.slice _) | some (.slice e), some .string => match (P.info? e).bind fun i => i.zero.map fun z => (z, i.size, i.bytes) with
    | some (z, size, bytes) => appK z e size bytes s x h K
    | none => False
   | _, _ => False
  | _, _ => False
 | .copy => match args, ts with
  | [d, x], t :: _ => match P.underlying t with
   | some (.slice e) => match tySize P e with
    | some size => cpyK size d x h K
    | none => False
   | _ => False
  | _, _ => False
 | .delete => match args, ts with
  | [m, k], t :: _ => match P.underlying t with
   | some (.map kt _) => match keyDesc P kt with
    | some kd => mapDelK kd m k h K
    | none => False
   | _ => False
  | _, _ => False
 | _ => False
def bytesL : List Value → Option (List UInt8)
 | [] => some []
 | v :: r => match v with
  | .int .u8 n => match bytesL r with
   | some l => some (UInt8.ofNat n.toNat :: l)
   | none => none
  | _ => none
def bsK (x : Value) : OpSem := fun h K =>
 match x with
 | .slice none _ _ => K (.string ByteArray.empty) h
 | .slice (some a) n _ => match loadsOf h a 0 n with
  | some l => match bytesL l with
   | some b => K (.string ⟨⟨b⟩⟩) h
   | none => False
  | none => False
 | _ => False
def effK (P : Program) (ρ : Env) (op : Op) (h : Heap) (K : Value → Heap → Prop) : Prop :=
 match op with
 | .alloc t => match tyZero P t with
  | some z => newK z.cells t h K
  | none => False
 | .box t x => newK (ev ρ x).cells t h K
 | .buildSlice t len parts => match P.underlying t with
  | some (.slice e) => match tySize P e, tyZero P e with
   | some s, some z => if len * s > 2 ^ 24 then False else match partsL (fun i => some (i * s, s)) ρ parts.toList with
    | some l => rowK (zerosOf z (len * s)) e len l h K
    | none => False
   | _, _ => False
  | _ => False
 | .store t a x => match tySize P t with
  | some n => stK n (ev ρ a) (ev ρ x) h K
  | none => False
 | .makeSlice t l c => match P.underlying t with
  | some (.slice e) => match (P.info? e).bind fun i => i.zero.map fun z => (z, i.size, i.bytes) with
   | some (z, size, bytes) => mkK z e size bytes (ev ρ l) (ev ρ c) h K
   | none => False
  | _ => False
 | .makeMap _ none => newmK h K
 | .mapUpdate t m k x | .insert t m k x => match P.underlying t with
  | some (.map kt _) => match keyDesc P kt with
   | some kd => mapPutK kd (ev ρ m) (ev ρ k) (ev ρ x) h K
   | none => False
  | _ => False
 | .mapEntry t m k => match P.underlying t with
  | some (.map kt et) => match keyDesc P kt, tyZero P et with
   | some kd, some z => mapEntryK kd z (ev ρ m) (ev ρ k) h K
   | _, _ => False
  | _ => False
 | .entryStore _ m s x => entryStK (ev ρ m) (ev ρ s) (ev ρ x) h K
 | .range t x => match P.underlying t with
  | some (.map _ _) => rangeMapK (ev ρ x) h K
  | some .string => rangeStrK (ev ρ x) h K
  | _ => False
 | .next it s => bif s then nextStrK (ev ρ it) h K else nextMapK (ev ρ it) h K
 | .entry it => entryK (ev ρ it) h K
 | .call c => match c.callee with
  | .builtin b => effB P b (c.args.map (ev ρ)).toList c.argTypes.toList h K
  | .value (.func f) => FCall P f (c.args.map (ev ρ)) h K
  | .value x => clK P (ev ρ x) (c.args.map (ev ρ)) h K
  | _ => False
 | .convert s d x => match P.underlying s, P.underlying d with
  | some (.slice e), some .string => match P.underlying e with
   | some (.int .u8) => bsK (ev ρ x) h K
   | _ => False
  | _, _ => False
 | _ => False
def Done (P : Program) (K : Value → Heap → Prop) (w : World) : Result Next → Prop
 | .ok (.value v) w' => Same w w' ∧ K v w'.heap
 | .ok .skip w' => Same w w' ∧ K undef w'.heap
 | .ok (.enter f args) w' => w' = w ∧ ECall P f args w.heap K
 | _ => False
section
variable {P : Program} {ρ : Env} {w : World} {K : Value → Heap → Prop}
theorem oneCell_eq (v : Value) : oneCell v = v.oneCell' := by cases v <;> rfl
theorem run_storesOf (a : Addr) : ∀ (l : List Value) (i : Nat) (w : World) (h' : Heap), storesOf w.heap a i l = some h' →
  ∃ w', (storeCells a l i).run P w = .ok () w' ∧ Same w w' ∧ w'.heap = h'
 | [], i, w, h', h => by simp [storesOf] at h; exact ⟨w, by simp [storeCells], Same.refl w, h⟩
 | v :: l, i, w, h', h => by
  unfold storesOf at h
  cases hc : cellOf w.heap (a.add i) with
  | none => simp [hc] at h
  | some old =>
   simp only [hc] at h
   cases ho : (oneCell v && !frozenOf w.heap (a.add i)) with
   | false => rw [ho] at h; cases h
   | true =>
    rw [ho] at h
    simp only [cond_true] at h
    rw [Bool.and_eq_true] at ho
    obtain ⟨w', hr, hs, hh⟩ := run_storesOf a l (i + 1) (w.setCell (a.add i) v) h' h
    refine ⟨w', ?_, ⟨hs.1, hs.2.1, hs.2.2⟩, hh⟩
    have h1 : w.cell? (a.add i) = some old := hc
    have h2 : w.frozen? (a.add i) = false := by
     show frozenOf w.heap (a.add i) = false
     simpa using ho.2
    simp only [storeCells, Sem.run_bind]
    rw [run_store P w _ _ _ (by rw [← oneCell_eq]; exact ho.1)]
    simp [h1, h2, hr]
theorem run_srcOf {size n : Nat} {x : Value} {l : List Value} (h : srcOf size w.heap n x = some l) : (Builtin.firstCells size n x).run P w = .ok l.toArray w := by
 unfold srcOf at h
 split at h
 ·rename_i a _ _
  have := run_loadsOf (P := P) a _ 0 #[] l h
  simp [Builtin.firstCells, loadCells, this]
 ·simp at h; subst h; simp [Builtin.firstCells]
 ·simp only [Option.some.injEq] at h; subst h; simp only [Builtin.firstCells, Array.toArray_toList]; rfl
 ·cases h
theorem run_lenN {x : Value} {n : Nat} (h : lenN x = some n) : (Builtin.lenOf x).run P w = .ok n w := by
 unfold lenN at h
 split at h <;> simp at h <;> subst h <;> simp [Builtin.lenOf]
theorem Done.value {s : Sem Value} {v : Value} {w' : World} (hr : s.run P w = .ok v w') (hs : Same w w') (hK : K v w'.heap) :
  Done P K w ((do pure (.value (← s)) : Sem Next).run P w) := by
 simp only [Sem.run_bind, hr, Result.andThen_ok, Sem.run_pure]
 exact ⟨hs, hK⟩
theorem Done.unit {s : Sem Unit} {w' : World} (hr : s.run P w = .ok () w') (hs : Same w w') (hK : K undef w'.heap) :
  Done P K w ((do s; pure .skip : Sem Next).run P w) := by
 simp only [Sem.run_bind, hr, Result.andThen_ok, Sem.run_pure]
 exact ⟨hs, hK⟩
theorem run_newObj' (o : Obj) : (newObj o).run P w = .ok w.heap.size { w with heap := w.heap.push o } := rfl
theorem stK_sound {t n : Nat} {x v : Value} (hn : tySize P t = some n) (h : stK n x v w.heap K) : ∃ w', (Instr.storeAt t x v).run P w = .ok () w' ∧ Same w w' ∧ K undef w'.heap := by
 unfold stK at h
 split at h
 ·rename_i a
  split at h
  ·rename_i hv
   cases hq : storesOf w.heap a 0 v.cells.toList with
   | none => simp [hq] at h
   | some h' =>
    simp only [hq] at h
    obtain ⟨w', hr, hs, hh⟩ := run_storesOf (P := P) a _ 0 w h' hq
    refine ⟨w', ?_, hs, hh ▸ h⟩
    simp [Instr.storeAt, Instr.sureAddr, storeVar, run_sizeOf' hn, hv, hr]
  ·exact h.elim
 ·exact h.elim
theorem setObj_run {r : Nat} {o o' : Obj} (h : w.heap[r]? = some o) (hn : ∀ c e f, o ≠ .cells c e f) : (setObj r o').run P w = .ok () { w with heap := setObjH w.heap r o' } := by
 simp only [setObj, Sem.run, h]
 cases o <;> first | rfl | exact absurd rfl (hn _ _ _)
theorem run_keyThatStays {a b : Value} (h : Instr.sameBits 10000 a b = true) : (Instr.keyThatStays a b).run P w = .ok b w := by
 simp [Instr.keyThatStays, h]
theorem mapPutK_sound {t kt et : TypeId} {kd : TypeDesc} {m k v : Value} (ht : P.underlying t = some (.map kt et)) (hk : keyDesc P kt = some kd) (h : mapPutK kd m k v w.heap K) :
  ∃ w', (Instr.mapUpdate t m k v).run P w = .ok () w' ∧ Same w w' ∧ K undef w'.heap := by
 unfold mapPutK at h
 split at h
 ·rename_i r
  split at h
  ·rename_i es c hm
   simp only [Instr.mapUpdate, Sem.run_bind, run_underlying ht, Result.andThen_ok, run_getMap hm]
   rw [show (10000 : Nat) = 9999 + 1 from rfl, run_checkKey hk]
   simp only [Result.andThen_ok]
   split at h
   ·rename_i i u hf
    rw [run_findKey hk hf]
    simp only [Result.andThen_ok, Sem.run_bind]
    rw [run_keyThatStays h.1]
    simp only [Result.andThen_ok]
    exact ⟨_, setObj_run hm (by simp), ⟨rfl, rfl, rfl⟩, h.2⟩
   ·rename_i hf
    rw [run_findKey hk hf]
    exact ⟨_, setObj_run hm (by simp), ⟨rfl, rfl, rfl⟩, h⟩
   ·exact h.elim
  ·exact h.elim
 ·exact h.elim
theorem mapEntryK_sound {t kt et : TypeId} {kd : TypeDesc} {z m k : Value} (ht : P.underlying t = some (.map kt et)) (hk : keyDesc P kt = some kd) (hz : tyZero P et = some z) (h : mapEntryK kd z m k w.heap K) :
  ∃ v w', (Instr.mapEntry t m k).run P w = .ok v w' ∧ Same w w' ∧ K v w'.heap := by
 unfold mapEntryK at h
 split at h
 ·rename_i r
  split at h
  ·rename_i es c hm
   simp only [Instr.mapEntry, Sem.run_bind, run_underlying ht, Result.andThen_ok, run_getMap hm]
   rw [show (10000 : Nat) = 9999 + 1 from rfl, run_checkKey hk]
   simp only [Result.andThen_ok]
   split at h
   ·rename_i i u hf
    rw [run_findKey hk hf]
    simp only [Result.andThen_ok, Sem.run_bind]
    rw [run_keyThatStays h.1]
    simp only [Result.andThen_ok]
    rw [setObj_run hm (by simp)]
    exact ⟨_, _, rfl, ⟨rfl, rfl, rfl⟩, h.2⟩
   ·rename_i hf
    rw [run_findKey hk hf]
    simp only [Result.andThen_ok, Sem.run_bind, run_zeroValue' hz]
    rw [setObj_run hm (by simp)]
    exact ⟨_, _, rfl, ⟨rfl, rfl, rfl⟩, h⟩
   ·exact h.elim
  ·exact h.elim
 ·exact h.elim
theorem entryStK_sound {t : TypeId} {m s v : Value} (h : entryStK m s v w.heap K) : ∃ w', (Instr.entryStore t m s v).run P w = .ok () w' ∧ Same w w' ∧ K undef w'.heap := by
 unfold entryStK at h
 split at h
 ·rename_i r k n
  split at h
  ·rename_i es c hm
   split at h
   ·rename_i i hf
    simp only [Instr.entryStore, Sem.run_bind, run_getMap hm, Result.andThen_ok, asInt, asIntOf, Sem.run_pure]
    simp only [hf]
    exact ⟨_, setObj_run hm (by simp), ⟨rfl, rfl, rfl⟩, h⟩
   ·exact h.elim
  ·exact h.elim
 ·exact h.elim
theorem mapDelK_sound {t kt et : TypeId} {ty : TypeId} {kd : TypeDesc} {m k : Value} {ts : Array TypeId} (h0 : ts[0]? = some t) (ht : P.underlying t = some (.map kt et)) (hk : keyDesc P kt = some kd) (h : mapDelK kd m k w.heap K) :
  ∃ v w', (Builtin.delete_ ts ty #[m, k]).run P w = .ok v w' ∧ Same w w' ∧ K v w'.heap := by
 have h10 : (10000 : Nat) = 9999 + 1 := rfl
 unfold mapDelK at h
 split at h
 ·refine ⟨.tuple #[], w, ?_, Same.refl w, h⟩
  simp [Builtin.delete_, h0, run_underlying ht]
  rw [h10, run_checkKey hk]
  rfl
 ·rename_i r
  split at h
  ·rename_i es c hm
   simp only [Builtin.delete_, h0]
   simp [run_underlying ht, run_getMap hm]
   rw [h10, run_checkKey hk]
   simp only [Result.andThen_ok]
   split at h
   ·rename_i i u hf
    rw [run_findKey hk hf]
    simp only [Result.andThen_ok]
    rw [Sem.run_map, setObj_run hm (by simp)]
    exact ⟨_, _, rfl, ⟨rfl, rfl, rfl⟩, h⟩
   ·rename_i hf
    rw [run_findKey hk hf]
    simp only [Result.andThen_ok]
    rw [Sem.run_map, setObj_run hm (by simp)]
    exact ⟨_, _, rfl, ⟨rfl, rfl, rfl⟩, h⟩
   ·exact h.elim
  ·exact h.elim
 ·exact h.elim
theorem rangeMapK_sound {t kt et : TypeId} {m : Value} (ht : P.underlying t = some (.map kt et)) (h : rangeMapK m w.heap K) : ∃ v w', (Instr.range t m).run P w = .ok v w' ∧ Same w w' ∧ K v w'.heap := by
 unfold rangeMapK at h
 split at h
 ·simp only [Instr.range, Sem.run_bind, run_underlying ht, Result.andThen_ok, Sem.run_pure, run_newObj']
  exact ⟨_, _, rfl, ⟨rfl, rfl, rfl⟩, h⟩
 ·rename_i r
  split at h
  ·rename_i es c hm
   simp only [Instr.range, Sem.run_bind, run_underlying ht, Result.andThen_ok, Sem.run_pure, run_getMap hm, run_newObj']
   exact ⟨_, _, rfl, ⟨rfl, rfl, rfl⟩, h⟩
  ·exact h.elim
 ·exact h.elim
theorem rangeStrK_sound {t : TypeId} {s : Value} (ht : P.underlying t = some .string) (h : rangeStrK s w.heap K) : ∃ v w', (Instr.range t s).run P w = .ok v w' ∧ Same w w' ∧ K v w'.heap := by
 unfold rangeStrK at h
 split at h
 ·simp only [Instr.range, Sem.run_bind, run_underlying ht, Result.andThen_ok, Sem.run_pure, run_newObj']
  exact ⟨_, _, rfl, ⟨rfl, rfl, rfl⟩, h⟩
 ·exact h.elim
theorem getObj_run {r : Nat} {o : Obj} (h : w.heap[r]? = some o) (hn : ∀ c e f, o ≠ .cells c e f) : (getObj r).run P w = .ok o w := by
 simp only [getObj, Sem.run, h]
theorem nextStrK_sound {t : TypeId} {it : Value} (h : nextStrK it w.heap K) : ∃ v w', (Instr.next it true t).run P w = .ok v w' ∧ Same w w' ∧ K v w'.heap := by
 unfold nextStrK at h
 split at h
 ·rename_i r sp
  split at h
  ·rename_i s pos hm
   simp only [Instr.next, Sem.run_bind, getObj_run hm (by simp), Result.andThen_ok]
   split at h
   ·rename_i hp
    simp only [hp, if_true, Sem.run_bind, setObj_run hm (by simp), Result.andThen_ok, Sem.run_pure]
    exact ⟨_, _, rfl, ⟨rfl, rfl, rfl⟩, h⟩
   ·rename_i hp
    simp only [hp, if_false, Sem.run_pure]
    exact ⟨_, _, rfl, Same.refl w, h⟩
  ·exact h.elim
 ·exact h.elim
theorem nextMapK_sound {t : TypeId} {it : Value} (h : nextMapK it w.heap K) : ∃ v w', (Instr.next it false t).run P w = .ok v w' ∧ Same w w' ∧ K v w'.heap := by
 unfold nextMapK at h
 split at h
 ·rename_i r sp
  split at h
  ·rename_i hm
   simp only [Instr.next, Sem.run_bind, getObj_run hm (by simp), Result.andThen_ok, Sem.run_pure]
   exact ⟨_, _, rfl, Same.refl w, h⟩
  ·rename_i m since seen last hm
   split at h
   ·rename_i es clock hes
    obtain ⟨h0, h1, h2⟩ := h
    simp only [Instr.next, Sem.run_bind, getObj_run hm (by simp), run_getMap hes, Result.andThen_ok]
    rw [if_neg (by rw [h0]; simp)]
    simp only [Sem.run_bind, run_choose]
    generalize hL : (es.filter fun e => !seen.contains e.born) = left
    generalize hO : left.filter (fun e => decide (e.born < since)) = old
    generalize hN : left.filter (fun e => decide (e.born ≥ since)) = new
    generalize hC : (if old.isEmpty = true then #[none] else #[]) ++ (old ++ new).map some = cand
    have key : ∀ (j : Nat) (w1 : World), j < cand.size → Same w w1 → w1.heap = w.heap →
      ∃ v w', (Sem.run P (match cand[j]? with
       | some (some e) => do
        setObj r (.mapIter (some m) since (seen.push e.born) clock)
        pure (.tuple #[.bool true, e.key, e.val])
       | some none => pure (.tuple #[.bool false])
       | none => stuck "Next: no such candidate") w1) = .ok v w' ∧ Same w w' ∧ K v w'.heap := by
     intro j w1 hj hs hh
     rw [Array.getElem?_eq_getElem hj]
     have hmem : cand[j] ∈ cand := Array.getElem_mem hj
     generalize cand[j] = x at hmem ⊢
     rw [← hC, Array.mem_append] at hmem
     cases x with
     | none =>
      refine ⟨_, _, rfl, hs, ?_⟩
      rw [hh]
      refine h2 fun e he hns => ?_
      have hold : old = #[] := by
       rcases hmem with hmem | hmem
       ·by_cases ho : old.isEmpty = true
        ·simpa using ho
        ·simp [ho] at hmem
       ·simp at hmem
      rcases Nat.lt_or_ge e.born since with hlt | hge
      ·exfalso
       have : e ∈ old := by
        rw [← hO, ← hL]
        simp only [Array.mem_filter]
        exact ⟨⟨he, by simpa using hns⟩, by simpa using hlt⟩
       rw [hold] at this
       simp at this
      ·exact hge
     | some e =>
      have hin : e ∈ es ∧ seen.contains e.born = false := by
       have : e ∈ left := by
        rcases hmem with hmem | hmem
        ·split at hmem <;> simp at hmem
        ·simp only [Array.mem_map, Option.some.injEq] at hmem
         obtain ⟨e', he', rfl⟩ := hmem
         rw [Array.mem_append] at he'
         rcases he' with he' | he'
         ·rw [← hO] at he'; exact (Array.mem_filter.1 he').1
         ·rw [← hN] at he'; exact (Array.mem_filter.1 he').1
       rw [← hL] at this
       have := Array.mem_filter.1 this
       exact ⟨this.1, by simpa using this.2⟩
      simp only [Sem.run_bind]
      rw [setObj_run (w := w1) (by rw [hh]; exact hm) (by simp)]
      refine ⟨_, _, rfl, hs, ?_⟩
      simp only [hh]
      exact h1 e hin.1 hin.2
    have hpos : 0 < cand.size := by
     rw [← hC]
     by_cases ho : old.isEmpty = true
     ·simp [ho]; omega
     ·have : 0 < old.size := by
       rcases Nat.eq_zero_or_pos old.size with h0 | h0
       ·exact absurd (by simpa using h0) ho
       ·exact h0
      simp [ho]; omega
    split
    ·exact key _ _ hpos (Same.refl w) rfl
    ·exact key _ _ (by simp only [Question.cut]; exact Nat.mod_lt _ hpos) ⟨rfl, rfl, rfl⟩ rfl
   ·exact h.elim
  ·exact h.elim
 ·exact h.elim
theorem entryK_sound {it : Value} (h : entryK it w.heap K) : ∃ v w', (Instr.entry it).run P w = .ok v w' ∧ Same w w' ∧ K v w'.heap := by
 unfold entryK at h
 split at h
 ·rename_i r sp
  split at h
  ·rename_i m _ seen stepped hm
   split at h
   ·rename_i es clock hes
    split at h
    ·exact h.elim
    ·rename_i hc
     split at h
     ·rename_i stamp hb
      split at h
      ·rename_i e he
       simp only [Instr.entry, Sem.run_bind, getObj_run hm (by simp), run_getMap hes, Result.andThen_ok, hb]
       rw [if_neg (by simpa using hc)]
       simp only [he, Sem.run_pure]
       exact ⟨_, _, rfl, Same.refl w, h⟩
      ·exact h.elim
     ·exact h.elim
   ·exact h.elim
  ·exact h.elim
 ·exact h.elim
theorem info_parts' {e : TypeId} {z : Value} {size bytes : Nat} (h : (P.info? e).bind (fun i => i.zero.map fun z => (z, i.size, i.bytes)) = some (z, size, bytes)) :
  ∃ i, P.info? e = some i ∧ i.zero = some z ∧ i.size = size ∧ i.bytes = bytes := by
 cases hi : P.info? e with
 | none => simp [hi] at h
 | some i =>
  cases hz : i.zero with
  | none => simp [hi, hz] at h
  | some z' => simp [hi, hz] at h; exact ⟨i, rfl, by rw [hz, h.1], h.2.1, h.2.2⟩
theorem range0 (f : Nat → Value) : (Array.range 0).map f = #[] := by simp
theorem mkK_sound {t e : TypeId} {z : Value} {size bytes : Nat} {l c : Value} (ht : P.underlying t = some (.slice e))
  (hi : (P.info? e).bind (fun i => i.zero.map fun z => (z, i.size, i.bytes)) = some (z, size, bytes)) (h : mkK z e size bytes l c w.heap K) :
  ∃ v w', (Instr.makeSlice t l c).run P w = .ok v w' ∧ Same w w' ∧ K v w'.heap := by
 obtain ⟨i, hj, hz, rfl, rfl⟩ := info_parts' hi
 clear hi
 unfold mkK at h
 split at h
 ·rename_i k l k' c
  obtain ⟨h1, h2, h3, hK⟩ := h
  simp only [Instr.makeSlice, Sem.run_bind, run_underlying ht, Result.andThen_ok, asInt, asIntOf, Sem.run_pure, typeInfo, run_program, hj]
  rw [if_neg (by simp; omega)]
  simp only [Sem.run_bind, run_askRoom, Result.andThen_ok, sizeOf, typeInfo, run_program, hj, Sem.run_pure]
  by_cases h0 : (IntKind.i64.wrap c).toNat * i.size = 0
  ·simp only [h0, if_true, Sem.run_pure, Result.andThen_ok, newRow, Sem.run_bind, run_newObj']
   refine ⟨_, _, rfl, ⟨rfl, rfl, rfl⟩, ?_⟩
   rw [zerosOf, h0, range0] at hK
   rw [range0]
   exact hK
  ·simp only [h0, if_false, Sem.run_bind, zeroValue, typeInfo, run_program, hj, hz, Sem.run_pure, Result.andThen_ok, newRow, run_newObj']
   exact ⟨_, _, rfl, ⟨rfl, rfl, rfl⟩, hK⟩
 ·exact h.elim
theorem rowK_sound {t e : TypeId} {s len : Nat} {z : Value} {parts : Array (Nat × Operand)} {l : List (Nat × Nat × Value)} (ht : P.underlying t = some (.slice e)) (hs : tySize P e = some s) (hz : tyZero P e = some z)
  (hsmall : ¬ len * s > 2 ^ 24) (hl : partsL (fun i => some (i * s, s)) ρ parts.toList = some l) (h : rowK (zerosOf z (len * s)) e len l w.heap K) :
  ∃ v w', (Instr.buildSlice t len (parts.map fun (i, x) => (i, ev ρ x))).run P w = .ok v w' ∧ Same w w' ∧ K v w'.heap := by
 unfold rowK at h
 cases hf : fillL (zerosOf z (len * s)) l with
 | none => simp [hf] at h
 | some c =>
  simp only [hf] at h
  have hfill := fill_eq _ _ _ _ hl hf
  rw [← Array.toList_map] at hfill
  simp only [Instr.buildSlice, Sem.run_bind, run_underlying ht, Result.andThen_ok, run_sizeOf' hs, hsmall, if_false]
  by_cases h0 : len * s = 0
  ·simp only [h0, if_true, Sem.run_bind, Sem.run_pure, Result.andThen_ok]
   have e : zerosOf z (len * s) = #[] := by simp [zerosOf, h0]
   rw [e] at hfill
   rw [range0, hfill]
   simp only [newRow, Sem.run_bind, run_newObj', Result.andThen_ok, Sem.run_pure]
   exact ⟨_, _, rfl, ⟨rfl, rfl, rfl⟩, h⟩
  ·simp only [h0, if_false, Sem.run_bind, run_zeroValue' hz, Result.andThen_ok, Sem.run_pure]
   unfold zerosOf at hfill
   rw [hfill]
   simp only [newRow, Sem.run_bind, run_newObj', Result.andThen_ok, Sem.run_pure]
   exact ⟨_, _, rfl, ⟨rfl, rfl, rfl⟩, h⟩
theorem appK_sound {t u e ty : TypeId} {z : Value} {size bytes : Nat} {s x : Value} {ts : Array TypeId} (hts : ts.toList = [t, u]) (ht : P.underlying t = some (.slice e)) (hu : ∃ d, P.underlying u = some d ∧ ∀ k, d ≠ .int k)
  (hi : (P.info? e).bind (fun i => i.zero.map fun z => (z, i.size, i.bytes)) = some (z, size, bytes)) (h : appK z e size bytes s x w.heap K) :
  ∃ v w', (Builtin.append_ ts ty #[s, x]).run P w = .ok v w' ∧ Same w w' ∧ K v w'.heap := by
 obtain ⟨i, hj, hz, rfl, rfl⟩ := info_parts' hi
 clear hi
 obtain ⟨d, hu, hd⟩ := hu
 obtain rfl : ts = #[t, u] := by apply Array.ext'; simpa using hts
 unfold appK at h
 split at h
 ·rename_i base sLen sCap n hn
  simp only [Builtin.append_, List.getElem?_toArray, List.getElem?_cons_zero, List.getElem?_cons_succ, Sem.run_bind, run_underlying ht, run_underlying hu, Result.andThen_ok, Sem.run_pure, sizeOf, typeInfo, run_program, hj]
  rw [if_neg (by simp)]
  simp only [Sem.run_bind, run_lenN hn, Result.andThen_ok]
  simp only [Bool.not_false, if_true]
  split at h
  ·rename_i hroom
   simp only [hroom, if_true]
   split at h
   ·rename_i news hsrc
    simp only [Sem.run_bind, run_srcOf hsrc, Result.andThen_ok]
    split at h
    ·rename_i a
     split at h
     ·rename_i h' hst
      obtain ⟨w', hr, hs, hh⟩ := run_storesOf (P := P) _ _ 0 w h' hst
      simp only [Sem.run_bind, hr, Result.andThen_ok, Sem.run_pure]
      exact ⟨_, _, rfl, hs, hh ▸ h⟩
     ·exact h.elim
    ·simp only [Sem.run_pure]
     exact ⟨_, _, rfl, Same.refl w, h⟩
   ·exact h.elim
  ·rename_i hroom
   obtain ⟨hlen, hcap, h⟩ := h
   simp only [hroom, if_false]
   split at h
   ·rename_i olds news ho hn'
    simp only [Sem.run_bind, run_program, Result.andThen_ok, hj, Sem.run_pure]
    rw [if_neg (by omega)]
    simp only [Sem.run_bind, run_program, Result.andThen_ok, hj, Sem.run_pure]
    rw [if_neg (by omega)]
    simp only [Sem.run_bind, run_program, Result.andThen_ok, hj, Sem.run_pure, run_choose, Question.forced, Bool.false_eq_true, if_false, run_askRoom]
    have hH : ∀ m l, srcOf i.size w.heap m l = srcOf i.size ({ w with drawn := w.drawn + 1 } : World).heap m l := fun _ _ => rfl
    rw [hH] at ho hn'
    rw [run_srcOf ho]
    simp only [Sem.run_bind, Result.andThen_ok]
    rw [run_srcOf hn']
    simp only [Sem.run_bind, Result.andThen_ok, newRow, run_newObj', Sem.run_pure, zeroValue, typeInfo, run_program, hj, hz]
    refine ⟨_, _, rfl, ⟨rfl, rfl, rfl⟩, ?_⟩
    refine h _ ?_ ?_
    ·simp only [Question.cut]; omega
    ·simp only [Question.cut]
     have h63 : ((sLen + n : Nat) : Int) ≤ 2 ^ 63 - 1 := by simpa [IntKind.max, IntKind.signed, IntKind.bits] using hlen
     have := Nat.mod_lt (w.tape w.drawn (.appendCap (sLen + n) sCap e)) (show 0 < 2 ^ 63 - (sLen + n) by omega)
     omega
   ·exact h.elim
 ·exact h.elim
theorem cpyK_sound {t e ty : TypeId} {size : Nat} {d x : Value} {ts : Array TypeId} (h0 : ts[0]? = some t) (ht : P.underlying t = some (.slice e)) (hs : tySize P e = some size) (h : cpyK size d x w.heap K) :
  ∃ v w', (Builtin.copy_ ts ty #[d, x]).run P w = .ok v w' ∧ Same w w' ∧ K v w'.heap := by
 unfold cpyK at h
 split at h
 ·rename_i base dLen dCap _ n hn
  simp only [Builtin.copy_, h0]
  simp only [List.getElem?_toArray, List.getElem?_cons_zero, List.getElem?_cons_succ, Sem.run_bind, run_underlying ht, Result.andThen_ok, run_lenN hn, run_sizeOf' hs]
  split at h
  ·rename_i news hsrc
   rw [run_srcOf hsrc]
   simp only [Result.andThen_ok]
   split at h
   ·rename_i a
    split at h
    ·rename_i h' hst
     obtain ⟨w', hr, hs, hh⟩ := run_storesOf (P := P) _ _ 0 w h' hst
     simp only [Sem.run_bind, hr, Result.andThen_ok, Sem.run_pure]
     exact ⟨_, _, rfl, hs, hh ▸ h⟩
    ·exact h.elim
   ·simp only [Sem.run_pure]
    exact ⟨_, _, rfl, Same.refl w, h⟩
  ·exact h.elim
 ·exact h.elim
theorem Done.of {s : Sem Value} (h : ∃ v w', s.run P w = .ok v w' ∧ Same w w' ∧ K v w'.heap) : Done P K w ((do pure (.value (← s)) : Sem Next).run P w) := by
 obtain ⟨v, w', h1, h2, h3⟩ := h
 exact Done.value h1 h2 h3
theorem Done.ofU {s : Sem Unit} (h : ∃ w', s.run P w = .ok () w' ∧ Same w w' ∧ K undef w'.heap) : Done P K w ((do s; pure .skip : Sem Next).run P w) := by
 obtain ⟨w', h1, h2, h3⟩ := h
 exact Done.unit h1 h2 h3
theorem run_callFunc {f : FuncId} {args : Array Value} (h : okCallee P f = true) : (callFunc f args).run P w = .ok (.enter f args) w := by
 unfold okCallee at h
 cases hf : P.funcs[f]? with
 | none => simp [hf] at h
 | some fn =>
  simp only [hf, Bool.and_eq_true, Bool.not_eq_true'] at h
  simp only [callFunc, Sem.run_bind, run_program, Result.andThen_ok, hf]
  rw [if_neg (by rw [h.1]; simp)]
  have hb : fn.body.isNone = false := by cases hb : fn.body <;> simp_all
  rw [if_neg (by rw [hb]; simp)]
  rfl
theorem FCall.done {f : FuncId} {args : Array Value} (h : FCall P f args w.heap K) : Done P K w ((callFunc f args).run P w) := by
 rcases h with h | h
 ·rw [run_callFunc h.1]
  exact ⟨rfl, h⟩
 ·obtain ⟨v, w', h1, h2, h3⟩ := h w rfl
  rw [h1]
  exact ⟨h2, h3⟩
theorem FCall.calls {f : FuncId} {args : Array Value} {h : Heap} (hok : okCallee P f = true) (H : FCall P f args h K) (w : World) (hw : w.heap = h) : Calls P f args w fun e w' => ∃ v, e = .returned v ∧ Same w w' ∧ K v w'.heap := by
 rcases H with H | H
 ·exact H.2 w hw
 ·obtain ⟨v, w', h1, _⟩ := H w hw
  rw [run_callFunc hok] at h1
  cases h1
theorem clK_sound {x : Value} {args : Array Value} (h : clK P x args w.heap K) : Done P K w ((do let d ← Deferred.ofValue x args; invoke d.target d.args : Sem Next).run P w) := by
 unfold clK at h
 split at h
 ·simp only [Deferred.ofValue, Sem.run_bind, Sem.run_pure, Result.andThen_ok, invoke]
  exact h.done
 ·exact h.elim
theorem effB_sound {b : Builtin} {args : List Value} {ts : Array TypeId} {ty : TypeId} {cs : Array Bool} (h : effB P b args ts.toList w.heap K) : Done P K w ((builtin b ts ty cs args.toArray).run P w) := by
 unfold effB at h
 split at h
 ·split at h
  ·rename_i s x t u hts
   split at h
   ·rename_i e d ht hu
    split at h
    ·rename_i z size bytes hi
     exact Done.of (appK_sound hts ht ⟨_, hu, by simp⟩ hi h)
    ·exact h.elim
   ·rename_i e ht hu
    split at h
    ·rename_i z size bytes hi
     exact Done.of (appK_sound hts ht ⟨_, hu, by simp⟩ hi h)
    ·exact h.elim
   ·exact h.elim
  ·exact h.elim
 ·split at h
  ·rename_i d x t rest hts
   have h0 : ts[0]? = some t := by rw [← Array.getElem?_toList, hts]; rfl
   split at h
   ·rename_i e ht
    split at h
    ·rename_i size hs
     exact Done.of (cpyK_sound h0 ht hs h)
    ·exact h.elim
   ·exact h.elim
  ·exact h.elim
 ·split at h
  ·rename_i m k t rest hts
   have h0 : ts[0]? = some t := by rw [← Array.getElem?_toList, hts]; rfl
   split at h
   ·rename_i kt et ht
    split at h
    ·rename_i kd hk
     exact Done.of (mapDelK_sound h0 ht hk h)
    ·exact h.elim
   ·exact h.elim
  ·exact h.elim
 ·exact h.elim
theorem bytes_loop (f : Value → ByteArray → Sem (ForInStep ByteArray)) (hf : ∀ n s, f (.int .u8 n) s = pure (.yield (s.push (UInt8.ofNat n.toNat)))) :
  ∀ (l : List Value) (b : List UInt8) (s : ByteArray), bytesL l = some b → (forIn l s f).run P w = .ok ⟨s.data ++ b.toArray⟩ w
 | [], b, s, h => by
  simp only [bytesL, Option.some.injEq] at h
  subst h
  simp
 | v :: r, b, s, h => by
  unfold bytesL at h
  split at h
  ·rename_i n
   split at h
   ·rename_i l hl
    simp only [Option.some.injEq] at h
    subst h
    have := bytes_loop f hf r l (s.push (UInt8.ofNat n.toNat)) hl
    simp only [List.forIn_cons, hf, Sem.run_bind, Sem.run_pure, Result.andThen_ok, this]
    congr 1
    apply ByteArray.ext
    apply Array.ext'
    show (s.data.push (UInt8.ofNat n.toNat) ++ l.toArray).toList = _
    simp
   ·cases h
  ·cases h
theorem bsK_sound {x : Value} (h : bsK x w.heap K) : ∃ v w', (Conv.bytesToString x).run P w = .ok v w' ∧ Same w w' ∧ K v w'.heap := by
 unfold bsK at h
 split at h
 ·exact ⟨_, w, rfl, Same.refl w, h⟩
 ·rename_i a n c
  split at h
  ·rename_i l hl
   split at h
   ·rename_i b hb
    refine ⟨_, w, ?_, Same.refl w, h⟩
    have h1 := run_loadsOf (P := P) a _ 0 #[] l hl
    simp only [Conv.bytesToString, loadCells, Sem.run_bind, h1, Result.andThen_ok, Array.empty_append, List.forIn_toArray]
    rw [bytes_loop _ (fun n s => rfl) l b ByteArray.empty hb]
    simp
   ·exact h.elim
  ·exact h.elim
 ·exact h.elim
theorem effK_sound {op : Op} (o : Oper) (ho : o.op = op) (h : effK P ρ op w.heap K) : Done P K w ((execOp (ev ρ) o).run P w) := by
 unfold effK at h
 split at h
 case h_1 t =>
  split at h
  ·rename_i z hz
   simp only [execOp, ho]
   refine Done.of ⟨.pointer (some ⟨w.heap.size, 0, none⟩), { w with heap := w.heap.push (.cells z.cells t) }, ?_, ⟨rfl, rfl, rfl⟩, h⟩
   simp only [Instr.alloc, Sem.run_bind, run_zeroValue' hz, Result.andThen_ok, newVar, newRow, run_newObj', Sem.run_pure]
  ·exact h.elim
 case h_2 t x =>
  simp only [execOp, ho]
  refine Done.of ⟨.pointer (some ⟨w.heap.size, 0, none⟩), { w with heap := w.heap.push (.cells (ev ρ x).cells t) }, ?_, ⟨rfl, rfl, rfl⟩, h⟩
  simp only [Instr.box, Sem.run_bind, Result.andThen_ok, newVar, newRow, run_newObj', Sem.run_pure]
 case h_3 t len parts =>
  split at h
  ·rename_i e ht
   split at h
   ·rename_i s z hs hz
    split at h
    ·exact h.elim
    ·rename_i hsmall
     split at h
     ·rename_i l hl
      simp only [execOp, ho]
      exact Done.of (rowK_sound ht hs hz hsmall hl h)
     ·exact h.elim
   ·exact h.elim
  ·exact h.elim
 case h_4 t a x =>
  split at h
  ·rename_i n hn
   simp only [execOp, ho]
   exact Done.ofU (stK_sound hn h)
  ·exact h.elim
 case h_5 t l c =>
  split at h
  ·rename_i e ht
   split at h
   ·rename_i z size bytes hi
    simp only [execOp, ho]
    exact Done.of (mkK_sound ht hi h)
   ·exact h.elim
  ·exact h.elim
 case h_6 t =>
  simp only [execOp, ho]
  refine Done.of ⟨.map (some w.heap.size), { w with heap := w.heap.push (.map #[] 0) }, ?_, ⟨rfl, rfl, rfl⟩, h⟩
  simp only [Instr.makeMap, Option.map_none, Sem.run_bind, run_newObj', Result.andThen_ok, Sem.run_pure]
 case h_7 t m k x | h_8 t m k x =>
  split at h
  ·rename_i kt et ht
   split at h
   ·rename_i kd hk
    simp only [execOp, ho]
    exact Done.ofU (mapPutK_sound ht hk h)
   ·exact h.elim
  ·exact h.elim
 case h_9 t m k =>
  split at h
  ·rename_i kt et ht
   split at h
   ·rename_i kd z hk hz
    simp only [execOp, ho]
    exact Done.of (mapEntryK_sound ht hk hz h)
   ·exact h.elim
  ·exact h.elim
 case h_10 t m s x =>
  simp only [execOp, ho]
  exact Done.ofU (entryStK_sound h)
 case h_11 t x =>
  split at h
  ·rename_i kt et ht
   simp only [execOp, ho]
   exact Done.of (rangeMapK_sound ht h)
  ·rename_i ht
   simp only [execOp, ho]
   exact Done.of (rangeStrK_sound ht h)
  ·exact h.elim
 case h_12 it s =>
  simp only [execOp, ho]
  cases s
  ·exact Done.of (nextMapK_sound h)
  ·exact Done.of (nextStrK_sound h)
 case h_13 it =>
  simp only [execOp, ho]
  exact Done.of (entryK_sound h)
 case h_14 c =>
  split at h
  ·rename_i b hb
   have := effB_sound (P := P) (w := w) (ty := o.type) (cs := c.args.map fun | .const _ => true | _ => false) h
   rw [Array.toArray_toList] at this
   simp only [execOp, ho, resolve, hb, Sem.run_bind, Sem.run_pure, Result.andThen_ok, invoke]
   exact this
  ·rename_i f hb
   simp only [execOp, ho, resolve, hb, ev, Deferred.ofValue, Sem.run_bind, Sem.run_pure, Result.andThen_ok, invoke]
   simp only [Array.empty_append, Array.append_empty]
   exact h.done
  ·rename_i x _ hb
   simp only [execOp, ho, resolve, hb]
   exact clK_sound h
  ·exact h.elim
 case h_15 s d x =>
  split at h
  ·rename_i e h1 h2
   split at h
   ·rename_i h3
    simp only [execOp, ho]
    refine Done.of ?_
    obtain ⟨v, w', h4, h5, h6⟩ := bsK_sound (P := P) h
    refine ⟨v, w', ?_, h5, h6⟩
    simp only [convert, Sem.run_bind, run_underlying h1, run_underlying h2, run_underlying h3, Result.andThen_ok]
    generalize ev ρ x = y at h h4 ⊢
    cases y <;> first | exact h4 | (simp only [Sem.run_bind, run_underlying h3, Result.andThen_ok]; exact h4) | exact h.elim
   ·exact h.elim
  ·exact h.elim
 case h_16 => exact h.elim
end
end
end Go.Crisp
namespace Go.Crisp
section
def gV (g : Value) (want : Bool) (r : Option Value) : Option Value :=
 match g with
 | .bool b => bif b == want then r else some undef
 | _ => some undef
def gK (g : Value) (want : Bool) (m : (Value → Heap → Prop) → Prop) (h : Heap) (K : Value → Heap → Prop) : Prop :=
 match g with
 | .bool b => bif b == want then m K else K undef h
 | _ => K undef h
def gOf (all : Array Oper) (ρ : Env) (j : Nat) : Value :=
 match (all[j]?).bind (·.dst) with
 | some t => ρ t
 | none => undef
def roG (P : Program) (all : Array Oper) (ρ : Env) (o : Oper) (h : Heap) : Option (Option Value) :=
 match roV P ρ o.op h with
 | some r => match o.guard with
  | none => some r
  | some (j, want) => some (gV (gOf all ρ j) want r)
 | none => none
def effG (P : Program) (all : Array Oper) (ρ : Env) (o : Oper) (h : Heap) (K : Value → Heap → Prop) : Prop :=
 match o.guard with
 | none => effK P ρ o.op h K
 | some (j, want) => gK (gOf all ρ j) want (fun K => effK P ρ o.op h K) h K
def cOp0 (P : Program) (all : Array Oper) (ρ : Env) (o : Oper) (h : Heap) (K : Value → Heap → Prop) : Prop :=
 match roG P all ρ o h with
 | some r => vK r fun v => K v h
 | none => effG P all ρ o h K
def valG (P : Program) (ρ : Env) (o : Oper) : Option Value :=
 match o.guard with
 | some _ => none
 | none => match o.op with
  | .move x => some (ev ρ x)
  | .assign x => some (ev ρ x)
  | .makeInterface t x => match P.underlying t with
   | some (.interface _) => none
   | some _ => some (.iface t (ev ρ x))
   | none => none
  | .makeFunc fn first captured => some (.func fn (first.map (ev ρ)) (captured.map (ev ρ)))
  | _ => none
theorem valG_ro {P : Program} {all : Array Oper} {ρ : Env} {o : Oper} {v : Value} (h : valG P ρ o = some v) (hp : Heap) : roG P all ρ o hp = some (some v) := by
 unfold valG at h
 split at h
 ·cases h
 ·rename_i hg
  unfold roG
  split at h
  ·rename_i x ho
   simp only [ho, roV, hg, h]
  ·rename_i x ho
   simp only [ho, roV, hg, h]
  ·rename_i t x ho
   simp only [ho, roV, hg]
   cases hu : P.underlying t with
   | none => simp [hu] at h
   | some d => cases d <;> simp_all
  ·rename_i ho
   simp only [ho, roV, hg, h]
  ·cases h
def cOp (P : Program) (all : Array Oper) (ρ : Env) (o : Oper) (h : Heap) (K : Value → Heap → Prop) : Prop :=
 match valG P ρ o with
 | some v => K v h
 | none => cOp0 P all ρ o h K
theorem cOp_cOp0 {P : Program} {all : Array Oper} {ρ : Env} {o : Oper} {h : Heap} {K : Value → Heap → Prop} (H : cOp P all ρ o h K) : cOp0 P all ρ o h K := by
 unfold cOp at H
 split at H
 ·rename_i v hv
  unfold cOp0
  rw [valG_ro hv h]
  exact H
 ·exact H
def roK (P : Program) (all : Array Oper) (ρ : Env) (o : Oper) (h : Heap) (K : Value → Prop) : Prop :=
 match valG P ρ o with
 | some v => K v
 | none => match roG P all ρ o h with
  | some r => vK r K
  | none => False
theorem roK_ro {P : Program} {all : Array Oper} {ρ : Env} {o : Oper} {h : Heap} {K : Value → Prop} (H : roK P all ρ o h K) : match roG P all ρ o h with | some r => vK r K | none => False := by
 unfold roK at H
 split at H
 ·rename_i v hv
  rw [valG_ro hv h]
  exact H
 ·exact H
noncomputable def cOps (P : Program) (all : Array Oper) (l : List Oper) : Env → Heap → (Env → Heap → Prop) → Prop :=
 List.rec (motive := fun _ => Env → Heap → (Env → Heap → Prop) → Prop) (fun ρ h Q => Q ρ h)
  (fun o _ ih ρ h Q => cOp P all ρ o h fun v h => ih (up ρ o.dst v) h Q) l
theorem cOps_cons {P : Program} {all : Array Oper} {o : Oper} {l : List Oper} {ρ : Env} {h : Heap} {Q : Env → Heap → Prop} : cOps P all (o :: l) ρ h Q = cOp P all ρ o h fun v h => cOps P all l (up ρ o.dst v) h Q := rfl
noncomputable def cOpsR (P : Program) (all : Array Oper) (l : List Oper) : Env → Heap → (Env → Heap → Prop) → Prop :=
 List.rec (motive := fun _ => Env → Heap → (Env → Heap → Prop) → Prop) (fun ρ h Q => Q ρ h)
  (fun o _ ih ρ h Q => roK P all ρ o h fun v => ih (up ρ o.dst v) h Q) l
def qK (S : Heap → Prop) (r : Heap → Option Value) (K : Value → Prop) : Prop := ∃ v, (∀ h, S h → r h = some v) ∧ K v
def drawK (h : Heap) (body : (Heap → Prop) → Prop) : Prop := ∃ S : Heap → Prop, S h ∧ body S
def heapless (P : Program) : Op → Bool
 | .load .. | .lookup .. | .call _ => false
 | .binOp _ t x y _ => match ekOf P t with
  | .p => nilO x || nilO y
  | _ => true
 | _ => true
inductive PK where
 | e | r | f | n
inductive PT where
 | nil
 | op (i : Nat) (q : PK) (t : PT)
 | alt (x y : PT)
noncomputable def cDraw (P : Program) (all : Array Oper) (plan : PT) : (Heap → Prop) → Env → Heap → (Env → Heap → Prop) → Prop :=
 PT.rec (motive := fun _ => (Heap → Prop) → Env → Heap → (Env → Heap → Prop) → Prop) (fun _ ρ h Q => Q ρ h)
  (fun i q _ ih S ρ h Q => match all[i]? with
   | none => False
   | some o => match q with
    | .r => match heapless P o.op with
     | true => roK P all ρ o h (fun v => ih S (up ρ o.dst v) h Q)
     | false => qK S (fun h => match roG P all ρ o h with | some r => r | none => none) (fun v => ih S (up ρ o.dst v) h Q)
    | .e => cOp P all ρ o h fun v h => S h ∧ ih S (up ρ o.dst v) h Q
    | .f => cOp P all ρ o h fun v h => drawK h fun S => ih S (up ρ o.dst v) h Q
    | .n => cOp P all ρ o h fun v h => ih (fun _ => True) (up ρ o.dst v) h Q)
  (fun _ _ ihx ihy S ρ h Q => ihx S ρ h Q ∧ ihy S ρ h Q) plan
theorem cDraw_alt {P : Program} {all : Array Oper} {x y : PT} {S : Heap → Prop} {ρ : Env} {h : Heap} {Q : Env → Heap → Prop} : cDraw P all (.alt x y) S ρ h Q = (cDraw P all x S ρ h Q ∧ cDraw P all y S ρ h Q) := rfl
theorem cDraw_cons {P : Program} {all : Array Oper} {S : Heap → Prop} {i : Nat} {q : PK} {l : PT} {ρ : Env} {h : Heap} {Q : Env → Heap → Prop} : cDraw P all (.op i q l) S ρ h Q = match all[i]? with
  | none => False
  | some o => match q with
   | .r => match heapless P o.op with
    | true => roK P all ρ o h (fun v => cDraw P all l S (up ρ o.dst v) h Q)
    | false => qK S (fun h => match roG P all ρ o h with | some r => r | none => none) (fun v => cDraw P all l S (up ρ o.dst v) h Q)
   | .e => cOp P all ρ o h fun v h => S h ∧ cDraw P all l S (up ρ o.dst v) h Q
   | .f => cOp P all ρ o h fun v h => drawK h fun S => cDraw P all l S (up ρ o.dst v) h Q
   | .n => cOp P all ρ o h fun v h => cDraw P all l (fun _ => True) (up ρ o.dst v) h Q := by cases q <;> rfl
inductive Ex where
 | nx | br (n : Nat) | rt
inductive Ann where
 | z
 | s (x y : Ann)
 | j (ws : Nat) (cs : List Nat) (x y : Ann)
 | m (ws : Nat) (cs : List Nat) (x : Ann)
 | l (ws : Nat) (cs : List Nat) (x : Ann)
 | d (plan : PT)
def ix (xs : List Value) (i : Nat) : Value := xs.getD i undef
def posOf (t : Nat) : Nat → List Nat → Option Nat
 | _, [] => none
 | k, c :: cs => bif Nat.beq t c then some k else posOf t (k + 1) cs
def writes : Code → List Tmp
 | .region _ ops _ => ops.toList.filterMap (·.dst)
 | .seq x y => writes x ++ writes y
 | .cond _ x y => writes x ++ writes y
 | .block _ x => writes x
 | .loop x => writes x
 | _ => []
def memN (t : Nat) : List Nat → Bool
 | [] => false
 | c :: cs => bif Nat.beq t c then true else memN t cs
def bitOf (ws t : Nat) : Bool := Nat.beq (Nat.land (Nat.shiftRight ws t) 1) 1
def subBits (ws : Nat) : List Nat → Bool
 | [] => true
 | c :: cs => bitOf ws c && subBits ws cs
def havoc (ρ ρj : Env) (ws : Nat) (cs : List Nat) (xs : List Value) : Env := fun t =>
 match posOf t 0 cs with
 | some i => ix xs i
 | none => match bitOf ws t with
  | true => ρj t
  | false => ρ t
def joinK (body : (List Value → Heap → Prop) → Prop) (rest : List Value → Env → Heap → Prop) : Prop :=
 ∃ J : List Value → Heap → Prop, body J ∧ ∀ xs ρj h, J xs h → rest xs ρj h
def loopK (init : List Value) (h : Heap) (body : List Value → Env → Heap → (List Value → Heap → Prop) → Prop) : Prop :=
 ∃ (I : List Value → Heap → Prop) (m : List Value → Heap → Nat), I init h ∧ ∀ xs ρj h, I xs h → body xs ρj h fun ys h' => I ys h' ∧ m ys h' < m xs h
def iteK (c : Value) (x y : Prop) : Prop :=
 match c with
 | .bool b => bif b then x else y
 | _ => False
abbrev CK := Ann → Env → Heap → (Ex → Env → Heap → Prop) → Prop
def seqC (x y : CK) : CK := fun an ρ h Q => match an with
 | .s a b => x a ρ h fun e ρ h => match e with
  | .nx => y b ρ h Q
  | e => Q e ρ h
 | .j ws cs a b => joinK (fun J => x a ρ h fun e ρ h => match e with
   | .nx => J (cs.map ρ) h
   | e => Q e ρ h) fun xs ρj h => y b (havoc ρ ρj ws cs xs) h Q
 | _ => False
def condC (c : Operand) (x y : CK) : CK := fun an ρ h Q => match an with
 | .s a b => iteK (ev ρ c) (x a ρ h Q) (y b ρ h Q)
 | _ => False
def blockC (id : Nat) (x : CK) : CK := fun an ρ h Q => match an with
 | .m ws cs a => joinK (fun J => x a ρ h fun e ρ h => match e with
   | .nx => J (cs.map ρ) h
   | .br n => match Nat.beq n id with
    | true => J (cs.map ρ) h
    | false => Q (.br n) ρ h
   | .rt => Q .rt ρ h) fun xs ρj h => Q .nx (havoc ρ ρj ws cs xs) h
 | a => x a ρ h fun e ρ h => match e with
  | .nx => Q .nx ρ h
  | .br n => match Nat.beq n id with
   | true => Q .nx ρ h
   | false => Q (.br n) ρ h
  | .rt => Q .rt ρ h
def loopC (x : CK) : CK := fun an ρ h Q => match an with
 | .l ws cs a => loopK (cs.map ρ) h fun xs ρj h again => x a (havoc ρ ρj ws cs xs) h fun e ρ h => match e with
  | .nx => again (cs.map ρ) h
  | e => Q e ρ h
 | _ => False
noncomputable def regionC (P : Program) (ops : Array Oper) (draw : Bool) : CK := fun an ρ h Q => match an with
 | .d plan => drawK h fun S => cDraw P ops plan S ρ h (Q .nx)
 | _ => match draw with
  | true => cOpsR P ops ops.toList ρ h (Q .nx)
  | false => cOps P ops ops.toList ρ h (Q .nx)
noncomputable def cCode (P : Program) (c : Code) : CK :=
 Code.rec (motive := fun _ => CK)
  (fun _ ρ h Q => Q .nx ρ h)
  (fun _ ops draw => regionC P ops draw)
  (fun _ _ ihx ihy => seqC ihx ihy)
  (fun c _ _ ihx ihy => condC c ihx ihy)
  (fun id _ ih => blockC id ih)
  (fun _ ih => loopC ih)
  (fun _ _ _ _ _ _ => fun _ _ _ _ => False)
  (fun id _ ρ h Q => Q (.br id) ρ h)
  (fun _ _ => fun _ _ _ _ => False)
  (fun _ => fun _ _ _ _ => False)
  (fun _ => fun _ _ _ _ => False)
  (fun _ ρ h Q => Q .rt ρ h)
  (fun _ => fun _ _ _ _ => False)
  c
def pathB (ops : Array Oper) : Nat → Nat → Nat → Bool
 | 0, _, _ => false
 | n + 1, k, i => match ops[k]? with
  | some o => o.after.any fun e => Region.binds .any e && (e.on == i || pathB ops n e.on i)
  | none => false
def edgeM : List Edge → Nat → Nat
 | [], m => m
 | e :: l, m => edgeM l (match Region.binds .any e with | true => Nat.lor m (Nat.pow 2 e.on) | false => m)
def ancM (ops : Array Oper) : Nat → Nat → Nat
 | 0, m => m
 | j + 1, m => ancM ops j (match bitOf m j with
  | true => match ops[j]? with
   | some o => edgeM o.after.toList m
   | none => m
  | false => m)
def pathM (ops : Array Oper) (k i : Nat) : Bool := bitOf (ancM ops ops.size (match ops[k]? with | some o => edgeM o.after.toList 0 | none => 0)) i
def nextFs : PT → List Nat
 | .nil => []
 | .op i q t => match q with
  | .f => [i]
  | .n => [i]
  | _ => nextFs t
 | .alt x y => nextFs x ++ nextFs y
def headsT : PT → List Nat
 | .nil => []
 | .op i _ _ => [i]
 | .alt x y => headsT x ++ headsT y
def depthT : PT → Nat
 | .nil => 0
 | .op _ _ t => depthT t + 1
 | .alt x y => Nat.max (depthT x) (depthT y)
def pureAt (P : Program) (ops : Array Oper) (i : Nat) : Bool :=
 match ops[i]? with
 | some o => heapless P o.op
 | none => false
def planOk (P : Program) (ops : Array Oper) : PT → Bool → List Nat → Array Bool → Bool
 | .nil, root, _, listed => root && (Region.ready .any ops listed).isEmpty
 | .op i q t, root, fs, listed => (match q with
   | .r => root && (Region.free .any ops listed i && (Region.ready .any ops listed).contains i && (nextFs t).all fun k => !(k == i) && (pureAt P ops i || pathM ops k i))
   | .e => (bif root then Region.ready .any ops listed == [i] else (Region.ready .any ops listed).contains i) && !((bif root then nextFs t else fs).contains i)
   | _ => bif root then Region.ready .any ops listed == [i] else (Region.ready .any ops listed).contains i) && planOk P ops t true [] (listed.setIfInBounds i true)
 | .alt x y, root, fs, listed => (bif root then (Region.ready .any ops listed).all fun i => (headsT x ++ headsT y).contains i else true) &&
   (planOk P ops x false (bif root then nextFs x ++ nextFs y else fs) listed && planOk P ops y false (bif root then nextFs x ++ nextFs y else fs) listed)
def opsOk (n : Nat) : List Oper → Bool
 | [] => true
 | o :: l => (match o.dst with | some d => Nat.blt d n | none => true) && opsOk n l
def okCode (P : Program) (n : Nat) : Code → Ann → Bool
 | .skip, _ => true
 | .region _ ops draw, an => opsOk n ops.toList && match an with
  | .d plan => draw && Region.noSelect ops && Nat.ble (depthT plan) ops.size && planOk P ops plan true [] (Array.replicate ops.size false)
  | _ => bif draw then Region.lexB .any ops else true
 | .seq x y, an => match an with
  | .s a b => okCode P n x a && okCode P n y b
  | .j ws _ a b => subBits ws (writes x) && (okCode P n x a && okCode P n y b)
  | _ => false
 | .cond _ x y, an => match an with
  | .s a b => okCode P n x a && okCode P n y b
  | _ => false
 | .block _ x, an => match an with
  | .m ws _ a => subBits ws (writes x) && okCode P n x a
  | a => okCode P n x a
 | .loop x, an => match an with
  | .l ws _ a => subBits ws (writes x) && okCode P n x a
  | _ => false
 | .exit _, _ => true
 | .ret, _ => true
 | _, _ => false
def Rel (n : Nat) (a : Act) (ρ : Env) : Prop := a.tmps.size = n ∧ a.defers = [] ∧ ∀ t, a.tmps.getD t undef = ρ t
theorem Rel.eval {n : Nat} {a : Act} {ρ : Env} (h : Rel n a ρ) : a.eval = ev ρ := by
 funext x
 cases x <;> simp only [Act.eval, ev]
 exact h.2.2 _
theorem Rel.put {n : Nat} {a : Act} {ρ : Env} (h : Rel n a ρ) {d : Option Tmp} (hd : (match d with | some d => Nat.blt d n | none => true) = true) (v : Value) : Rel n (a.put d v) (up ρ d v) := by
 cases d with
 | none => exact h
 | some d =>
  refine ⟨by simp [Act.put, h.1], h.2.1, fun t => ?_⟩
  have hd' : d < a.tmps.size := by rw [h.1]; simpa [Nat.blt_eq] using hd
  simp only [Act.put, up]
  have := h.2.2 t
  by_cases ht : t = d
  ·subst ht
   simp [hd']
  ·have hb : Nat.beq t d = false := by rw [Bool.eq_false_iff]; intro hb; exact ht (Nat.eq_of_beq_eq_true hb)
   simp only [hb]
   rw [← this]
   simp only [Array.getD_eq_getD_getElem?]
   rw [Array.getElem?_setIfInBounds_ne (Ne.symm ht)]
def Post (n : Nat) (ρ : Env) (ws : List Tmp) (w0 : World) (Q : Ex → Env → Heap → Prop) : Exit → Act → World → Prop := fun e a w =>
 ∃ ρ2, Rel n a ρ2 ∧ (∀ t, memN t ws = false → ρ2 t = ρ t) ∧ Same w0 w ∧ match e with
  | .normal => Q .nx ρ2 w.heap
  | .exit id => Q (.br id) ρ2 w.heap
  | .ret => Q .rt ρ2 w.heap
  | _ => False
theorem memN_append (t : Nat) : ∀ a b : List Nat, memN t (a ++ b) = (memN t a || memN t b)
 | [], b => by simp [memN]
 | c :: a, b => by
  simp only [List.cons_append, memN, memN_append t a b]
  cases Nat.beq t c <;> simp
theorem wanted_g {n : Nat} {a : Act} {ρ : Env} (hr : Rel n a ρ) {all : Array Oper} {j : Nat} {want : Bool} {o : Oper} (hg : o.guard = some (j, want)) :
  Region.wanted o (yielded all a.tmps) = (match gOf all ρ j with | .bool b => b == want | _ => false) := by
 unfold Region.wanted
 rw [hg]
 simp only
 unfold yielded gOf
 cases hd : (all[j]?).bind (·.dst) with
 | none => rfl
 | some t =>
  have h2 := hr.2.2 t
  simp only [Option.bind_some]
  rw [← h2]
  simp only [Array.getD_eq_getD_getElem?]
  cases h3 : a.tmps[t]? with
  | none => rfl
  | some v => cases v <;> simp
section
variable {P : Program} {ρ : Env} {w : World} {n : Nat} {a : Act}
theorem wp_of_done {o : Oper} {K : Value → Heap → Prop} {next : Act → World → Prop} {Q : Exit → Act → World → Prop} (h : Done P K w ((execOp a.eval o).run P w))
  (hn : ∀ v w', Same w w' → K v w'.heap → next (a.put o.dst v) w') : o.wp P a w next Q := by
 unfold Oper.wp
 generalize (execOp a.eval o).run P w = r at h
 unfold Done at h
 split at h
 ·exact hn _ _ h.1 h.2
 ·exact hn _ _ h.1 h.2
 ·obtain ⟨rfl, hc⟩ := h
  refine (hc.2 _ rfl).mono ?_
  rintro e w' ⟨v, rfl, hs, hk⟩
  exact hn v w' hs hk
 ·exact h.elim
theorem cOp_sound [FlatOk P] {all : Array Oper} {o : Oper} {K : Value → Heap → Prop} {next : Act → World → Prop} {Q : Exit → Act → World → Prop} (hr : Rel n a ρ) (h : cOp P all ρ o w.heap K)
  (hn : ∀ v w', Same w w' → K v w'.heap → next (a.put o.dst v) w') :
  if Region.wanted o (yielded all a.tmps) then o.wp P a w next Q ∨ (o.asks P a w ∧ LetsOut Q) else next (a.put o.dst undef) w := by
 have h := cOp_cOp0 h
 unfold cOp0 at h
 cases hro : roV P ρ o.op w.heap with
 | some r =>
  simp only [roG, hro] at h
  cases hg : o.guard with
  | none =>
   simp only [hg] at h
   have hw : Region.wanted o (yielded all a.tmps) = true := by simp [Region.wanted, hg]
   rw [if_pos hw]
   refine .inl ?_
   unfold vK at h
   split at h
   ·rename_i v
    refine wp_of_done (K := K) ?_ hn
    rw [hr.eval, roV_sound o rfl hro rfl]
    exact ⟨Same.refl w, h⟩
   ·exact h.elim
  | some p =>
   obtain ⟨j, want⟩ := p
   simp only [hg] at h
   rw [wanted_g hr hg]
   unfold gV at h
   split at h
   ·rename_i b hb
    by_cases hbw : (b == want) = true
    ·rw [hbw] at h
     simp only [cond_true] at h
     rw [if_pos hbw]
     refine .inl ?_
     unfold vK at h
     split at h
     ·rename_i v
      refine wp_of_done (K := K) ?_ hn
      rw [hr.eval, roV_sound o rfl hro rfl]
      exact ⟨Same.refl w, h⟩
     ·exact h.elim
    ·have hbw' : (b == want) = false := by simpa using hbw
     rw [hbw'] at h
     simp only [cond_false, vK] at h
     rw [if_neg hbw]
     exact hn _ _ (Same.refl w) h
   ·rename_i hb
    simp only [vK] at h
    rw [if_neg (by simp)]
    exact hn _ _ (Same.refl w) h
 | none =>
  simp only [roG, hro, effG] at h
  cases hg : o.guard with
  | none =>
   simp only [hg] at h
   have hw : Region.wanted o (yielded all a.tmps) = true := by simp [Region.wanted, hg]
   rw [if_pos hw]
   refine .inl (wp_of_done (K := K) ?_ hn)
   rw [hr.eval]
   exact effK_sound o rfl h
  | some p =>
   obtain ⟨j, want⟩ := p
   simp only [hg] at h
   rw [wanted_g hr hg]
   unfold gK at h
   split at h
   ·rename_i b hb
    by_cases hbw : (b == want) = true
    ·rw [hbw] at h
     simp only [cond_true] at h
     rw [if_pos hbw]
     refine .inl (wp_of_done (K := K) ?_ hn)
     rw [hr.eval]
     exact effK_sound o rfl h
    ·have hbw' : (b == want) = false := by simpa using hbw
     rw [hbw'] at h
     simp only [cond_false] at h
     rw [if_neg hbw]
     exact hn _ _ (Same.refl w) h
   ·rename_i hb
    rw [if_neg (by simp)]
    exact hn _ _ (Same.refl w) h
theorem opsOk_cons {o : Oper} {l : List Oper} (h : opsOk n (o :: l) = true) : (match o.dst with | some d => Nat.blt d n | none => true) = true ∧ opsOk n l = true := by
 simpa [opsOk] using h
theorem up_keeps {d : Option Tmp} {v : Value} {t : Nat} {rest : List Tmp} (ht : memN t (match d with | some d => d :: rest | none => rest) = false) : up ρ d v t = ρ t ∧ memN t rest = false := by
 cases d with
 | none => exact ⟨rfl, ht⟩
 | some d =>
  simp only [memN] at ht
  simp only [up]
  cases hb : Nat.beq t d with
  | true => rw [hb] at ht; cases ht
  | false => rw [hb] at ht; exact ⟨rfl, ht⟩
theorem cOps_sound [FlatOk P] {all : Array Oper} {Q : Ex → Env → Heap → Prop} {Q' : Exit → Act → World → Prop} : ∀ (l : List Oper) (k : Nat) (ρ : Env) (a : Act) (w : World), all.toList.drop k = l → opsOk n l = true → Rel n a ρ →
  cOps P all l ρ w.heap (Q .nx) → (∀ e a' w', Post n ρ (l.filterMap (·.dst)) w Q e a' w' → Q' e a' w') → wpOps P all Q' (List.range' k l.length) a w
 | [], k, ρ, a, w, _, _, hr, h, hQ => by
  simp only [List.length_nil, List.range'_zero, wpOps]
  exact hQ _ _ _ ⟨ρ, hr, fun _ _ => rfl, Same.refl w, h⟩
 | o :: l, k, ρ, a, w, hd, hok, hr, h, hQ => by
  have hk : all[k]? = some o := by
   rw [← Array.getElem?_toList]
   have : (all.toList.drop k)[0]? = some o := by rw [hd]; rfl
   simpa using this
  have hd' : all.toList.drop (k + 1) = l := by
   have : (all.toList.drop k).drop 1 = l := by rw [hd]; rfl
   simpa [List.drop_drop] using this
  obtain ⟨h1, h2⟩ := opsOk_cons hok
  simp only [List.length_cons, List.range'_succ, wpOps, hk]
  rw [cOps_cons] at h
  refine cOp_sound (n := n) hr h fun v w' hs hK => ?_
  refine cOps_sound l (k + 1) (up ρ o.dst v) _ w' hd' h2 (hr.put h1 v) hK fun e a' w'' ⟨ρ2, g1, g2, g3, g4⟩ => hQ e a' w'' ⟨ρ2, g1, fun t ht => ?_, hs.trans g3, g4⟩
  have := up_keeps (ρ := ρ) (d := o.dst) (v := v) (t := t) (rest := l.filterMap (·.dst)) (by cases hdst : o.dst <;> simp [hdst] at ht ⊢ <;> exact ht)
  rw [g2 t this.2, this.1]
theorem wanted_quiet [FlatOk P] {all : Array Oper} {o : Oper} {C : World → Prop} {K : Act → Prop} {h : Heap} {K0 : Value → Prop} (hr : Rel n a ρ) (hC : ∀ w, C w → w.heap = h)
  (hv : roK P all ρ o h K0) (hn : ∀ v, K0 v → K (a.put o.dst v)) :
  if Region.wanted o (yielded all a.tmps) then o.quiet P a C K else K (a.put o.dst undef) := by
 have hv := roK_ro hv
 unfold roG at hv
 cases hro : roV P ρ o.op h with
 | none => simp [hro] at hv
 | some r =>
  simp only [hro] at hv
  have hq : ∀ v, r = some v → ∀ w, C w → o.quietAt P a C w v := by
   intro v hrv w hw
   unfold Oper.quietAt
   rw [hr.eval, roV_sound (w := w) o rfl (by rw [hC w hw]; exact hro) hrv]
   exact ⟨rfl, rfl⟩
  cases hg : o.guard with
  | none =>
   simp only [hg] at hv
   rw [if_pos (by simp [Region.wanted, hg])]
   unfold vK at hv
   split at hv
   ·rename_i v
    exact ⟨v, hq v rfl, hn v hv⟩
   ·exact hv.elim
  | some p =>
   obtain ⟨j, want⟩ := p
   simp only [hg] at hv
   rw [wanted_g hr hg]
   unfold gV at hv
   split at hv
   ·rename_i b hb
    by_cases hbw : (b == want) = true
    ·rw [hbw] at hv
     simp only [cond_true] at hv
     rw [if_pos hbw]
     unfold vK at hv
     split at hv
     ·rename_i v
      exact ⟨v, hq v rfl, hn v hv⟩
     ·exact hv.elim
    ·have hbw' : (b == want) = false := by simpa using hbw
     rw [hbw'] at hv
     simp only [cond_false, vK] at hv
     rw [if_neg hbw]
     exact hn _ hv
   ·rename_i hb
    simp only [vK] at hv
    rw [if_neg (by simp)]
    exact hn _ hv
theorem cOpsR_sound [FlatOk P] {all : Array Oper} {Q : Ex → Env → Heap → Prop} {C : World → Prop} {h : Heap} {Q' : Act → Prop} (hC : ∀ w, C w → w.heap = h) : ∀ (l : List Oper) (ρ : Env) (a : Act), opsOk n l = true → Rel n a ρ →
  cOpsR P all l ρ h (Q .nx) → (∀ a' ρ2, Rel n a' ρ2 → (∀ t, memN t (l.filterMap (·.dst)) = false → ρ2 t = ρ t) → Q .nx ρ2 h → Q' a') → wpQuiet P all C Q' l a
 | [], ρ, a, _, hr, hh, hQ => hQ _ ρ hr (fun _ _ => rfl) hh
 | o :: l, ρ, a, hok, hr, hh, hQ => by
  obtain ⟨h1, h2⟩ := opsOk_cons hok
  simp only [wpQuiet]
  refine wanted_quiet (n := n) (h := h) hr hC (K0 := fun v => cOpsR P all l (up ρ o.dst v) h (Q .nx)) hh fun v hK => ?_
  refine cOpsR_sound hC l (up ρ o.dst v) _ h2 (hr.put h1 v) hK fun a' ρ2 g1 g2 g3 => hQ a' ρ2 g1 (fun t ht => ?_) g3
  have := up_keeps (ρ := ρ) (d := o.dst) (v := v) (t := t) (rest := l.filterMap (·.dst)) (by cases hdst : o.dst <;> simp [hdst] at ht ⊢ <;> exact ht)
  rw [g2 t this.2, this.1]
theorem same_drawn (w : World) : Same w { w with drawn := w.drawn + 1 } := ⟨rfl, rfl, rfl⟩
theorem Region.wanted_eq {all : Array Oper} {o : Oper} (hr : Rel n a ρ) : Region.wanted o (yielded all a.tmps) = match o.guard with
  | none => true
  | some (j, want) => match gOf all ρ j with | .bool b => b == want | _ => false := by
 cases hg : o.guard with
 | none => simp [Region.wanted, hg]
 | some p => obtain ⟨j, want⟩ := p; exact wanted_g hr hg
theorem yieldsIf_of [FlatOk P] {all : Array Oper} {o : Oper} {S : Heap → Prop} {v : Value} {h0 : Heap} (hr : Rel n a ρ) (h0S : S h0)
  (hv : ∀ h, S h → (match roG P all ρ o h with | some r => r | none => none) = some v) : YieldsIf P all (fun w => S w.heap) o v a := by
 unfold YieldsIf
 rw [Region.wanted_eq hr]
 have key : ∀ h, S h → ∃ r, roV P ρ o.op h = some r ∧ (match o.guard with | none => r | some (j, want) => gV (gOf all ρ j) want r) = some v := by
  intro h hh
  have := hv h hh
  unfold roG at this
  cases hro : roV P ρ o.op h with
  | none => simp [hro] at this
  | some r =>
   simp only [hro] at this
   refine ⟨r, rfl, ?_⟩
   cases hg : o.guard with
   | none => simpa [hg] using this
   | some p => simpa [hg] using this
 cases hg : o.guard with
 | none =>
  refine .inl ⟨rfl, fun w hw => ?_⟩
  obtain ⟨r, h1, h2⟩ := key _ hw
  simp only [hg] at h2
  rw [hr.eval]
  exact roV_sound o rfl h1 h2
 | some p =>
  obtain ⟨j, want⟩ := p
  simp only [hg] at key
  cases hgo : gOf all ρ j with
  | bool b =>
   simp only [hgo, gV] at key
   cases hbw : (b == want) with
   | true =>
    refine .inl ⟨by simp only [hgo]; exact hbw, fun w hw => ?_⟩
    obtain ⟨r, h1, h2⟩ := key _ hw
    rw [hbw, cond_true] at h2
    rw [hr.eval]
    exact roV_sound o rfl h1 h2
   | false =>
    obtain ⟨r, h1, h2⟩ := key _ h0S
    rw [hbw, cond_false] at h2
    exact .inr ⟨by simp only [hgo]; exact hbw, (Option.some.inj h2).symm⟩
  | _ =>
   obtain ⟨r, h1, h2⟩ := key _ h0S
   simp only [hgo, gV] at h2
   exact .inr ⟨by simp only [hgo], (Option.some.inj h2).symm⟩
theorem wpOp_of_cOp [FlatOk P] {all : Array Oper} {i : Nat} {o : Oper} {K : Value → Heap → Prop} {next : Act → World → Prop} {Q : Exit → Act → World → Prop} (hi : all[i]? = some o) (hr : Rel n a ρ) (h : cOp P all ρ o w.heap K)
  (hn : ∀ v w', Same w w' → K v w'.heap → next (a.put o.dst v) w') : wpOp P all Q i next a w := by
 unfold wpOp
 simp only [hi]
 exact cOp_sound hr h hn
theorem opsOk_get {o : Oper} : ∀ (l : List Oper) (i : Nat), opsOk n l = true → l[i]? = some o → (match o.dst with | some d => Nat.blt d n | none => true) = true := by
 intro l
 induction l with
 | nil => intro i _ h; simp at h
 | cons o' l ih =>
  intro i h hi
  obtain ⟨h1, h2⟩ := opsOk_cons h
  cases i with
  | zero =>
   simp only [List.getElem?_cons_zero, Option.some.injEq] at hi
   subst hi
   exact h1
  | succ i =>
   simp only [List.getElem?_cons_succ] at hi
   exact ih i h2 hi
theorem memN_of_mem : ∀ {t : Nat} {l : List Nat}, t ∈ l → memN t l = true
 | t, c :: l, h => by
  simp only [memN]
  cases hb : Nat.beq t c with
  | true => rfl
  | false =>
   rcases List.mem_cons.1 h with rfl | h
   ·simp at hb
   ·exact memN_of_mem h
theorem roG_heapless {all : Array Oper} {o : Oper} (h : heapless P o.op = true) (h1 h2 : Heap) : roG P all ρ o h1 = roG P all ρ o h2 := by
 have : roV P ρ o.op h1 = roV P ρ o.op h2 := by
  cases ho : o.op with
  | binOp op t x y z =>
   rw [ho] at h
   have h : (match ekOf P t with | .p => nilO x || nilO y | _ => true) = true := h
   unfold roV
   cases he : ekOf P t with
   | p =>
    rw [he] at h
    have h : (nilO x || nilO y) = true := h
    simp only [h]
   | _ => simp only [he]
  | _ => first | rfl | (rename_i m; cases m <;> rfl) | (exfalso; rw [ho] at h; cases h)
 unfold roG
 rw [this]
def Closed (ops : Array Oper) (listed : Array Bool) : Prop :=
 ∀ k o, ops[k]? = some o → listed.getD k false = true → ∀ e ∈ o.after, Region.binds .any e = true → listed.getD e.on false = true
theorem Closed.step {ops : Array Oper} {listed : Array Bool} {j : Nat} (h : Closed ops listed) (hj : j ∈ Region.ready .any ops listed) : Closed ops (listed.setIfInBounds j true) := by
 intro k o hk hl e he hb
 refine getD_set_true ?_
 by_cases hkj : k = j
 ·subst hkj
  obtain ⟨_, o', ho', hall⟩ := mem_ready.1 hj
  rw [hk] at ho'
  cases ho'
  exact hall e he hb
 ·exact h k o hk (by rw [← getD_set_ne false (Ne.symm hkj)]; exact hl) e he hb
theorem path_listed {ops : Array Oper} {listed : Array Bool} (h : Closed ops listed) {i : Nat} : ∀ (n k : Nat), pathB ops n k i = true → (∀ o, ops[k]? = some o → ∀ e ∈ o.after, Region.binds .any e = true → listed.getD e.on false = true) → listed.getD i false = true
 | 0, k, hp, _ => by simp [pathB] at hp
 | n + 1, k, hp, hk => by
  unfold pathB at hp
  cases ho : ops[k]? with
  | none => simp [ho] at hp
  | some o =>
   simp only [ho, Array.any_eq_true', Bool.and_eq_true, Bool.or_eq_true, beq_iff_eq] at hp
   obtain ⟨e, he, hb, hp⟩ := hp
   have hl := hk o ho e he hb
   rcases hp with rfl | hp
   ·exact hl
   ·exact path_listed h n e.on hp fun o' ho' e' he' hb' => h e.on o' ho' hl e' he' hb'
theorem bitOf_or (m e i : Nat) : bitOf (Nat.lor m (Nat.pow 2 e)) i = true → bitOf m i = true ∨ i = e := by
 have hb : ∀ m t, bitOf m t = m.testBit t := by
  intro m t
  unfold bitOf
  have h1 : Nat.land (Nat.shiftRight m t) 1 = (m >>> t) % 2 := Nat.and_one_is_mod _
  rw [h1, Nat.shiftRight_eq_div_pow, Nat.testBit_eq_decide_div_mod_eq]
  cases h : Nat.beq (m / 2 ^ t % 2) 1 with
  | true => simp [Nat.eq_of_beq_eq_true h]
  | false => have : ¬ m / 2 ^ t % 2 = 1 := Nat.ne_of_beq_eq_false h; simp [this]
 rw [hb, hb]
 intro h
 have h : (m ||| 2 ^ e).testBit i = true := h
 rw [Nat.testBit_or, Nat.testBit_two_pow, Bool.or_eq_true, decide_eq_true_eq] at h
 rcases h with h | h
 ·exact .inl h
 ·exact .inr h.symm
theorem pathB_step {ops : Array Oper} {j i : Nat} {o : Oper} (ho : ops[j]? = some o) {e : Edge} (he : e ∈ o.after) (hb : Region.binds .any e = true) (hi : e.on = i) : ∀ (n k : Nat), pathB ops n k j = true → ∃ n, pathB ops n k i = true
 | 0, k, h => by simp [pathB] at h
 | n + 1, k, h => by
  unfold pathB at h
  cases hk : ops[k]? with
  | none => simp [hk] at h
  | some o' =>
   simp only [hk, Array.any_eq_true', Bool.and_eq_true, Bool.or_eq_true, beq_iff_eq] at h
   obtain ⟨e', he', hb', h⟩ := h
   have fin : ∀ m, pathB ops m e'.on i = true → ∃ n, pathB ops n k i = true := fun m hm => ⟨m + 1, by
    unfold pathB
    simp only [hk, Array.any_eq_true', Bool.and_eq_true, Bool.or_eq_true, beq_iff_eq]
    exact ⟨e', he', hb', .inr hm⟩⟩
   rcases h with h | h
   ·refine fin 1 ?_
    unfold pathB
    rw [h]
    simp only [ho, Array.any_eq_true', Bool.and_eq_true, Bool.or_eq_true, beq_iff_eq]
    exact ⟨e, he, hb, .inl hi⟩
   ·obtain ⟨m, hm⟩ := pathB_step ho he hb hi n e'.on h
    exact fin m hm
theorem edgeM_mem {i : Nat} : ∀ (l : List Edge) (m : Nat), bitOf (edgeM l m) i = true → bitOf m i = true ∨ ∃ e ∈ l, Region.binds .any e = true ∧ e.on = i
 | [], m, h => .inl h
 | e :: l, m, h => by
  unfold edgeM at h
  rcases edgeM_mem l _ h with h1 | ⟨e', h1, h2⟩
  ·cases hb : Region.binds .any e with
   | true =>
    simp only [hb] at h1
    rcases bitOf_or _ _ _ h1 with h1 | h1
    ·exact .inl h1
    ·exact .inr ⟨e, by simp, hb, h1.symm⟩
   | false =>
    simp only [hb] at h1
    exact .inl h1
  ·exact .inr ⟨e', by simp [h1], h2⟩
theorem ancM_mem {ops : Array Oper} {k : Nat} : ∀ (j m : Nat), (∀ i, bitOf m i = true → ∃ n, pathB ops n k i = true) → ∀ i, bitOf (ancM ops j m) i = true → ∃ n, pathB ops n k i = true
 | 0, m, H, i, h => H i h
 | j + 1, m, H, i, h => by
  unfold ancM at h
  refine ancM_mem j _ ?_ i h
  intro i h
  cases hb : bitOf m j with
  | false => simp only [hb] at h; exact H i h
  | true =>
   simp only [hb] at h
   cases ho : ops[j]? with
   | none => simp only [ho] at h; exact H i h
   | some o =>
    simp only [ho] at h
    rcases edgeM_mem _ _ h with h | ⟨e, h1, h2, h3⟩
    ·exact H i h
    ·obtain ⟨n, hn⟩ := H j hb
     exact pathB_step ho (by simpa using h1) h2 h3 n k hn
theorem pathM_sound {ops : Array Oper} {k i : Nat} (h : pathM ops k i = true) : ∃ n, pathB ops n k i = true := by
 refine ancM_mem ops.size _ ?_ i h
 intro i h
 cases ho : ops[k]? with
 | none =>
  simp only [ho] at h
  simp [bitOf, Nat.shiftRight_eq_div_pow] at h
 | some o =>
  simp only [ho] at h
  rcases edgeM_mem _ _ h with h | ⟨e, h1, h2, h3⟩
  ·have : Nat.land (Nat.shiftRight 0 i) 1 = 0 := by
    have h1 : Nat.land (Nat.shiftRight 0 i) 1 = (0 >>> i) % 2 := Nat.and_one_is_mod _
    rw [h1, Nat.shiftRight_eq_div_pow]; simp
   unfold bitOf at h
   rw [this] at h
   cases h
  ·refine ⟨1, ?_⟩
   unfold pathB
   simp only [ho, Array.any_eq_true', Bool.and_eq_true, Bool.or_eq_true, beq_iff_eq]
   exact ⟨e, by simpa using h1, h2, .inl h3⟩
def wpAnyF (P : Program) (ops : Array Oper) (Q : Exit → Act → World → Prop) (S : World → Prop) (F : Nat → Bool) : Nat → Array Bool → Act → World → Prop
 | 0, listed, a, w => Region.ready .any ops listed = [] ∧ Q .normal a w
 | fuel + 1, listed, a, w =>
  (Region.ready .any ops listed = [] → Q .normal a w) ∧
  ∀ i ∈ Region.ready .any ops listed, wpOp P ops Q i (fun a' w' => if F i = true then wpAny P .any ops Q fuel (listed.setIfInBounds i true) a' w' else S w' ∧ wpAnyF P ops Q S F fuel (listed.setIfInBounds i true) a' w') a w
theorem wpAny_of_F {P : Program} {ops : Array Oper} {Q : Exit → Act → World → Prop} {S : World → Prop} {F : Nat → Bool} : ∀ (fuel : Nat) (listed : Array Bool) (a : Act) (w : World), wpAnyF P ops Q S F fuel listed a w → wpAny P .any ops Q fuel listed a w
 | 0, _, _, _, h => h
 | fuel + 1, _, _, _, h => ⟨h.1, fun i hi => wpOp_mono (fun a' w' h' => by
   split at h'
   ·exact h'
   ·exact wpAny_of_F fuel _ a' w' h'.2) (h.2 i hi)⟩
theorem wpAnyF_first {P : Program} {ops : Array Oper} {Q : Exit → Act → World → Prop} {S : World → Prop} {F : Nat → Bool} {i : Nat} {oi : Oper} {v : Value} (hi : ops[i]? = some oi) (hsel : ∀ (j : Nat) (o : Oper) cs b, ops[j]? = some o → o.op ≠ .select cs b)
  (hQ : ∀ c a w, Q (.panic c) (a.put oi.dst v) w → Q (.panic c) a w) (hFi : F i = false) (hF : ∀ k, F k = true → ∃ n, pathB ops n k i = true) :
  ∀ (fuel : Nat) (listed : Array Bool) (a : Act) (w : World),
   (∀ j oj, ops[j]? = some oj → j ≠ i → listed.getD j true = false → (∀ e ∈ oj.after, Region.binds .any e = true → e.on ≠ i) → oi.apart ops oj = true) →
   Closed ops listed → i ∈ Region.ready .any ops listed → YieldsIf P ops S oi v a → S w →
   wpAnyF P ops Q S F fuel (listed.setIfInBounds i true) (a.put oi.dst v) w → wpAnyF P ops Q S F (fuel + 1) listed a w := by
 have notF : ∀ {listed : Array Bool} {j : Nat}, Closed ops listed → i ∈ Region.ready .any ops listed → j ∈ Region.ready .any ops listed → ¬ F j = true := by
  intro listed j hc hr hj hfj
  obtain ⟨n, hn⟩ := hF j hfj
  obtain ⟨_, oj, hoj, hall⟩ := mem_ready.1 hj
  have h1 := path_listed hc n j hn fun o ho e he hb => by rw [hoj] at ho; cases ho; exact hall e he hb
  have h0 := (mem_ready.1 hr).1
  rcases Nat.lt_or_ge i listed.size with h' | h'
  ·simp [h'] at h0 h1; rw [h0] at h1; cases h1
  ·simp [Array.getElem?_eq_none h'] at h1
 have hnF : ¬ F i = true := by rw [hFi]; simp
 intro fuel
 induction fuel with
 | zero =>
  intro listed a w _ hc hr hy hS H
  refine ⟨fun h => (by rw [h] at hr; cases hr), fun j hj => ?_⟩
  by_cases hji : j = i
  ·subst hji; exact hy.wpOp hi hS (by rw [if_neg hnF]; exact ⟨hS, H⟩)
  ·have := ready_mono hj hji
   rw [H.1] at this
   cases this
 | succ fuel ih =>
  intro listed a w hfree hc hr hy hS H
  refine ⟨fun h => (by rw [h] at hr; cases hr), fun j hj => ?_⟩
  by_cases hji : j = i
  ·subst hji; exact hy.wpOp hi hS (by rw [if_neg hnF]; exact ⟨hS, H⟩)
  ·have h1 := H.2 j (ready_mono hj hji)
   have hnFj := notF hc hr hj
   simp only [if_neg hnFj] at h1 ⊢
   obtain ⟨hjun, oj, hoj, hall⟩ := mem_ready.1 hj
   have hnot : ∀ e ∈ oj.after, Region.binds .any e = true → e.on ≠ i := fun e he hb heq => by
    have h1 := hall e he hb
    have h0 := (mem_ready.1 hr).1
    rw [heq] at h1
    rcases Nat.lt_or_ge i listed.size with h' | h'
    ·simp [h'] at h0 h1; rw [h0] at h1; cases h1
    ·simp [Array.getElem?_eq_none h'] at h1
   have h2 := wpOp_putIf hoj (hfree j oj hoj hji hjun hnot) (fun cs b => hsel i oi cs b hi) (fun cs b => hsel j oj cs b hoj) hQ hy h1
   have hfree' : ∀ k ok, ops[k]? = some ok → k ≠ i → (listed.setIfInBounds j true).getD k true = false →
     (∀ e ∈ ok.after, Region.binds .any e = true → e.on ≠ i) → oi.apart ops ok = true := fun k ok hk hki hun hno => by
    refine hfree k ok hk hki ?_ hno
    by_cases hjk : j = k
    ·subst hjk; exact hjun
    ·rw [getD_set_ne true hjk] at hun; exact hun
   refine wpOp_mono (fun a' w' h3 => ⟨h3.2.1, ih (listed.setIfInBounds j true) a' w' hfree' (hc.step hj) (ready_mono hr (Ne.symm hji)) h3.1 h3.2.1 ?_⟩) h2
   rw [Array.setIfInBounds_comm _ _ hji]
   exact h3.2.2
theorem wpAnyF_firstP {P : Program} {ops : Array Oper} {Q : Exit → Act → World → Prop} {S : World → Prop} {F : Nat → Bool} {i : Nat} {oi : Oper} {v : Value} (hi : ops[i]? = some oi) (hsel : ∀ (j : Nat) (o : Oper) cs b, ops[j]? = some o → o.op ≠ .select cs b)
  (hQ : ∀ c a w, Q (.panic c) (a.put oi.dst v) w → Q (.panic c) a w) (hFi : F i = false) :
  ∀ (fuel : Nat) (listed : Array Bool) (a : Act) (w : World),
   (∀ j oj, ops[j]? = some oj → j ≠ i → listed.getD j true = false → (∀ e ∈ oj.after, Region.binds .any e = true → e.on ≠ i) → oi.apart ops oj = true) →
   i ∈ Region.ready .any ops listed → Yields P ops oi v a → S w →
   wpAnyF P ops Q S F fuel (listed.setIfInBounds i true) (a.put oi.dst v) w → wpAnyF P ops Q S F (fuel + 1) listed a w := by
 have hnF : ¬ F i = true := by rw [hFi]; simp
 intro fuel
 induction fuel with
 | zero =>
  intro listed a w _ hr hy hS H
  refine ⟨fun h => (by rw [h] at hr; cases hr), fun j hj => ?_⟩
  by_cases hji : j = i
  ·subst hji; exact hy.wpOp hi (by rw [if_neg hnF]; exact ⟨hS, H⟩)
  ·have := ready_mono hj hji
   rw [H.1] at this
   cases this
 | succ fuel ih =>
  intro listed a w hfree hr hy hS H
  refine ⟨fun h => (by rw [h] at hr; cases hr), fun j hj => ?_⟩
  by_cases hji : j = i
  ·subst hji; exact hy.wpOp hi (by rw [if_neg hnF]; exact ⟨hS, H⟩)
  ·have h1 := H.2 j (ready_mono hj hji)
   obtain ⟨hjun, oj, hoj, hall⟩ := mem_ready.1 hj
   have hnot : ∀ e ∈ oj.after, Region.binds .any e = true → e.on ≠ i := fun e he hb heq => by
    have h1 := hall e he hb
    have h0 := (mem_ready.1 hr).1
    rw [heq] at h1
    rcases Nat.lt_or_ge i listed.size with h' | h'
    ·simp [h'] at h0 h1; rw [h0] at h1; cases h1
    ·simp [Array.getElem?_eq_none h'] at h1
   have h2 := wpOp_put hoj (hfree j oj hoj hji hjun hnot) (fun cs b => hsel i oi cs b hi) (fun cs b => hsel j oj cs b hoj) hQ hy h1
   have hfree' : ∀ k ok, ops[k]? = some ok → k ≠ i → (listed.setIfInBounds j true).getD k true = false →
     (∀ e ∈ ok.after, Region.binds .any e = true → e.on ≠ i) → oi.apart ops ok = true := fun k ok hk hki hun hno => by
    refine hfree k ok hk hki ?_ hno
    by_cases hjk : j = k
    ·subst hjk; exact hjun
    ·rw [getD_set_ne true hjk] at hun; exact hun
   refine wpOp_mono (fun a' w' h3 => ?_) h2
   obtain ⟨hy', h3⟩ := h3
   by_cases hF : F j = true
   ·rw [if_pos hF] at h3 ⊢
    rw [Array.setIfInBounds_comm _ _ (Ne.symm hji)] at h3
    exact wpAny_first hi hsel hQ fuel (listed.setIfInBounds j true) a' w' hfree' (ready_mono hr (Ne.symm hji)) hy' h3
   ·rw [if_neg hF] at h3 ⊢
    refine ⟨h3.1, ih (listed.setIfInBounds j true) a' w' hfree' (ready_mono hr (Ne.symm hji)) hy' h3.1 ?_⟩
    rw [Array.setIfInBounds_comm _ _ hji]
    exact h3.2
theorem wpAnyF_mono {P : Program} {ops : Array Oper} {Q : Exit → Act → World → Prop} {S : World → Prop} {F F' : Nat → Bool} (hF : ∀ k, F k = true → F' k = true) : ∀ (fuel : Nat) (listed : Array Bool) (a : Act) (w : World), wpAnyF P ops Q S F fuel listed a w → wpAnyF P ops Q S F' fuel listed a w
 | 0, _, _, _, h => h
 | fuel + 1, _, _, _, h => ⟨h.1, fun i hi => wpOp_mono (fun a' w' h' => by
   by_cases h1 : F i = true
   ·rw [if_pos h1] at h'
    rw [if_pos (hF i h1)]
    exact h'
   ·rw [if_neg h1] at h'
    by_cases h2 : F' i = true
    ·rw [if_pos h2]
     exact wpAny_of_F fuel _ a' w' h'.2
    ·rw [if_neg h2]
     exact ⟨h'.1, wpAnyF_mono hF fuel _ a' w' h'.2⟩) (h.2 i hi)⟩
theorem wpAnyF_done {P : Program} {ops : Array Oper} {Q : Exit → Act → World → Prop} {S : World → Prop} {F : Nat → Bool} {listed : Array Bool} {a : Act} {w : World} (h0 : Region.ready .any ops listed = []) (hQ : Q .normal a w) : ∀ fuel, wpAnyF P ops Q S F fuel listed a w
 | 0 => ⟨h0, hQ⟩
 | fuel + 1 => ⟨fun _ => hQ, fun i hi => by rw [h0] at hi; cases hi⟩
theorem planAlt_ready {ops : Array Oper} {listed : Array Bool} : ∀ (t : PT) (gs : List Nat), planOk P ops t false gs listed = true → Region.ready .any ops listed ≠ []
 | .nil, gs, h => by simp [planOk] at h
 | .op i q t, gs, h => by
  intro h0
  cases q <;> simp [planOk, h0] at h
 | .alt x y, gs, h => by
  simp only [planOk, Bool.and_eq_true, cond_false] at h
  exact planAlt_ready x gs h.2.1
theorem cDraw_sound [FlatOk P] {all : Array Oper} {Q : Ex → Env → Heap → Prop} {Q' : Exit → Act → World → Prop} {ρ0 : Env} {w0 : World} (hns : Region.noSelect all = true) (hok : opsOk n all.toList = true)
  (hQp : ∀ c a w, ¬ Q' (.panic c) a w) : ∀ (plan : PT) (root : Bool) (fs : List Nat) (S : Heap → Prop) (listed : Array Bool) (ρ : Env) (a : Act) (w : World) (fuel : Nat), planOk P all plan root fs listed = true → depthT plan ≤ fuel → Closed all listed → Rel n a ρ → (∀ t, memN t (all.toList.filterMap (·.dst)) = false → ρ t = ρ0 t) → Same w0 w → S w.heap →
  cDraw P all plan S ρ w.heap (Q .nx) → (∀ e a' w', Post n ρ0 (all.toList.filterMap (·.dst)) w0 Q e a' w' → Q' e a' w') →
  (root = true → wpAnyF P all Q' (fun w => S w.heap) (fun j => (nextFs plan).contains j) fuel listed a w) ∧
  (root = false → (∀ k, (nextFs plan).contains k = true → fs.contains k = true) → ∀ i ∈ Region.ready .any all listed, i ∈ headsT plan → ∃ fuel', fuel = fuel' + 1 ∧
   wpOp P all Q' i (fun a' w' => if fs.contains i = true then wpAny P .any all Q' fuel' (listed.setIfInBounds i true) a' w' else S w'.heap ∧ wpAnyF P all Q' (fun w => S w.heap) (fun j => fs.contains j) fuel' (listed.setIfInBounds i true) a' w') a w)
 | .nil, root, fs, S, listed, ρ, a, w, fuel, hp, hf, hcl, hr, hρ, hs, hS, h, hQ => by
  simp only [planOk, Bool.and_eq_true] at hp
  refine ⟨fun _ => wpAnyF_done (by simpa using hp.2) (hQ _ _ _ ⟨ρ, hr, hρ, hs, h⟩) fuel, fun h0 => ?_⟩
  rw [h0] at hp
  cases hp.1
 | .alt x y, root, fs, S, listed, ρ, a, w, fuel, hp, hf, hcl, hr, hρ, hs, hS, h, hQ => by
  simp only [planOk, Bool.and_eq_true] at hp
  obtain ⟨hp0, hp1, hp2⟩ := hp
  rw [cDraw_alt] at h
  have hfx : depthT x ≤ fuel := Nat.le_trans (Nat.le_max_left _ _) hf
  have hfy : depthT y ≤ fuel := Nat.le_trans (Nat.le_max_right _ _) hf
  have key : ∀ gs : List Nat, planOk P all x false gs listed = true → planOk P all y false gs listed = true → (∀ k, (nextFs x ++ nextFs y).contains k = true → gs.contains k = true) → ∀ i ∈ Region.ready .any all listed, i ∈ headsT (.alt x y) → ∃ fuel', fuel = fuel' + 1 ∧
    wpOp P all Q' i (fun a' w' => if gs.contains i = true then wpAny P .any all Q' fuel' (listed.setIfInBounds i true) a' w' else S w'.heap ∧ wpAnyF P all Q' (fun w => S w.heap) (fun j => gs.contains j) fuel' (listed.setIfInBounds i true) a' w') a w := by
   intro gs g1 g2 g3 i hi hih
   rcases List.mem_append.1 hih with hih | hih
   ·exact (cDraw_sound hns hok hQp x false gs S listed ρ a w fuel g1 hfx hcl hr hρ hs hS h.1 hQ).2 rfl (fun k hk => g3 k (by simp at hk ⊢; exact .inl hk)) i hi hih
   ·exact (cDraw_sound hns hok hQp y false gs S listed ρ a w fuel g2 hfy hcl hr hρ hs hS h.2 hQ).2 rfl (fun k hk => g3 k (by simp at hk ⊢; exact .inr hk)) i hi hih
  refine ⟨fun h0 => ?_, fun h0 hk => ?_⟩
  ·subst h0
   simp only [cond_true] at hp0 hp1 hp2
   have k2 := key _ hp1 hp2 (fun k hk => hk)
   have hne := planAlt_ready x _ hp1
   cases fuel with
   | zero =>
    obtain ⟨i, hi⟩ := List.exists_mem_of_ne_nil _ hne
    have := List.all_eq_true.1 hp0 i hi
    obtain ⟨fuel', h1, _⟩ := k2 i hi (by simpa [headsT] using this)
    cases h1
   | succ fuel =>
    refine ⟨fun hnone => absurd hnone hne, fun i hi => ?_⟩
    ·have hih := List.all_eq_true.1 hp0 i hi
     obtain ⟨fuel', h1, h2⟩ := k2 i hi (by simpa [headsT] using hih)
     cases h1
     exact h2
  ·subst h0
   simp only [cond_false] at hp1 hp2
   exact key fs hp1 hp2 (fun k hk' => hk k hk')
 | .op i q plan, root, fs, S, listed, ρ, a, w, fuel, hp, hf, hcl, hr, hρ, hs, hS, h, hQ => by
  obtain ⟨fuel, rfl⟩ : ∃ f, fuel = f + 1 := ⟨fuel - 1, by simp only [depthT] at hf; omega⟩
  have hf' : depthT plan ≤ fuel := by simp only [depthT] at hf; omega
  simp only [planOk, Bool.and_eq_true] at hp
  obtain ⟨hp1, hp2⟩ := hp
  rw [cDraw_cons] at h
  cases hi : all[i]? with
  | none => simp [hi] at h
  | some o =>
   simp only [hi] at h
   have hd := opsOk_get (o := o) all.toList i hok (by simpa using hi)
   have hρ' : ∀ v t, memN t (all.toList.filterMap (·.dst)) = false → up ρ o.dst v t = ρ0 t := by
    intro v t ht
    rw [← hρ t ht]
    cases hdst : o.dst with
    | none => rfl
    | some d =>
     simp only [up]
     cases hb : Nat.beq t d with
     | false => rfl
     | true =>
      have htd := Nat.eq_of_beq_eq_true hb
      subst htd
      rw [memN_of_mem (List.mem_filterMap.2 ⟨o, List.mem_of_getElem? (i := i) (by simpa using hi), hdst⟩)] at ht
      cases ht
   cases q with
   | r =>
    simp only [Bool.and_eq_true] at hp1
    obtain ⟨hroot, ⟨hfree, hready⟩, hnext⟩ := hp1
    refine ⟨fun _ => ?_, fun h0 => by rw [hroot] at h0; cases h0⟩
    have hin : i ∈ Region.ready .any all listed := by simpa using hready
    simp only at h
    have hall : ∀ k, (nextFs plan).contains k = true → ¬ k = i ∧ (pureAt P all i = true ∨ pathM all k i = true) := by
     intro k hk
     have := List.all_eq_true.1 hnext k (by simpa using hk)
     simpa using this
    have hFi : (nextFs plan).contains i = false := by
     rw [Bool.eq_false_iff]
     intro hc
     exact (hall i hc).1 rfl
    cases hl : heapless P o.op with
    | false =>
     simp only [hl] at h
     obtain ⟨v, hv, hK⟩ := h
     have ih := (cDraw_sound hns hok hQp plan true [] S _ _ _ w fuel hp2 hf' (hcl.step hin) (hr.put hd v) (hρ' v) hs hS hK hQ).1 rfl
     refine wpAnyF_first (F := fun j => (nextFs plan).contains j) hi (Region.noSelect_spec hns) (fun c a w hq => absurd hq (hQp _ _ _)) hFi ?_ fuel listed a w (Region.free_spec hi hfree) hcl hin (yieldsIf_of hr hS hv) hS ih
     intro k hk
     rcases (hall k hk).2 with h1 | h1
     ·simp [pureAt, hi, hl] at h1
     ·exact pathM_sound h1
    | true =>
     simp only [hl] at h
     have h := roK_ro h
     cases hg : roG P all ρ o w.heap with
     | none => rw [hg] at h; exact h.elim
     | some r =>
      rw [hg] at h
      simp only [vK] at h
      split at h
      ·rename_i v
       have ih := (cDraw_sound hns hok hQp plan true [] S _ _ _ w fuel hp2 hf' (hcl.step hin) (hr.put hd v) (hρ' v) hs hS h hQ).1 rfl
       have hyI := yieldsIf_of (all := all) (S := fun _ => True) (v := v) (h0 := w.heap) hr trivial (fun h' _ => by rw [roG_heapless hl h' w.heap, hg])
       have hy : Yields P all o v a := hyI.imp (fun ⟨g1, g2⟩ => ⟨g1, fun w => g2 w trivial⟩) id
       exact wpAnyF_firstP (F := fun j => (nextFs plan).contains j) hi (Region.noSelect_spec hns) (fun c a w hq => absurd hq (hQp _ _ _)) hFi fuel listed a w (Region.free_spec hi hfree) hin hy hS ih
      ·exact h.elim
   | e =>
    simp only [Bool.and_eq_true, Bool.not_eq_true'] at hp1
    obtain ⟨hready, hnext⟩ := hp1
    have step : ∀ gs : List Nat, gs.contains i = false → (∀ k, (nextFs plan).contains k = true → gs.contains k = true) → i ∈ Region.ready .any all listed →
      wpOp P all Q' i (fun a' w' => if gs.contains i = true then wpAny P .any all Q' fuel (listed.setIfInBounds i true) a' w' else S w'.heap ∧ wpAnyF P all Q' (fun w => S w.heap) (fun j => gs.contains j) fuel (listed.setIfInBounds i true) a' w') a w := by
     intro gs hg hsub hin
     refine wpOp_of_cOp hi hr h fun v w' hs' hK => ?_
     refine Eq.mpr (if_neg (by rw [hg]; exact Bool.false_ne_true)) ?_
     exact ⟨hK.1, wpAnyF_mono hsub _ _ _ _ ((cDraw_sound hns hok hQp plan true [] S _ _ _ w' fuel hp2 hf' (hcl.step hin) (hr.put hd v) (hρ' v) (hs.trans hs') hK.1 hK.2 hQ).1 rfl)⟩
    refine ⟨fun h0 => ?_, fun h0 hsub j hj hjh => ?_⟩
    ·subst h0
     simp only [cond_true] at hready hnext
     have hready : Region.ready .any all listed = [i] := by simpa using hready
     refine ⟨fun h0 => (by rw [h0] at hready; cases hready), fun j hj => ?_⟩
     obtain rfl : j = i := by rw [hready] at hj; simpa using hj
     exact step (nextFs plan) hnext (fun k hk => hk) hj
    ·subst h0
     obtain rfl : j = i := by simpa [headsT] using hjh
     simp only [cond_false] at hnext
     exact ⟨fuel, rfl, step fs hnext hsub hj⟩
   | f =>
    have step : i ∈ Region.ready .any all listed → wpOp P all Q' i (fun a' w' => wpAny P .any all Q' fuel (listed.setIfInBounds i true) a' w') a w := by
     intro hin
     refine wpOp_of_cOp hi hr h fun v w' hs' hK => ?_
     obtain ⟨S', hS', hK⟩ := hK
     exact wpAny_of_F _ _ _ _ ((cDraw_sound hns hok hQp plan true [] S' _ _ _ w' fuel hp2 hf' (hcl.step hin) (hr.put hd v) (hρ' v) (hs.trans hs') hS' hK hQ).1 rfl)
    refine ⟨fun h0 => ?_, fun h0 hsub j hj hjh => ?_⟩
    ·subst h0
     have hready : Region.ready .any all listed = [i] := by simpa using hp1
     refine ⟨fun h0 => (by rw [h0] at hready; cases hready), fun j hj => ?_⟩
     obtain rfl : j = i := by rw [hready] at hj; simpa using hj
     exact wpOp_mono (fun a' w' h' => Eq.mpr (if_pos (by simp [nextFs])) h') (step hj)
    ·obtain rfl : j = i := by simpa [headsT] using hjh
     exact ⟨fuel, rfl, wpOp_mono (fun a' w' h' => Eq.mpr (if_pos (hsub j (by simp [nextFs]))) h') (step hj)⟩
   | n =>
    have step : i ∈ Region.ready .any all listed → wpOp P all Q' i (fun a' w' => wpAny P .any all Q' fuel (listed.setIfInBounds i true) a' w') a w := by
     intro hin
     refine wpOp_of_cOp hi hr h fun v w' hs' hK => ?_
     exact wpAny_of_F _ _ _ _ ((cDraw_sound hns hok hQp plan true [] (fun _ => True) _ _ _ w' fuel hp2 hf' (hcl.step hin) (hr.put hd v) (hρ' v) (hs.trans hs') trivial hK hQ).1 rfl)
    refine ⟨fun h0 => ?_, fun h0 hsub j hj hjh => ?_⟩
    ·subst h0
     have hready : Region.ready .any all listed = [i] := by simpa using hp1
     refine ⟨fun h0 => (by rw [h0] at hready; cases hready), fun j hj => ?_⟩
     obtain rfl : j = i := by rw [hready] at hj; simpa using hj
     exact wpOp_mono (fun a' w' h' => Eq.mpr (if_pos (by simp [nextFs])) h') (step hj)
    ·obtain rfl : j = i := by simpa [headsT] using hjh
     exact ⟨fuel, rfl, wpOp_mono (fun a' w' h' => Eq.mpr (if_pos (hsub j (by simp [nextFs]))) h') (step hj)⟩
theorem subBits_mem {ws : Nat} : ∀ {l : List Nat}, subBits ws l = true → ∀ {t : Nat}, bitOf ws t = false → memN t l = false
 | [], _, _, _ => rfl
 | c :: l, h, t, ht => by
  simp only [subBits, Bool.and_eq_true] at h
  simp only [memN]
  cases hb : Nat.beq t c with
  | true =>
   have := Nat.eq_of_beq_eq_true hb
   subst this
   rw [h.1] at ht
   cases ht
  | false => exact subBits_mem h.2 ht
theorem havoc_self {ρ ρ' : Env} {ws : Nat} {cs : List Nat} (h : ∀ t, bitOf ws t = false → ρ' t = ρ t) : havoc ρ ρ' ws cs (cs.map ρ') = ρ' := by
 funext t
 have key : ∀ (cs : List Nat) (k : Nat), match posOf t k cs with | some i => k ≤ i ∧ cs[i - k]? = some t | none => True := by
  intro cs
  induction cs with
  | nil => intro k; simp [posOf]
  | cons c cs ih =>
   intro k
   simp only [posOf]
   cases hb : Nat.beq t c with
   | true => have := Nat.eq_of_beq_eq_true hb; subst this; simp
   | false =>
    simp only [cond_false]
    have := ih (k + 1)
    split
    ·rename_i i hi
     rw [hi] at this
     refine ⟨by omega, ?_⟩
     rw [show i - k = (i - (k + 1)) + 1 from by omega]
     simpa using this.2
    ·trivial
 have k0 := key cs 0
 unfold havoc
 cases hp : posOf t 0 cs with
 | some i =>
  rw [hp] at k0
  simp only
  have : cs[i]? = some t := by simpa using k0.2
  unfold ix
  rw [List.getD_eq_getElem?_getD, List.getElem?_map, this]
  rfl
 | none =>
  simp only
  cases hm : bitOf ws t with
  | true => rfl
  | false => exact (h t hm).symm
theorem cCode_sound [FlatOk P] (hm : P.follows .mixedOrders = true) : ∀ (c : Code) (an : Ann) (ρ : Env) (a : Act) (w : World) (Q : Ex → Env → Heap → Prop), okCode P n c an = true → Rel n a ρ → cCode P c an ρ w.heap Q →
  c.wp P (Post n ρ (writes c) w Q) a w := by
 intro c
 induction c with
 | skip => intro an ρ a w Q _ hr h; exact wp_skip ⟨ρ, hr, fun _ _ => rfl, Same.refl w, h⟩
 | exit id => intro an ρ a w Q _ hr h; exact wp_exit ⟨ρ, hr, fun _ _ => rfl, Same.refl w, h⟩
 | ret => intro an ρ a w Q _ hr h; exact wp_ret ⟨ρ, hr, fun _ _ => rfl, Same.refl w, h⟩
 | region id ops draw =>
  intro an ρ a w Q hok hr h
  have hops : opsOk n ops.toList = true := by simp only [okCode, Bool.and_eq_true] at hok; exact hok.1
  have seqCase : cOps P ops ops.toList ρ w.heap (Q .nx) → (Code.region id ops false).wp P (Post n ρ (writes (.region id ops false)) w Q) a w := by
   intro h
   refine wp_region ?_
   have := cOps_sound (Q := Q) (Q' := Post n ρ (ops.toList.filterMap (·.dst)) w Q) ops.toList 0 ρ a w (by simp) hops hr h (fun _ _ _ h => h)
   rw [List.range_eq_range']
   have e : wpOps P ops (Post n ρ (ops.toList.filterMap (·.dst)) w Q) (List.range' 0 ops.size) a w := by simpa using this
   exact e
  have roCase : Region.lexB .any ops = true → cOpsR P ops ops.toList ρ w.heap (Q .nx) → (Code.region id ops true).wp P (Post n ρ (writes (.region id ops true)) w Q) a w := by
   intro hl h
   refine wp_region_quiet (C := fun w' => Same w w' ∧ w'.heap = w.heap) hm hl ⟨same_drawn w, rfl⟩ ?_
   refine cOpsR_sound (C := fun w' => Same w w' ∧ w'.heap = w.heap) (fun w' h => h.2) ops.toList ρ a hops hr h fun a' ρ2 g1 g2 g3 w' hw' => ?_
   exact ⟨ρ2, g1, g2, hw'.1, by simp only [hw'.2]; exact g3⟩
  have other : (∀ plan, an ≠ .d plan) → (Code.region id ops draw).wp P (Post n ρ (writes (.region id ops draw)) w Q) a w := by
   intro hne
   cases draw with
   | false => cases an <;> first | exact absurd rfl (hne _) | exact seqCase h
   | true => cases an <;> first | exact absurd rfl (hne _) | exact roCase (by simp only [okCode, Bool.and_eq_true] at hok; exact hok.2) h
  by_cases hd : ∃ plan, an = .d plan
  ·obtain ⟨plan, rfl⟩ := hd
   simp only [okCode, Bool.and_eq_true] at hok
   obtain ⟨_, ⟨⟨h1, h2⟩, h3⟩, h4⟩ := hok
   subst h1
   obtain ⟨S, hS, h⟩ := h
   refine wp_region_any hm ?_
   have := cDraw_sound (P := P) (Q := Q) (Q' := Post n ρ (ops.toList.filterMap (·.dst)) w Q) (ρ0 := ρ) (w0 := w) h2 hops (fun c a w hq => by obtain ⟨_, _, _, _, hf⟩ := hq; exact hf)
    plan true [] S (Array.replicate ops.size false) ρ a { w with drawn := w.drawn + 1 } ops.size h4 (Nat.le_of_ble_eq_true h3) (fun k o hk hl => by simp [Array.getElem?_replicate] at hl; split at hl <;> simp at hl) hr (fun _ _ => rfl) (same_drawn w) hS h (fun _ _ _ h => h)
   exact wpAny_of_F _ _ _ _ (this.1 rfl)
  ·exact other (fun plan he => hd ⟨plan, he⟩)
 | seq x y ihx ihy =>
  intro an ρ a w Q hok hr h
  have lift : ∀ {ρ1 : Env} {w1 : World} (_ : ∀ t, memN t (writes x) = false → ρ1 t = ρ t) (_ : Same w w1) (e : Exit) (a2 : Act) (w2 : World), Post n ρ1 (writes y) w1 Q e a2 w2 → Post n ρ (writes (.seq x y)) w Q e a2 w2 := by
   intro ρ1 w1 h1 h2 e a2 w2 ⟨ρ2, g1, g2, g3, g4⟩
   refine ⟨ρ2, g1, fun t ht => ?_, h2.trans g3, g4⟩
   simp only [writes, memN_append, Bool.or_eq_false_iff] at ht
   rw [g2 t ht.2, h1 t ht.1]
  have liftx : ∀ (e : Exit) (a2 : Act) (w2 : World), Post n ρ (writes x) w Q e a2 w2 → Post n ρ (writes (.seq x y)) w Q e a2 w2 := by
   intro e a2 w2 ⟨ρ2, g1, g2, g3, g4⟩
   refine ⟨ρ2, g1, fun t ht => ?_, g3, g4⟩
   simp only [writes, memN_append, Bool.or_eq_false_iff] at ht
   exact g2 t ht.1
  cases an with
  | s p q =>
   simp only [okCode, Bool.and_eq_true] at hok
   refine wp_seq (wp_mono (ihx p ρ a w _ hok.1 hr h) ?_)
   intro e a1 w1 ⟨ρ1, g1, g2, g3, g4⟩
   cases e with
   | normal => exact wp_mono (ihy q ρ1 a1 w1 Q hok.2 g1 g4) (lift g2 g3)
   | exit id => exact liftx (.exit id) a1 w1 ⟨ρ1, g1, g2, g3, g4⟩
   | ret => exact liftx .ret a1 w1 ⟨ρ1, g1, g2, g3, g4⟩
   | _ => exact g4.elim
  | j ws cs p q =>
   simp only [okCode, Bool.and_eq_true] at hok
   obtain ⟨hws, hok⟩ := hok
   obtain ⟨J, h1, h2⟩ := h
   refine wp_seq (wp_mono (ihx p ρ a w _ hok.1 hr h1) ?_)
   intro e a1 w1 ⟨ρ1, g1, g2, g3, g4⟩
   cases e with
   | normal =>
    have this : cCode P y q (havoc ρ ρ1 ws cs (cs.map ρ1)) w1.heap Q := h2 (cs.map ρ1) ρ1 w1.heap g4
    rw [havoc_self (fun t ht => g2 t (subBits_mem hws ht))] at this
    exact wp_mono (ihy q ρ1 a1 w1 Q hok.2 g1 this) (lift g2 g3)
   | exit id => exact liftx (.exit id) a1 w1 ⟨ρ1, g1, g2, g3, g4⟩
   | ret => exact liftx .ret a1 w1 ⟨ρ1, g1, g2, g3, g4⟩
   | _ => exact g4.elim
  | _ => simp [okCode] at hok
 | cond c x y ihx ihy =>
  intro an ρ a w Q hok hr h
  cases an with
  | s p q =>
   simp only [okCode, Bool.and_eq_true] at hok
   have h : iteK (ev ρ c) (cCode P x p ρ w.heap Q) (cCode P y q ρ w.heap Q) := h
   unfold iteK at h
   split at h
   ·rename_i b hb
    refine wp_cond (t := b) (by rw [hr.eval]; exact hb) ?_
    cases b with
    | true =>
     refine wp_mono (ihx p ρ a w Q hok.1 hr h) ?_
     intro e a2 w2 ⟨ρ2, g1, g2, g3, g4⟩
     refine ⟨ρ2, g1, fun t ht => ?_, g3, g4⟩
     simp only [writes, memN_append, Bool.or_eq_false_iff] at ht
     exact g2 t ht.1
    | false =>
     refine wp_mono (ihy q ρ a w Q hok.2 hr h) ?_
     intro e a2 w2 ⟨ρ2, g1, g2, g3, g4⟩
     refine ⟨ρ2, g1, fun t ht => ?_, g3, g4⟩
     simp only [writes, memN_append, Bool.or_eq_false_iff] at ht
     exact g2 t ht.2
   ·exact h.elim
  | _ => simp [okCode] at hok
 | block id x ih =>
  intro an ρ a w Q hok hr h
  have plain : ∀ an', okCode P n x an' = true → cCode P x an' ρ w.heap (fun e ρ h => match e with
   | .nx => Q .nx ρ h
   | .br n => bif Nat.beq n id then Q .nx ρ h else Q (.br n) ρ h
   | .rt => Q .rt ρ h) → (Code.block id x).wp P (Post n ρ (writes (.block id x)) w Q) a w := by
   intro an' hok h
   refine wp_block (wp_mono (ih an' ρ a w _ hok hr h) ?_)
   intro e a1 w1 ⟨ρ1, g1, g2, g3, g4⟩
   cases e with
   | normal => exact ⟨ρ1, g1, g2, g3, g4⟩
   | exit id' =>
    simp only [Exit.inBlock]
    simp only at g4
    by_cases hid : id' = id
    ·subst hid
     rw [if_pos rfl]
     simp only [Nat.beq_refl] at g4
     exact ⟨ρ1, g1, g2, g3, g4⟩
    ·rw [if_neg hid]
     have hb : Nat.beq id' id = false := by rw [Bool.eq_false_iff]; intro hb; exact hid (Nat.eq_of_beq_eq_true hb)
     simp only [hb] at g4
     exact ⟨ρ1, g1, g2, g3, g4⟩
   | ret => exact ⟨ρ1, g1, g2, g3, g4⟩
   | _ => exact g4.elim
  cases an with
  | m ws cs p =>
   simp only [okCode, Bool.and_eq_true] at hok
   obtain ⟨hws, hok⟩ := hok
   obtain ⟨J, h1, h2⟩ := h
   refine wp_block (wp_mono (ih p ρ a w _ hok hr h1) ?_)
   intro e a1 w1 ⟨ρ1, g1, g2, g3, g4⟩
   have meet : J (cs.map ρ1) w1.heap → Q .nx ρ1 w1.heap := by
    intro hJ
    have this : Q .nx (havoc ρ ρ1 ws cs (cs.map ρ1)) w1.heap := h2 (cs.map ρ1) ρ1 w1.heap hJ
    rwa [havoc_self (fun t ht => g2 t (subBits_mem hws ht))] at this
   cases e with
   | normal => exact ⟨ρ1, g1, g2, g3, meet g4⟩
   | exit id' =>
    simp only [Exit.inBlock]
    simp only at g4
    by_cases hid : id' = id
    ·subst hid
     rw [if_pos rfl]
     simp only [Nat.beq_refl] at g4
     exact ⟨ρ1, g1, g2, g3, meet g4⟩
    ·rw [if_neg hid]
     have hb : Nat.beq id' id = false := by rw [Bool.eq_false_iff]; intro hb; exact hid (Nat.eq_of_beq_eq_true hb)
     simp only [hb] at g4
     exact ⟨ρ1, g1, g2, g3, g4⟩
   | ret => exact ⟨ρ1, g1, g2, g3, g4⟩
   | _ => exact g4.elim
  | _ => exact plain _ hok h
 | loop x ih =>
  intro an ρ a w Q hok hr h
  cases an with
  | l ws cs p =>
   simp only [okCode, Bool.and_eq_true] at hok
   obtain ⟨hws, hok⟩ := hok
   obtain ⟨I, m, h0, h1⟩ := h
   let val : Act → Nat → Value := fun a t => a.tmps.getD t undef
   refine wp_loop (fun a' w' => Rel n a' (val a') ∧ (∀ t, memN t (writes x) = false → val a' t = ρ t) ∧ Same w w' ∧ I (cs.map (val a')) w'.heap) (fun a' w' => m (cs.map (val a')) w'.heap) ?_ ?_
   ·have e : val a = ρ := funext hr.2.2
    rw [e]
    exact ⟨hr, fun _ _ => rfl, Same.refl w, h0⟩
   ·intro a' w' ⟨i1, i2, i3, i4⟩
    have hb := h1 (cs.map (val a')) (val a') w'.heap i4
    simp only at hb
    rw [havoc_self (fun t ht => i2 t (subBits_mem hws ht))] at hb
    refine wp_mono (ih p (val a') a' w' _ hok i1 hb) ?_
    intro e a2 w2 ⟨ρ2, g1, g2, g3, g4⟩
    have e2 : val a2 = ρ2 := funext g1.2.2
    cases e with
    | normal =>
     simp only [Exit.then]
     rw [e2]
     exact ⟨⟨g1, fun t ht => by rw [g2 t ht, i2 t ht], i3.trans g3, g4.1⟩, g4.2⟩
    | exit id => exact ⟨ρ2, g1, fun t ht => by rw [g2 t ht, i2 t ht], i3.trans g3, g4⟩
    | ret => exact ⟨ρ2, g1, fun t ht => by rw [g2 t ht, i2 t ht], i3.trans g3, g4⟩
    | _ => exact g4.elim
  | _ => simp [okCode] at hok
 | _ => intro an ρ a w Q hok hr h; simp [okCode] at hok
end
noncomputable def retK (P : Program) (rs : List ResultVar) : List Value → Env → Heap → (Value → Heap → Prop) → Prop :=
 List.rec (motive := fun _ => List Value → Env → Heap → (Value → Heap → Prop) → Prop)
  (fun acc _ h R => R (match acc with | [v] => v | l => .tuple l.reverse.toArray) h)
  (fun r _ ih acc ρ h R => match r with
   | .tmp t => ih (ρ t :: acc) ρ h R
   | .cell a t => match tyAgg P t with
    | some false => vK (ldV h (ρ a)) fun v => ih (v :: acc) ρ h R
    | some true => match tySize P t with
     | some n => vK (ldsV n h (ρ a)) fun v => ih (v :: acc) ρ h R
     | none => False
    | none => False) rs
theorem retK_nil {P : Program} {acc : List Value} {ρ : Env} {h : Heap} {R : Value → Heap → Prop} : retK P [] acc ρ h R = R (match acc with | [v] => v | l => .tuple l.reverse.toArray) h := rfl
theorem retK_tmp {P : Program} {t : Tmp} {rs : List ResultVar} {acc : List Value} {ρ : Env} {h : Heap} {R : Value → Heap → Prop} : retK P (.tmp t :: rs) acc ρ h R = retK P rs (ρ t :: acc) ρ h R := rfl
theorem retK_cell {P : Program} {a : Tmp} {t : TypeId} {rs : List ResultVar} {acc : List Value} {ρ : Env} {h : Heap} {R : Value → Heap → Prop} : retK P (.cell a t :: rs) acc ρ h R = match tyAgg P t with
  | some false => vK (ldV h (ρ a)) fun v => retK P rs (v :: acc) ρ h R
  | some true => match tySize P t with
   | some n => vK (ldsV n h (ρ a)) fun v => retK P rs (v :: acc) ρ h R
   | none => False
  | none => False := rfl
def envOf (args : List Value) : Env := fun t => args.getD t undef
noncomputable def cFunc (P : Program) (c : Code) (an : Ann) (rs : List ResultVar) (args : List Value) (h : Heap) (R : Value → Heap → Prop) : Prop :=
 cCode P c an (envOf args) h fun e ρ h => match e with
  | .nx => retK P rs [] ρ h R
  | .rt => retK P rs [] ρ h R
  | .br _ => False
theorem run_results {P : Program} {w : World} {R : Value → Heap → Prop} {tmps : Array Value} : ∀ (rs : List ResultVar) (acc : List Value), retK P rs acc (fun t => tmps.getD t undef) w.heap R →
  ∃ l, (rs.mapM (fun | .tmp t => pure (tmps.getD t undef) | .cell a t => do loadVar t (← asAddr (tmps.getD a undef)) : ResultVar → Sem Value)).run P w = .ok l w ∧ R (match l.reverse ++ acc with | [v] => v | l => .tuple l.reverse.toArray) w.heap
 | [], acc, h => ⟨[], rfl, by rw [retK_nil] at h; simpa using h⟩
 | .tmp t :: rs, acc, h => by
  rw [retK_tmp] at h
  obtain ⟨l, h1, h2⟩ := run_results rs (tmps.getD t undef :: acc) h
  refine ⟨tmps.getD t undef :: l, ?_, by simpa using h2⟩
  simp only [List.mapM_cons, Sem.run_bind, Sem.run_pure, Result.andThen_ok, h1]
 | .cell a t :: rs, acc, h => by
  rw [retK_cell] at h
  cases hta : tyAgg P t with
  | none => simp [hta] at h
  | some b =>
   simp only [hta] at h
   have key : ∀ v, (∃ ad, tmps.getD a undef = .pointer (some ad) ∧ (loadVar t ad).run P w = .ok v w) → retK P rs (v :: acc) (fun t => tmps.getD t undef) w.heap R → ∃ l, ((ResultVar.cell a t :: rs).mapM (fun | .tmp t => pure (tmps.getD t undef) | .cell a t => do loadVar t (← asAddr (tmps.getD a undef)) : ResultVar → Sem Value)).run P w = .ok l w ∧ R (match l.reverse ++ acc with | [v] => v | l => .tuple l.reverse.toArray) w.heap := by
    intro v ⟨ad, hp, hl⟩ h
    obtain ⟨l, h1, h2⟩ := run_results rs (v :: acc) h
    refine ⟨v :: l, ?_, by simpa using h2⟩
    have has : (asAddr (tmps.getD a undef)).run P w = .ok ad w := by rw [hp]; rfl
    simp only [List.mapM_cons, Sem.run_bind, Sem.run_pure, Result.andThen_ok, has, hl, h1]
   cases b with
   | false =>
    simp only at h
    unfold vK at h
    split at h
    ·rename_i v hv
     refine key v ?_ h
     unfold ldV at hv
     split at hv
     ·rename_i ad hp
      exact ⟨ad, hp, run_loadVar_one hta hv⟩
     ·cases hv
    ·exact h.elim
   | true =>
    simp only at h
    cases hs : tySize P t with
    | none => simp [hs] at h
    | some n =>
     simp only [hs] at h
     unfold vK at h
     split at h
     ·rename_i v hv
      refine key v ?_ h
      unfold ldsV at hv
      split at hv
      ·rename_i ad hp
       cases hl : loadsOf w.heap ad 0 n with
       | none => simp [hl] at hv
       | some l =>
        simp only [hl, Option.map_some, Option.some.injEq] at hv
        subst hv
        exact ⟨ad, hp, run_loadVar_agg hta hs hl⟩
      ·cases hv
     ·exact h.elim
theorem results_of {P : Program} {ρ : Env} {w : World} {R : Value → Heap → Prop} {fn : Func} {tmps : Array Value} (ht : ∀ t, tmps.getD t undef = ρ t) (h : retK P fn.results.toList [] ρ w.heap R) :
  ∃ v, (results fn tmps).run P w = .ok v w ∧ R v w.heap := by
 obtain rfl : ρ = fun t => tmps.getD t undef := funext fun t => (ht t).symm
 obtain ⟨l, h1, h2⟩ := run_results _ [] h
 have e : (fn.results.mapM (fun | .tmp t => pure (tmps.getD t undef) | .cell a t => do loadVar t (← asAddr (tmps.getD a undef)) : ResultVar → Sem Value)).run P w = .ok l.toArray w := by
  rw [Array.mapM_eq_mapM_toList, Sem.run_map, h1]; rfl
 have hres : results fn tmps = (do
  let vs ← fn.results.mapM (fun | .tmp t => pure (tmps.getD t undef) | .cell a t => do loadVar t (← asAddr (tmps.getD a undef)) : ResultVar → Sem Value)
  pure (if h : vs.size = 1 then vs[0] else .tuple vs)) := rfl
 rw [hres]
 simp only [Sem.run_bind]
 rw [e]
 simp only [Result.andThen_ok, Sem.run_pure]
 refine ⟨_, rfl, ?_⟩
 cases l with
 | nil => simpa using h2
 | cons v l =>
  cases l with
  | nil => simpa using h2
  | cons u l =>
   have : ¬ ((v :: u :: l).toArray.size = 1) := by simp
   rw [dif_neg this]
   simp only [List.append_nil] at h2
   split at h2
   ·rename_i hh
    have := congrArg List.length hh
    simp at this
   ·simpa using h2
theorem fcall_of {P : Program} [FlatOk P] (hm : P.follows .mixedOrders = true) {f : FuncId} {fn : Func} {c : Code} {an : Ann} (hf : P.funcs[f]? = some fn) (hb : fn.body = some c) (hc : okCallee P f = true)
  (hok : okCode P fn.ntmps c an = true) {args : Array Value} (ha : Nat.ble args.size fn.ntmps = true) {h : Heap} {R : Value → Heap → Prop} (H : cFunc P c an fn.results.toList args.toList h R) : FCall P f args h R := by
 refine FCall.ofCalls hc fun w hw => ?_
 subst hw
 have ha' : args.size ≤ fn.ntmps := by simpa using ha
 have hr : Rel fn.ntmps { tmps := args ++ Array.replicate (fn.ntmps - args.size) undef, defers := [] } (envOf args.toList) := by
  refine ⟨by simp; omega, rfl, fun t => ?_⟩
  simp only [envOf, Array.getD_eq_getD_getElem?, List.getD_eq_getElem?_getD, Array.getElem?_append, Array.getElem?_toList]
  split
  ·rfl
  ·rw [Array.getElem?_replicate, Array.getElem?_eq_none (by omega)]
   split <;> rfl
 refine calls_of_wp hf hb (wp_mono (cCode_sound hm c an _ _ w _ hok hr H) ?_)
 intro e a' w' ⟨ρ2, g1, _, g3, g4⟩
 have fin : retK P fn.results.toList [] ρ2 w'.heap R → a'.defers = [] ∧ ∃ v, (results fn a'.tmps).run P w' = .ok v w' ∧ ∃ u, Ending.returned v = .returned u ∧ Same w w' ∧ R u w'.heap := by
  intro hret
  obtain ⟨v, h1, h2⟩ := results_of g1.2.2 hret
  exact ⟨g1.2.1, v, h1, v, rfl, g3, h2⟩
 cases e with
 | normal => exact fin g4
 | ret => exact fin g4
 | exit id => exact g4.elim
 | _ => exact g4.elim
def fkB (P : Program) (f : FuncId) (fn : Func) (an : Ann) (n : Nat) : Bool := P.follows .mixedOrders && (fn.body.isSome && (okCallee P f && (okCode P fn.ntmps (fn.body.getD .skip) an && Nat.ble n fn.ntmps)))
theorem fk {P : Program} [FlatOk P] (fn : Func) (an : Ann) {f : FuncId} {args : Array Value} {h : Heap} {R : Value → Heap → Prop} {X : Prop} (H : X)
  (hf : P.funcs[f]? = some fn := by kernel_rfl) (hb : fkB P f fn an args.size = true := by kernel_rfl) (e : X = cFunc P (fn.body.getD .skip) an fn.results.toList args.toList h R := by kernel_rfl) : FCall P f args h R := by
 unfold fkB at hb
 simp only [Bool.and_eq_true] at hb
 obtain ⟨h1, h2, h3, h4, h5⟩ := hb
 obtain ⟨c, hc⟩ := Option.isSome_iff_exists.1 h2
 rw [hc, Option.getD_some] at h4 e
 exact fcall_of h1 hf hc h3 h4 h5 (e.mp H)
end
end Go.Crisp
namespace Go.Proofs.YtolcfipmjhjeaaaDoor
open Go Go.Crisp
def ren_lay_Index : Go.Shelf.Ren := ⟨fun n => match n with | 143 => 52 | 217 => 74 | 219 => 64 | 224 => 76 | 225 => 75 | 266 => 85 | 267 => 77 | 314 => 86 | n => n, fun n => match n with | 3 => 3 | 4 => 4 | 5 => 5 | 9 => 9 | 46 => 109 | 51 => 120 | 146 => 132 | n => n, fun n => match n with | 1 => 5 | n => n⟩
theorem lay_Index : Go.Proofs.Lays.n143 Tryd.prog ren_lay_Index where
 mixed := by kernel_rfl
 f143 := by kernel_rfl
 f217 := by kernel_rfl
 f219 := by kernel_rfl
 f224 := by kernel_rfl
 f225 := by kernel_rfl
 f266 := by kernel_rfl
 f267 := by kernel_rfl
 f314 := by kernel_rfl
 t3 := by kernel_rfl
 a3 := fun w => run_isAgg' (by kernel_rfl)
 z3 := fun w => run_sizeOf' (by kernel_rfl)
 v3 := fun w => run_zeroValue' (by kernel_rfl)
 t4 := by kernel_rfl
 a4 := fun w => run_isAgg' (by kernel_rfl)
 z4 := fun w => run_sizeOf' (by kernel_rfl)
 v4 := fun w => run_zeroValue' (by kernel_rfl)
 t5 := by kernel_rfl
 a5 := fun w => run_isAgg' (by kernel_rfl)
 z5 := fun w => run_sizeOf' (by kernel_rfl)
 v5 := fun w => run_zeroValue' (by kernel_rfl)
 t9 := by kernel_rfl
 a9 := fun w => run_isAgg' (by kernel_rfl)
 z9 := fun w => run_sizeOf' (by kernel_rfl)
 v9 := fun w => run_zeroValue' (by kernel_rfl)
 t46 := by kernel_rfl
 a46 := fun w => run_isAgg' (by kernel_rfl)
 z46 := fun w => run_sizeOf' (by kernel_rfl)
 v46 := fun w => run_zeroValue' (by kernel_rfl)
 t51 := by kernel_rfl
 a51 := fun w => run_isAgg' (by kernel_rfl)
 z51 := fun w => run_sizeOf' (by kernel_rfl)
 v51 := fun w => run_zeroValue' (by kernel_rfl)
 t146 := by kernel_rfl
 a146 := fun w => run_isAgg' (by kernel_rfl)
 z146 := fun w => run_sizeOf' (by kernel_rfl)
 v146 := fun w => run_zeroValue' (by kernel_rfl)
 g1 := by kernel_rfl
def ren_lay_Cut : Go.Shelf.Ren := ⟨fun n => match n with | 145 => 38 | 217 => 74 | 219 => 64 | 220 => 54 | 224 => 76 | 225 => 75 | 266 => 85 | 267 => 77 | 314 => 86 | n => n, fun n => match n with | 3 => 3 | 4 => 4 | 5 => 5 | 9 => 9 | 46 => 109 | 51 => 120 | 59 => 54 | 146 => 132 | n => n, fun n => match n with | 1 => 5 | n => n⟩
theorem lay_Cut : Go.Proofs.Lays.n145 Tryd.prog ren_lay_Cut where
 mixed := by kernel_rfl
 f145 := by kernel_rfl
 f217 := by kernel_rfl
 f219 := by kernel_rfl
 f220 := by kernel_rfl
 f224 := by kernel_rfl
 f225 := by kernel_rfl
 f266 := by kernel_rfl
 f267 := by kernel_rfl
 f314 := by kernel_rfl
 t3 := by kernel_rfl
 a3 := fun w => run_isAgg' (by kernel_rfl)
 z3 := fun w => run_sizeOf' (by kernel_rfl)
 v3 := fun w => run_zeroValue' (by kernel_rfl)
 t4 := by kernel_rfl
 a4 := fun w => run_isAgg' (by kernel_rfl)
 z4 := fun w => run_sizeOf' (by kernel_rfl)
 v4 := fun w => run_zeroValue' (by kernel_rfl)
 t5 := by kernel_rfl
 a5 := fun w => run_isAgg' (by kernel_rfl)
 z5 := fun w => run_sizeOf' (by kernel_rfl)
 v5 := fun w => run_zeroValue' (by kernel_rfl)
 t9 := by kernel_rfl
 a9 := fun w => run_isAgg' (by kernel_rfl)
 z9 := fun w => run_sizeOf' (by kernel_rfl)
 v9 := fun w => run_zeroValue' (by kernel_rfl)
 t46 := by kernel_rfl
 a46 := fun w => run_isAgg' (by kernel_rfl)
 z46 := fun w => run_sizeOf' (by kernel_rfl)
 v46 := fun w => run_zeroValue' (by kernel_rfl)
 t51 := by kernel_rfl
 a51 := fun w => run_isAgg' (by kernel_rfl)
 z51 := fun w => run_sizeOf' (by kernel_rfl)
 v51 := fun w => run_zeroValue' (by kernel_rfl)
 t59 := by kernel_rfl
 a59 := fun w => run_isAgg' (by kernel_rfl)
 z59 := fun w => run_sizeOf' (by kernel_rfl)
 v59 := fun w => run_zeroValue' (by kernel_rfl)
 t146 := by kernel_rfl
 a146 := fun w => run_isAgg' (by kernel_rfl)
 z146 := fun w => run_sizeOf' (by kernel_rfl)
 v146 := fun w => run_zeroValue' (by kernel_rfl)
 g1 := by kernel_rfl
def ren_lay_ParseInt : Go.Shelf.Ren := ⟨fun n => match n with | 129 => 70 | 171 => 32 | 174 => 56 | 205 => 90 | 243 => 50 | 245 => 66 | 246 => 49 | 247 => 65 | 279 => 79 | 280 => 80 | 281 => 81 | 282 => 82 | 283 => 60 | 284 => 61 | 285 => 62 | 286 => 63 | 287 => 78 | 316 => 89 | 317 => 69 | 318 => 71 | 319 => 72 | 320 => 73 | 321 => 87 | 322 => 88 | 337 => 83 | 338 => 84 | n => n, fun n => match n with | 0 => 0 | 2 => 2 | 3 => 3 | 4 => 4 | 5 => 5 | 9 => 9 | 20 => 20 | 21 => 21 | 37 => 85 | 46 => 109 | 51 => 120 | 53 => 100 | 75 => 90 | 80 => 64 | 85 => 98 | 127 => 101 | 143 => 141 | 145 => 143 | 167 => 125 | 168 => 128 | 171 => 103 | 173 => 106 | 175 => 126 | 210 => 137 | 212 => 119 | 213 => 121 | 232 => 139 | 233 => 140 | n => n, fun n => match n with | 15 => 6 | 16 => 7 | 17 => 4 | 18 => 8 | 19 => 9 | n => n⟩
theorem lay_ParseInt : Go.Proofs.LaysC.n174 Tryd.prog ren_lay_ParseInt where
 mixed := by kernel_rfl
 f129 := by kernel_rfl
 f171 := by kernel_rfl
 f174 := by kernel_rfl
 f205 := by kernel_rfl
 f243 := by kernel_rfl
 f245 := by kernel_rfl
 f246 := by kernel_rfl
 f247 := by kernel_rfl
 f279 := by kernel_rfl
 f280 := by kernel_rfl
 f281 := by kernel_rfl
 f282 := by kernel_rfl
 f283 := by kernel_rfl
 f284 := by kernel_rfl
 f285 := by kernel_rfl
 f286 := by kernel_rfl
 f287 := by kernel_rfl
 f316 := by kernel_rfl
 f317 := by kernel_rfl
 f318 := by kernel_rfl
 f319 := by kernel_rfl
 f320 := by kernel_rfl
 f321 := by kernel_rfl
 f322 := by kernel_rfl
 f337 := by kernel_rfl
 f338 := by kernel_rfl
 t0 := by kernel_rfl
 a0 := fun w => run_isAgg' (by kernel_rfl)
 z0 := fun w => run_sizeOf' (by kernel_rfl)
 v0 := fun w => run_zeroValue' (by kernel_rfl)
 t2 := by kernel_rfl
 a2 := fun w => run_isAgg' (by kernel_rfl)
 z2 := fun w => run_sizeOf' (by kernel_rfl)
 v2 := fun w => run_zeroValue' (by kernel_rfl)
 t3 := by kernel_rfl
 a3 := fun w => run_isAgg' (by kernel_rfl)
 z3 := fun w => run_sizeOf' (by kernel_rfl)
 v3 := fun w => run_zeroValue' (by kernel_rfl)
 t4 := by kernel_rfl
 a4 := fun w => run_isAgg' (by kernel_rfl)
 z4 := fun w => run_sizeOf' (by kernel_rfl)
 v4 := fun w => run_zeroValue' (by kernel_rfl)
 t5 := by kernel_rfl
 a5 := fun w => run_isAgg' (by kernel_rfl)
 z5 := fun w => run_sizeOf' (by kernel_rfl)
 v5 := fun w => run_zeroValue' (by kernel_rfl)
 t9 := by kernel_rfl
 a9 := fun w => run_isAgg' (by kernel_rfl)
 z9 := fun w => run_sizeOf' (by kernel_rfl)
 v9 := fun w => run_zeroValue' (by kernel_rfl)
 t20 := by kernel_rfl
 a20 := fun w => run_isAgg' (by kernel_rfl)
 z20 := fun w => run_sizeOf' (by kernel_rfl)
 v20 := fun w => run_zeroValue' (by kernel_rfl)
 t21 := by kernel_rfl
 a21 := fun w => run_isAgg' (by kernel_rfl)
 z21 := fun w => run_sizeOf' (by kernel_rfl)
 v21 := fun w => run_zeroValue' (by kernel_rfl)
 t37 := by kernel_rfl
 a37 := fun w => run_isAgg' (by kernel_rfl)
 z37 := fun w => run_sizeOf' (by kernel_rfl)
 v37 := fun w => run_zeroValue' (by kernel_rfl)
 t46 := by kernel_rfl
 a46 := fun w => run_isAgg' (by kernel_rfl)
 z46 := fun w => run_sizeOf' (by kernel_rfl)
 v46 := fun w => run_zeroValue' (by kernel_rfl)
 t51 := by kernel_rfl
 a51 := fun w => run_isAgg' (by kernel_rfl)
 z51 := fun w => run_sizeOf' (by kernel_rfl)
 v51 := fun w => run_zeroValue' (by kernel_rfl)
 t53 := by kernel_rfl
 a53 := fun w => run_isAgg' (by kernel_rfl)
 z53 := fun w => run_sizeOf' (by kernel_rfl)
 v53 := fun w => run_zeroValue' (by kernel_rfl)
 t75 := by kernel_rfl
 a75 := fun w => run_isAgg' (by kernel_rfl)
 z75 := fun w => run_sizeOf' (by kernel_rfl)
 v75 := fun w => run_zeroValue' (by kernel_rfl)
 t85 := by kernel_rfl
 a85 := fun w => run_isAgg' (by kernel_rfl)
 z85 := fun w => run_sizeOf' (by kernel_rfl)
 v85 := fun w => run_zeroValue' (by kernel_rfl)
 t127 := by kernel_rfl
 a127 := fun w => run_isAgg' (by kernel_rfl)
 z127 := fun w => run_sizeOf' (by kernel_rfl)
 v127 := fun w => run_zeroValue' (by kernel_rfl)
 t143 := by kernel_rfl
 a143 := fun w => run_isAgg' (by kernel_rfl)
 z143 := fun w => run_sizeOf' (by kernel_rfl)
 v143 := fun w => run_zeroValue' (by kernel_rfl)
 t145 := by kernel_rfl
 a145 := fun w => run_isAgg' (by kernel_rfl)
 z145 := fun w => run_sizeOf' (by kernel_rfl)
 v145 := fun w => run_zeroValue' (by kernel_rfl)
 t167 := by kernel_rfl
 a167 := fun w => run_isAgg' (by kernel_rfl)
 z167 := fun w => run_sizeOf' (by kernel_rfl)
 v167 := fun w => run_zeroValue' (by kernel_rfl)
 t168 := by kernel_rfl
 a168 := fun w => run_isAgg' (by kernel_rfl)
 z168 := fun w => run_sizeOf' (by kernel_rfl)
 v168 := fun w => run_zeroValue' (by kernel_rfl)
 t171 := by kernel_rfl
 a171 := fun w => run_isAgg' (by kernel_rfl)
 z171 := fun w => run_sizeOf' (by kernel_rfl)
 v171 := fun w => run_zeroValue' (by kernel_rfl)
 t173 := by kernel_rfl
 a173 := fun w => run_isAgg' (by kernel_rfl)
 z173 := fun w => run_sizeOf' (by kernel_rfl)
 v173 := fun w => run_zeroValue' (by kernel_rfl)
 t175 := by kernel_rfl
 a175 := fun w => run_isAgg' (by kernel_rfl)
 z175 := fun w => run_sizeOf' (by kernel_rfl)
 v175 := fun w => run_zeroValue' (by kernel_rfl)
 t210 := by kernel_rfl
 a210 := fun w => run_isAgg' (by kernel_rfl)
 z210 := fun w => run_sizeOf' (by kernel_rfl)
 v210 := fun w => run_zeroValue' (by kernel_rfl)
 t212 := by kernel_rfl
 a212 := fun w => run_isAgg' (by kernel_rfl)
 z212 := fun w => run_sizeOf' (by kernel_rfl)
 v212 := fun w => run_zeroValue' (by kernel_rfl)
 t213 := by kernel_rfl
 a213 := fun w => run_isAgg' (by kernel_rfl)
 z213 := fun w => run_sizeOf' (by kernel_rfl)
 t232 := by kernel_rfl
 a232 := fun w => run_isAgg' (by kernel_rfl)
 z232 := fun w => run_sizeOf' (by kernel_rfl)
 v232 := fun w => run_zeroValue' (by kernel_rfl)
 t233 := by kernel_rfl
 a233 := fun w => run_isAgg' (by kernel_rfl)
 z233 := fun w => run_sizeOf' (by kernel_rfl)
 v233 := fun w => run_zeroValue' (by kernel_rfl)
 g15 := by kernel_rfl
 g16 := by kernel_rfl
 g17 := by kernel_rfl
 g18 := by kernel_rfl
 g19 := by kernel_rfl
 t80 := by kernel_rfl
 a80 := fun w => run_isAgg' (by kernel_rfl)
 z80 := fun w => run_sizeOf' (by kernel_rfl)
 v80 := fun w => run_zeroValue' (by kernel_rfl)
 i0 := by kernel_rfl
 i2 := by kernel_rfl
 i3 := by kernel_rfl
 i4 := by kernel_rfl
 i5 := by kernel_rfl
 i9 := by kernel_rfl
 i20 := by kernel_rfl
 i21 := by kernel_rfl
 i37 := by kernel_rfl
 i46 := by kernel_rfl
 i51 := by kernel_rfl
 i53 := by kernel_rfl
 i75 := by kernel_rfl
 i80 := by kernel_rfl
 i85 := by kernel_rfl
 i127 := by kernel_rfl
 i143 := by kernel_rfl
 i145 := by kernel_rfl
 i167 := by kernel_rfl
 i168 := by kernel_rfl
 i171 := by kernel_rfl
 i173 := by kernel_rfl
 i175 := by kernel_rfl
 i210 := by kernel_rfl
 i212 := by kernel_rfl
 i232 := by kernel_rfl
 i233 := by kernel_rfl
 m15 := by kernel_rfl
 m16 := by kernel_rfl
 m17 := by kernel_rfl
 m18 := by kernel_rfl
 m19 := by kernel_rfl
 c0 := by kernel_rfl
 c2 := by kernel_rfl
 c3 := by kernel_rfl
 c4 := by kernel_rfl
 c5 := by kernel_rfl
 c9 := by kernel_rfl
 c20 := by kernel_rfl
 c21 := by kernel_rfl
 c37 := by kernel_rfl
 c46 := by kernel_rfl
 c51 := by kernel_rfl
 c53 := by kernel_rfl
 c75 := by kernel_rfl
 c80 := by kernel_rfl
 c85 := by kernel_rfl
 c127 := by kernel_rfl
 c143 := by kernel_rfl
 c145 := by kernel_rfl
 c167 := by kernel_rfl
 c168 := by kernel_rfl
 c171 := by kernel_rfl
 c173 := by kernel_rfl
 c175 := by kernel_rfl
 c210 := by kernel_rfl
 c212 := by kernel_rfl
 c213 := by kernel_rfl
 c232 := by kernel_rfl
 c233 := by kernel_rfl
def ren_lay_Decode : Go.Shelf.Ren := ⟨fun n => match n with | 197 => 36 | 260 => 53 | n => n, fun n => match n with | 0 => 0 | 3 => 3 | 4 => 4 | 5 => 5 | 9 => 9 | 21 => 21 | 46 => 109 | 105 => 71 | 119 => 108 | 138 => 111 | 139 => 112 | n => n, fun n => match n with | 3 => 2 | 4 => 3 | n => n⟩
theorem lay_Decode : Go.Proofs.Lays.n197 Tryd.prog ren_lay_Decode where
 mixed := by kernel_rfl
 f197 := by kernel_rfl
 f260 := by kernel_rfl
 t0 := by kernel_rfl
 a0 := fun w => run_isAgg' (by kernel_rfl)
 z0 := fun w => run_sizeOf' (by kernel_rfl)
 v0 := fun w => run_zeroValue' (by kernel_rfl)
 t3 := by kernel_rfl
 a3 := fun w => run_isAgg' (by kernel_rfl)
 z3 := fun w => run_sizeOf' (by kernel_rfl)
 v3 := fun w => run_zeroValue' (by kernel_rfl)
 t4 := by kernel_rfl
 a4 := fun w => run_isAgg' (by kernel_rfl)
 z4 := fun w => run_sizeOf' (by kernel_rfl)
 v4 := fun w => run_zeroValue' (by kernel_rfl)
 t5 := by kernel_rfl
 a5 := fun w => run_isAgg' (by kernel_rfl)
 z5 := fun w => run_sizeOf' (by kernel_rfl)
 v5 := fun w => run_zeroValue' (by kernel_rfl)
 t9 := by kernel_rfl
 a9 := fun w => run_isAgg' (by kernel_rfl)
 z9 := fun w => run_sizeOf' (by kernel_rfl)
 v9 := fun w => run_zeroValue' (by kernel_rfl)
 t21 := by kernel_rfl
 a21 := fun w => run_isAgg' (by kernel_rfl)
 z21 := fun w => run_sizeOf' (by kernel_rfl)
 v21 := fun w => run_zeroValue' (by kernel_rfl)
 t46 := by kernel_rfl
 a46 := fun w => run_isAgg' (by kernel_rfl)
 z46 := fun w => run_sizeOf' (by kernel_rfl)
 v46 := fun w => run_zeroValue' (by kernel_rfl)
 t105 := by kernel_rfl
 a105 := fun w => run_isAgg' (by kernel_rfl)
 z105 := fun w => run_sizeOf' (by kernel_rfl)
 v105 := fun w => run_zeroValue' (by kernel_rfl)
 t119 := by kernel_rfl
 a119 := fun w => run_isAgg' (by kernel_rfl)
 z119 := fun w => run_sizeOf' (by kernel_rfl)
 t138 := by kernel_rfl
 a138 := fun w => run_isAgg' (by kernel_rfl)
 z138 := fun w => run_sizeOf' (by kernel_rfl)
 v138 := fun w => run_zeroValue' (by kernel_rfl)
 t139 := by kernel_rfl
 a139 := fun w => run_isAgg' (by kernel_rfl)
 z139 := fun w => run_sizeOf' (by kernel_rfl)
 v139 := fun w => run_zeroValue' (by kernel_rfl)
 g3 := by kernel_rfl
 g4 := by kernel_rfl
end Go.Proofs.YtolcfipmjhjeaaaDoor
namespace Go.Proofs.YtolcfipmjhjeaaaDoor
open Go Go.Crisp Go.RowKit Go.Shelf
attribute [local go_sem] Oper.semAt_some
def splitL (c : UInt8) : List UInt8 → List (List UInt8)
 | [] => [[]]
 | b :: r => if b = c then [] :: splitL c r else match splitL c r with
  | [] => [[b]]
  | h :: t => (b :: h) :: t
theorem splitL_cons (c b : UInt8) (r : List UInt8) : splitL c (b :: r) = if b = c then [] :: splitL c r else match splitL c r with
  | [] => [[b]]
  | h :: t => (b :: h) :: t := rfl
theorem splitL_none {c : UInt8} : ∀ {s : List UInt8}, (∀ k : Nat, s[k]? ≠ some c) → splitL c s = [s]
 | [], _ => rfl
 | b :: r, h => by
  have hb : b ≠ c := fun e => h 0 (by simp [e])
  rw [splitL_cons, if_neg hb, splitL_none fun k => by have := h (k + 1); simpa using this]
theorem splitL_some {c : UInt8} : ∀ {s : List UInt8} {i : Nat}, s[i]? = some c → (∀ k : Nat, k < i → s[k]? ≠ some c) → splitL c s = s.take i :: splitL c (s.drop (i + 1))
 | [], _, h, _ => by simp at h
 | b :: r, 0, h, _ => by
  have : b = c := by simpa using h
  rw [splitL_cons, if_pos this]; rfl
 | b :: r, i + 1, h, h' => by
  have hb : b ≠ c := fun e => h' 0 (by omega) (by simp [e])
  have := splitL_some (s := r) (i := i) (by simpa using h) fun k hk => by have := h' (k + 1) (by omega); simpa using this
  rw [splitL_cons, if_neg hb, this]; rfl
theorem Lib.indexByte_cases (s : List UInt8) (c : UInt8) : Lib.indexByte s c = -1 ∨ ∃ i : Nat, Lib.indexByte s c = i ∧ i < s.length := by
 have h := Lib.indexByte_ge s c
 by_cases h1 : Lib.indexByte s c = -1
 ·exact .inl h1
 ·refine .inr ⟨(Lib.indexByte s c).toNat, by omega, ?_⟩
  have := (Lib.indexByte_some (l := s) (c := c) (o := (Lib.indexByte s c).toNat) (by omega)).1
  obtain ⟨h, _⟩ := List.getElem?_eq_some_iff.1 this
  exact h
def leftS (b : Nat) (W : World) : Nat := match W.heap[b]? with
 | some (.cells cs _ _) => match cs[0]? with
  | some (Value.string s) => s.size
  | _ => 0
 | _ => 0
set_option maxRecDepth 100000 in
set_option maxHeartbeats 2000000 in
theorem split_calls (n : Nat) (hn : 1 ≤ n) (l b1 b2 b3 : Nat) (c : UInt8) (s0 : List UInt8) (t1 t2 t3 : TypeId) (J Jx : List (List UInt8) → World → Prop)
  (hJ : ∀ pre W v, J pre W → J pre (W.setCell ⟨b2, 0, none⟩ v)) (hD : ∀ pre W, J pre W → J pre W.drew)
  (hY : ∀ pre x W, (∃ post, splitL c s0 = pre ++ x :: post) → J pre W → YieldAt Fence.wide (n - 1) Tryd.prog l #[.string ⟨⟨x⟩⟩] W fun e W' => (e = .returned (.bool true) ∧ J (pre ++ [x]) W' ∧ ∀ b, b = b1 ∨ b = b2 ∨ b = b3 → W'.heap[b]? = W.heap[b]?) ∨ (e = .returned (.bool false) ∧ Jx (pre ++ [x]) W'))
  (ne : b1 ≠ b2 ∧ b3 ≠ b2) (hlen : s0.length ≤ 1000000) (W : World) (r1 : W.heap[b1]? = some (.cells #[.string ⟨#[c]⟩] t1 (0, 0))) (r2 : W.heap[b2]? = some (.cells #[.string ⟨⟨s0⟩⟩] t2 (0, 0))) (r3 : W.heap[b3]? = some (.cells #[.int .i64 0] t3 (0, 0))) (h0 : J [] W) :
  CallsIn Fence.wide n Tryd.prog 51 #[.func (.yield l) #[] #[], .pointer (some ⟨b1, 0, none⟩), .pointer (some ⟨b2, 0, none⟩), .pointer (some ⟨b3, 0, none⟩)] W fun e W' => (∃ v, e = .returned v) ∧ (J (splitL c s0) W' ∨ ∃ pre, Jx pre W') := by
 refine callsIn_of_wp Tryd.func51 rfl trivial ?_ rfl
 simp only [Tryd.ntmps51, List.size_toArray, List.length_cons, List.length_nil, Nat.reduceAdd, Nat.reduceSub, Array.replicate_succ, Array.replicate_zero, List.push_toArray, List.append_toArray, List.nil_append, List.cons_append]
 have c1 : W.cell? ⟨b1, 0, none⟩ = some (.string ⟨#[c]⟩) := by simp [World.cell?, r1]
 have c2 : W.cell? ⟨b2, 0, none⟩ = some (.string ⟨⟨s0⟩⟩) := by simp [World.cell?, r2]
 have c3 : W.cell? ⟨b3, 0, none⟩ = some (.int .i64 0) := by simp [World.cell?, r3]
 gi_wp2
 gi_loopw [] (fun wr => ∃ (pre : List (List UInt8)) (rest : List UInt8), splitL c s0 = pre ++ splitL c rest ∧ rest.length ≤ 1000000 ∧ J pre wr ∧ wr.heap[b1]? = some (.cells #[.string ⟨#[c]⟩] t1 (0, 0)) ∧ wr.heap[b2]? = some (.cells #[.string ⟨⟨rest⟩⟩] t2 (0, 0)) ∧ wr.heap[b3]? = some (.cells #[.int .i64 0] t3 (0, 0))) (fun wr => leftS b2 wr)
 case atStart => exact ⟨[], s0, rfl, hlen, h0, r1, r2, r3⟩
 case round =>
  clear c1 c2 c3 r1 r2 r3
  obtain ⟨pre, rest, hs, hlr, hj, r1, r2, r3⟩ := hrel
  have c1 : wr.cell? ⟨b1, 0, none⟩ = some (.string ⟨#[c]⟩) := by simp [World.cell?, r1]
  have c2 : wr.cell? ⟨b2, 0, none⟩ = some (.string ⟨⟨rest⟩⟩) := by simp [World.cell?, r2]
  have c3 : wr.cell? ⟨b3, 0, none⟩ = some (.int .i64 0) := by simp [World.cell?, r3]
  have h52 : Fence.wide.fn 52 := trivial
  rcases Lib.indexByte_cases rest c with hix | ⟨i, hix, hi⟩
  ·have hnone := Lib.indexByte_none hix
   obtain ⟨fn, tmps, assign, body, hy, hR⟩ := hY pre rest wr ⟨[], by rw [hs, splitL_none hnone]⟩ hj
   gi_wp2_with (gi_at_call 52; refine (callsIn_wide.2 (Any.strings_Index_one lay_Index ⟨⟨rest⟩⟩ c wr)).mono ?_; rintro e w' ⟨rfl, rfl⟩; rw [show (⟨⟨rest⟩⟩ : ByteArray).data.toList = rest from rfl, hix])
   refine hR.mono ?_
   rintro e W3 (⟨rfl, hJ3, _⟩ | ⟨rfl, hx3⟩)
   ·gi_wp2
    go_end0
    exact ⟨⟨_, rfl⟩, .inl (by rw [hs, splitL_none hnone]; exact hJ3)⟩
   ·gi_wp2
    go_end0
    exact ⟨⟨_, rfl⟩, .inr ⟨_, hx3⟩⟩
  ·obtain ⟨hi1, hi2⟩ := Lib.indexByte_some hix
   have ex : (⟨⟨rest⟩⟩ : ByteArray).extract 0 i = ⟨⟨rest.take i⟩⟩ := by
    apply ByteArray.ext
    rw [ByteArray.data_extract]
    apply Array.ext'
    rw [Array.toList_extract]
    simp
   have ex2 : (⟨⟨rest⟩⟩ : ByteArray).extract (i + 1) rest.length = ⟨⟨rest.drop (i + 1)⟩⟩ := by
    apply ByteArray.ext
    rw [ByteArray.data_extract]
    apply Array.ext'
    rw [Array.toList_extract]
    show (List.drop (i + 1) rest).take (rest.length - (i + 1)) = List.drop (i + 1) rest
    exact List.take_of_length_le (by simp)
   have hw : wrap64 (i : Int) = i := by unfold wrap64; omega
   have hw1 : wrap64 ((i : Int) + 1) = ((i + 1 : Nat) : Int) := by unfold wrap64; omega
   have c4 : (0 : Int) ≤ (i : Int) := by omega
   have c5 : (i : Int) ≤ rest.length := by omega
   have c6 : (0 : Int) ≤ ((i + 1 : Nat) : Int) := by omega
   have c7 : ((i + 1 : Nat) : Int) ≤ rest.length := by omega
   have c8 : ¬ (i : Int) < 0 := by omega
   obtain ⟨fn, tmps, assign, body, hy, hR⟩ := hY pre (rest.take i) wr ⟨_, by rw [hs, splitL_some hi1 hi2]⟩ hj
   gi_wp2_with (gi_at_call 52; refine (callsIn_wide.2 (Any.strings_Index_one lay_Index ⟨⟨rest⟩⟩ c wr)).mono ?_; rintro e w' ⟨rfl, rfl⟩; rw [show (⟨⟨rest⟩⟩ : ByteArray).data.toList = rest from rfl, hix])
   refine hR.mono ?_
   rintro e W3 (⟨rfl, hJ3, hb⟩ | ⟨rfl, hx3⟩)
   ·have q1 : W3.heap[b1]? = some (.cells #[.string ⟨#[c]⟩] t1 (0, 0)) := (hb b1 (.inl rfl)).trans r1
    have q2 : W3.heap[b2]? = some (.cells #[.string ⟨⟨rest⟩⟩] t2 (0, 0)) := (hb b2 (.inr (.inl rfl))).trans r2
    have q3 : W3.heap[b3]? = some (.cells #[.int .i64 0] t3 (0, 0)) := (hb b3 (.inr (.inr rfl))).trans r3
    have d1 : W3.cell? ⟨b1, 0, none⟩ = some (.string ⟨#[c]⟩) := by simp [World.cell?, q1]
    have d2 : W3.cell? ⟨b2, 0, none⟩ = some (.string ⟨⟨rest⟩⟩) := by simp [World.cell?, q2]
    have f2 : W3.frozen? ⟨b2, 0, none⟩ = false := by simp [World.frozen?, q2]
    gi_wp2
    have S2 := Boxed.set (.string ⟨⟨rest.drop (i + 1)⟩⟩) (show Boxed W3 b2 t2 _ from q2)
    have S2 : (W3.setCell ⟨b2, 0, none⟩ (.string ⟨⟨rest.drop (i + 1)⟩⟩)).heap[b2]? = some (.cells #[.string ⟨⟨rest.drop (i + 1)⟩⟩] t2 (0, 0)) := S2
    refine ⟨⟨pre ++ [rest.take i], rest.drop (i + 1), ?_, ?_, hJ _ _ _ hJ3, ?_, S2, ?_⟩, ?_⟩
    ·rw [hs, splitL_some hi1 hi2]; simp
    ·rw [List.length_drop]; omega
    ·rw [Below.heap_setCell _ _ _ b1 ne.1]; exact q1
    ·rw [Below.heap_setCell _ _ _ b3 ne.2]; exact q3
    ·unfold leftS
     rw [S2, r2]
     show (rest.drop (i + 1)).length < rest.length
     rw [List.length_drop]; omega
   ·gi_wp2
    refine bodyPost_ret (results_none rfl _ _ _) rfl ?_
    exact ⟨⟨_, rfl⟩, .inr ⟨_, hx3⟩⟩
end Go.Proofs.YtolcfipmjhjeaaaDoor
namespace Go.Crisp
open Go
theorem vK_some (v : Value) (K : Value → Prop) : vK (some v) K = K v := Eq.trans rfl rfl
theorem iteK_true (x y : Prop) : iteK (.bool true) x y = x := Eq.trans rfl rfl
theorem iteK_false (x y : Prop) : iteK (.bool false) x y = y := Eq.trans rfl rfl
theorem iteK_split {b : Bool} {x y : Prop} (h1 : b = true → x) (h2 : b = false → y) : iteK (.bool b) x y := by
 cases b
 ·exact h2 rfl
 ·exact h1 rfl
theorem iteK_dec {p : Prop} [Decidable p] {x y : Prop} (h1 : p → x) (h2 : ¬ p → y) : iteK (.bool (decide p)) x y :=
 iteK_split (fun h => h1 (of_decide_eq_true h)) (fun h => h2 (of_decide_eq_false h))
theorem gV_true (r : Option Value) : gV (.bool true) true r = r := Eq.trans rfl rfl
theorem gV_false (r : Option Value) : gV (.bool false) false r = r := Eq.trans rfl rfl
theorem gV_tf (r : Option Value) : gV (.bool true) false r = some undef := Eq.trans rfl rfl
theorem gV_ft (r : Option Value) : gV (.bool false) true r = some undef := Eq.trans rfl rfl
theorem gV_und (w : Bool) (r : Option Value) : gV undef w r = some undef := Eq.trans rfl rfl
theorem gK_true (m : (Value → Heap → Prop) → Prop) (h : Heap) (K : Value → Heap → Prop) : gK (.bool true) true m h K = m K := Eq.trans rfl rfl
theorem gK_false (m : (Value → Heap → Prop) → Prop) (h : Heap) (K : Value → Heap → Prop) : gK (.bool false) false m h K = m K := Eq.trans rfl rfl
theorem gK_tf (m : (Value → Heap → Prop) → Prop) (h : Heap) (K : Value → Heap → Prop) : gK (.bool true) false m h K = K undef h := Eq.trans rfl rfl
theorem gK_ft (m : (Value → Heap → Prop) → Prop) (h : Heap) (K : Value → Heap → Prop) : gK (.bool false) true m h K = K undef h := Eq.trans rfl rfl
theorem gK_und (w : Bool) (m : (Value → Heap → Prop) → Prop) (h : Heap) (K : Value → Heap → Prop) : gK undef w m h K = K undef h := Eq.trans rfl rfl
theorem pickV_true (x y : Value) : pickV (.bool true) x y = some x := Eq.trans rfl rfl
theorem pickV_false (x y : Value) : pickV (.bool false) x y = some y := Eq.trans rfl rfl
theorem ix_0 (a : Value) (l : List Value) : ix (a :: l) 0 = a := Eq.trans rfl rfl
theorem ix_1 (a b : Value) (l : List Value) : ix (a :: b :: l) 1 = b := Eq.trans rfl rfl
theorem ix_2 (a b c : Value) (l : List Value) : ix (a :: b :: c :: l) 2 = c := Eq.trans rfl rfl
theorem ix_3 (a b c d : Value) (l : List Value) : ix (a :: b :: c :: d :: l) 3 = d := Eq.trans rfl rfl
theorem ix_4 (a b c d e : Value) (l : List Value) : ix (a :: b :: c :: d :: e :: l) 4 = e := Eq.trans rfl rfl
theorem ix_5 (a b c d e f : Value) (l : List Value) : ix (a :: b :: c :: d :: e :: f :: l) 5 = f := Eq.trans rfl rfl
theorem binV_add (e : EK) (k : IntKind) (a b : Int) : binV e .add (.int k a) (.int k b) = some (.int k (k.wrap (a + b))) := by simp [binV, intV]
theorem binV_sub (e : EK) (k : IntKind) (a b : Int) : binV e .sub (.int k a) (.int k b) = some (.int k (k.wrap (a - b))) := by simp [binV, intV]
theorem binV_mul (e : EK) (k : IntKind) (a b : Int) : binV e .mul (.int k a) (.int k b) = some (.int k (k.wrap (a * b))) := by simp [binV, intV]
theorem binV_quo (e : EK) (k : IntKind) (a b : Int) (h : b ≠ 0) : binV e .quo (.int k a) (.int k b) = some (.int k (k.wrap (a.tdiv b))) := by simp [binV, intV, h]
theorem binV_rem (e : EK) (k : IntKind) (a b : Int) (h : b ≠ 0) : binV e .rem (.int k a) (.int k b) = some (.int k (a.tmod b)) := by simp [binV, intV, h]
theorem binV_lss (e : EK) (k : IntKind) (a b : Int) : binV e .lss (.int k a) (.int k b) = some (.bool (decide (a < b))) := by simp [binV, intV]
theorem binV_leq (e : EK) (k : IntKind) (a b : Int) : binV e .leq (.int k a) (.int k b) = some (.bool (decide (a ≤ b))) := by simp [binV, intV]
theorem binV_gtr (e : EK) (k : IntKind) (a b : Int) : binV e .gtr (.int k a) (.int k b) = some (.bool (decide (b < a))) := by simp [binV, intV]
theorem binV_geq (e : EK) (k : IntKind) (a b : Int) : binV e .geq (.int k a) (.int k b) = some (.bool (decide (b ≤ a))) := by simp [binV, intV]
theorem binV_eql (e : EK) (k : IntKind) (a b : Int) : binV e .eql (.int k a) (.int k b) = some (.bool (decide (a = b))) := by
 simp [binV, intV]; rw [Bool.eq_iff_iff]; simp
theorem binV_neq (e : EK) (k : IntKind) (a b : Int) : binV e .neq (.int k a) (.int k b) = some (.bool (!decide (a = b))) := by
 simp [binV, intV]; rw [Bool.eq_iff_iff]; simp
theorem binV_beq (a b : Bool) : binV .b .eql (.bool a) (.bool b) = some (.bool (a == b)) := Eq.trans rfl rfl
theorem binV_bne (a b : Bool) : binV .b .neq (.bool a) (.bool b) = some (.bool !(a == b)) := Eq.trans rfl rfl
theorem unV_not (b : Bool) : unV .not (.bool b) = some (.bool !b) := Eq.trans rfl rfl
theorem unV_neg (k : IntKind) (a : Int) : unV .neg (.int k a) = some (.int k (k.wrap (0 - a))) := Eq.trans rfl rfl
theorem cviV_int (k k' : IntKind) (a : Int) : cviV k (.int k' a) = some (.int k (k.wrap a)) := Eq.trans rfl rfl
theorem maxV_int (k : IntKind) (a b : Int) : maxV (.int k a) (.int k b) = some (.int k (max a b)) := by
 simp only [maxV, Option.some.injEq, Value.int.injEq, true_and]; split <;> omega
theorem minV_int (k : IntKind) (a b : Int) : minV (.int k a) (.int k b) = some (.int k (min a b)) := by
 simp only [minV, Option.some.injEq, Value.int.injEq, true_and]; split <;> omega
theorem w64 {n : Int} (h1 : -9223372036854775808 ≤ n) (h2 : n ≤ 9223372036854775807) : IntKind.i64.wrap n = n := by
 show (if (true && decide (n % (2 ^ 64 : Int) ≥ (2 ^ 63 : Int))) = true then n % (2 ^ 64 : Int) - (2 ^ 64 : Int) else n % (2 ^ 64 : Int)) = n
 split
 ·rename_i hh
  simp only [Bool.true_and, decide_eq_true_eq] at hh
  omega
 ·rename_i hh
  simp only [Bool.true_and, decide_eq_true_eq] at hh
  omega
theorem wu8 {n : Int} (h1 : 0 ≤ n) (h2 : n ≤ 255) : IntKind.u8.wrap n = n := by
 simp only [IntKind.wrap, IntKind.bits, IntKind.signed]
 simp; omega
theorem wu64 {n : Int} (h1 : 0 ≤ n) (h2 : n ≤ 18446744073709551615) : IntKind.u64.wrap n = n := by
 simp only [IntKind.wrap, IntKind.bits, IntKind.signed]
 simp; omega
theorem lenslV_sl (a : Option Addr) (n c : Nat) : lenslV (.slice a n c) = some (.int .i64 n) := Eq.trans rfl rfl
theorem lenstV_st (s : ByteArray) : lenstV (.string s) = some (.int .i64 s.size) := Eq.trans rfl rfl
theorem extV_0 (a : Value) (l : List Value) : extV (.tuple ⟨a :: l⟩) 0 = some a := Eq.trans rfl rfl
theorem extV_1 (a b : Value) (l : List Value) : extV (.tuple ⟨a :: b :: l⟩) 1 = some b := Eq.trans rfl rfl
theorem extV_2 (a b c : Value) (l : List Value) : extV (.tuple ⟨a :: b :: c :: l⟩) 2 = some c := Eq.trans rfl rfl
theorem extV_3 (a b c d : Value) (l : List Value) : extV (.tuple ⟨a :: b :: c :: d :: l⟩) 3 = some d := Eq.trans rfl rfl
theorem nilV_ptr (a : Addr) : nilV (.pointer (some a)) = some (.pointer (some a)) := Eq.trans rfl rfl
theorem fldV_0 (b o : Nat) : fldV 0 (.pointer (some ⟨b, o, none⟩)) = some (.pointer (some ⟨b, o, none⟩)) := Eq.trans rfl rfl
theorem add_lit (b o n : Nat) : (⟨b, o, none⟩ : Addr).add n = ⟨b, o + n, none⟩ := by
 unfold Addr.add; split <;> simp_all
theorem fldV_ptr (n b o : Nat) : fldV n (.pointer (some ⟨b, o, none⟩)) = some (.pointer (some ⟨b, o + n, none⟩)) := by
 show some (Value.pointer (some ((⟨b, o, none⟩ : Addr).add n))) = _
 rw [add_lit]
theorem ldV_ptr (h : Heap) (a : Addr) : ldV h (.pointer (some a)) = cellOf h a := Eq.trans rfl rfl
theorem idxV_nat {s b o len cap : Nat} {k : IntKind} {i : Nat} (hi : i < len) : idxV s (.slice (some ⟨b, o, none⟩) len cap) (.int k (i : Int)) = some (.pointer (some ⟨b, o + i * s, none⟩)) := by
 show (if 0 ≤ (i : Int) ∧ (i : Int) < (len : Int) then some (Value.pointer (some ((⟨b, o, none⟩ : Addr).add ((i : Int).toNat * s)))) else none) = _
 rw [if_pos (by omega), add_lit, Int.toNat_natCast]
theorem cell_row {h : Heap} {b o : Nat} {c : Array Value} {t : TypeId} {f : Nat × Nat} (hb : h[b]? = some (.cells c t f)) : cellOf h ⟨b, o, none⟩ = c[o]? := by
 unfold cellOf; simp [hb]
theorem push_old {h : Heap} {o : Obj} {b : Nat} (hb : b < h.size) : (h.push o)[b]? = h[b]? := by
 rw [Array.getElem?_push, if_neg (by omega)]
theorem push_new {h : Heap} {o : Obj} : (h.push o)[h.size]? = some o := by simp
def Ext (h h' : Heap) : Prop := h.size ≤ h'.size ∧ ∀ b, b < h.size → h'[b]? = h[b]?
theorem Ext.refl (h : Heap) : Ext h h := ⟨Nat.le_refl _, fun _ _ => rfl⟩
theorem Ext.trans {a b c : Heap} (h : Ext a b) (k : Ext b c) : Ext a c := ⟨Nat.le_trans h.1 k.1, fun i hi => (k.2 i (Nat.lt_of_lt_of_le hi h.1)).trans (h.2 i hi)⟩
theorem Ext.push (h : Heap) (o : Obj) : Ext h (h.push o) := ⟨by simp, fun b hb => push_old hb⟩
theorem Ext.cell {h h' : Heap} (e : Ext h h') {a : Addr} {v : Value} (hc : cellOf h a = some v) : cellOf h' a = some v := by
 unfold cellOf at *
 rcases Nat.lt_or_ge a.block h.size with hb | hb
 ·rw [e.2 _ hb]; exact hc
 ·rw [Array.getElem?_eq_none hb] at hc; cases hc
theorem vK_congr {r r' : Option Value} {K : Value → Prop} (h : r = r') : vK r K = vK r' K := by rw [h]
theorem iteK_congr {c c' : Value} {x y : Prop} (h : c = c') : iteK c x y = iteK c' x y := by rw [h]
theorem FCall_congr {P : Program} {f : FuncId} {args args' : Array Value} {h h' : Heap} {K : Value → Heap → Prop} (ha : args = args') (hh : h = h') : FCall P f args h K = FCall P f args' h' K := by rw [ha, hh]
theorem loopK_congr {a a' : List Value} {h h' : Heap} {body : List Value → Env → Heap → (List Value → Heap → Prop) → Prop} (ha : a = a') (hh : h = h') : loopK a h body = loopK a' h' body := by rw [ha, hh]
theorem gK_congr {g g' : Value} {w : Bool} {m : (Value → Heap → Prop) → Prop} {h : Heap} {K : Value → Heap → Prop} (hg : g = g') : gK g w m h K = gK g' w m h K := by rw [hg]
theorem newK_congr {c c' : Array Value} {t : TypeId} {h : Heap} {K : Value → Heap → Prop} (hc : c = c') : newK c t h K = newK c' t h K := by rw [hc]
theorem stK_congr {n : Nat} {x x' v v' : Value} {h : Heap} {K : Value → Heap → Prop} (hx : x = x') (hv : v = v') : stK n x v h K = stK n x' v' h K := by rw [hx, hv]
theorem rowK_congr {c : Array Value} {e : TypeId} {n : Nat} {l l' : List (Nat × Nat × Value)} {h : Heap} {K : Value → Heap → Prop} (hl : l = l') : rowK c e n l h K = rowK c e n l' h K := by rw [hl]
theorem mkK_congr {z : Value} {e : TypeId} {s b : Nat} {l l' c c' : Value} {h : Heap} {K : Value → Heap → Prop} (hl : l = l') (hc : c = c') : mkK z e s b l c h K = mkK z e s b l' c' h K := by rw [hl, hc]
theorem appK_congr {z : Value} {e : TypeId} {s b : Nat} {l l' c c' : Value} {h : Heap} {K : Value → Heap → Prop} (hl : l = l') (hc : c = c') : appK z e s b l c h K = appK z e s b l' c' h K := by rw [hl, hc]
theorem cpyK_congr {s : Nat} {l l' c c' : Value} {h : Heap} {K : Value → Heap → Prop} (hl : l = l') (hc : c = c') : cpyK s l c h K = cpyK s l' c' h K := by rw [hl, hc]
theorem drawK_congr {h h' : Heap} {b : (Heap → Prop) → Prop} (hh : h = h') : drawK h b = drawK h' b := by rw [hh]
theorem qK_congr {S : Heap → Prop} {r r' : Heap → Option Value} {K : Value → Prop} (hr : r = r') : qK S r K = qK S r' K := by rw [hr]
theorem mapPutK_congr {d : TypeDesc} {m m' k k' v v' : Value} {h : Heap} {K : Value → Heap → Prop} (h1 : m = m') (h2 : k = k') (h3 : v = v') : mapPutK d m k v h K = mapPutK d m' k' v' h K := by rw [h1, h2, h3]
theorem mapDelK_congr {d : TypeDesc} {m m' k k' : Value} {h : Heap} {K : Value → Heap → Prop} (h1 : m = m') (h2 : k = k') : mapDelK d m k h K = mapDelK d m' k' h K := by rw [h1, h2]
attribute [congr] vK_congr iteK_congr FCall_congr loopK_congr gK_congr newK_congr stK_congr rowK_congr mkK_congr appK_congr cpyK_congr drawK_congr qK_congr mapPutK_congr mapDelK_congr
theorem newK_use {c : Array Value} {t : TypeId} {h : Heap} {K : Value → Heap → Prop} (H : ∀ b h', h'[b]? = some (.cells c t (0, 0)) → Ext h h' → h.size ≤ b → K (.pointer (some ⟨b, 0, none⟩)) h') : newK c t h K :=
 H h.size (h.push (.cells c t)) push_new (Ext.push h _) (Nat.le_refl _)
theorem Ext.row {h h' : Heap} (e : Ext h h') {b : Nat} {o : Obj} (hb : h[b]? = some o) : h'[b]? = some o := by
 rw [e.2 b (Array.getElem?_eq_some_iff.1 hb).1]; exact hb
theorem cells_agg (c : Array Value) : Value.cells (.agg c) = c := Eq.trans rfl rfl
theorem loads_cons (h : Heap) (b o i n : Nat) : loadsOf h ⟨b, o, none⟩ i (n + 1) = match cellOf h ⟨b, o + i, none⟩ with
  | some v => match loadsOf h ⟨b, o, none⟩ (i + 1) n with
   | some l => some (v :: l)
   | none => none
  | none => none := by
 have e : loadsOf h ⟨b, o, none⟩ i (n + 1) = match cellOf h ((⟨b, o, none⟩ : Addr).add i) with
  | some v => match loadsOf h ⟨b, o, none⟩ (i + 1) n with
   | some l => some (v :: l)
   | none => none
  | none => none := rfl
 rw [e, add_lit]
theorem loads_zero (h : Heap) (a : Addr) (i : Nat) : loadsOf h a i 0 = some [] := Eq.trans rfl rfl
theorem ldsV_ptr (n : Nat) (h : Heap) (a : Addr) : ldsV n h (.pointer (some a)) = (loadsOf h a 0 n).map fun l => .agg l.toArray := Eq.trans rfl rfl
theorem loads_row {h : Heap} {b o : Nat} : ∀ (l : List Value) (i : Nat), (∀ j (hj : j < l.length), cellOf h ⟨b, o + i + j, none⟩ = some l[j]) → loadsOf h ⟨b, o, none⟩ i l.length = some l
 | [], _, _ => rfl
 | v :: l, i, H => by
  rw [List.length_cons, loads_cons]
  have h0 := H 0 (by simp)
  simp only [Nat.add_zero, List.getElem_cons_zero] at h0
  rw [h0]
  have := loads_row l (i + 1) fun j hj => by
   have := H (j + 1) (by simpa using hj)
   simpa [Nat.add_assoc, Nat.add_comm 1 j] using this
  simp only [this]
theorem ldsV_row {h : Heap} {b o : Nat} (l : List Value) (n : Nat) (hn : l.length = n) (H : ∀ j (hj : j < l.length), cellOf h ⟨b, o + j, none⟩ = some l[j]) : ldsV n h (.pointer (some ⟨b, o, none⟩)) = some (.agg l.toArray) := by
 subst hn
 rw [ldsV_ptr, loads_row l 0 (by simpa using H)]
 rfl
theorem lds_row {h : Heap} {b : Nat} {l : List Value} {t : TypeId} {f : Nat × Nat} (hb : h[b]? = some (.cells l.toArray t f)) (n : Nat) (hn : l.length = n) : ldsV n h (.pointer (some ⟨b, 0, none⟩)) = some (.agg l.toArray) :=
 ldsV_row l n hn fun j hj => by rw [Nat.zero_add, cell_row hb]; simp
theorem Ext.loads {h h' : Heap} (e : Ext h h') {a : Addr} : ∀ {n i : Nat} {l : List Value}, loadsOf h a i n = some l → loadsOf h' a i n = some l
 | 0, _, _, H => H
 | n + 1, i, l, H => by
  unfold loadsOf at H ⊢
  cases hc : cellOf h (a.add i) with
  | none => simp [hc] at H
  | some v =>
   simp only [hc] at H
   rw [e.cell hc]
   cases hl : loadsOf h a (i + 1) n with
   | none => simp [hl] at H
   | some l' =>
    simp only [hl] at H
    simp only [e.loads hl]
    exact H
theorem Ext.lds {h h' : Heap} (e : Ext h h') {n : Nat} {x v : Value} (H : ldsV n h x = some v) : ldsV n h' x = some v := by
 unfold ldsV at *
 split at H
 ·rename_i a
  cases hl : loadsOf h a 0 n with
  | none => simp [hl] at H
  | some l =>
   simp only [hl] at H
   simp only [e.loads hl]
   exact H
 ·cases H
theorem setObj_get (h : Heap) (b k : Nat) (o : Obj) : (setObjH h b o)[k]? = if k = b then (if b < h.size then some o else none) else h[k]? := by
 unfold setObjH
 rw [Array.getElem?_setIfInBounds]
 by_cases hk : k = b
 ·subst hk; simp
 ·rw [if_neg (Ne.symm hk), if_neg hk]
theorem setObj_size (h : Heap) (b : Nat) (o : Obj) : (setObjH h b o).size = h.size := by simp [setObjH]
theorem setObj_push (h : Heap) (x y : Obj) : setObjH (h.push x) h.size y = h.push y := by
 unfold setObjH
 apply Array.ext'
 simp
theorem setCell_row {h : Heap} {b o : Nat} {cur : Array Value} {t : TypeId} {f : Nat × Nat} {v : Value} (hb : h[b]? = some (.cells cur t f)) : setCellH h ⟨b, o, none⟩ v = setObjH h b (.cells (cur.setIfInBounds o v) t f) := by
 have hlt : b < h.size := (Array.getElem?_eq_some_iff.1 hb).1
 unfold setCellH
 apply Array.ext
 ·simp [setObj_size]
 ·intro i h1 h2
  apply Option.some.inj
  rw [← Array.getElem?_eq_getElem, ← Array.getElem?_eq_getElem, setObj_get, Array.getElem?_modify]
  by_cases hi : i = b
  ·subst hi
   have e : h[i] = .cells cur t f := by rw [Array.getElem?_eq_getElem hlt] at hb; exact Option.some.inj hb
   simp [hlt, e]
  ·rw [if_neg (Ne.symm hi), if_neg hi]
def wrL (cur : Array Value) : Nat → List Value → Array Value
 | _, [] => cur
 | o, v :: l => wrL (cur.setIfInBounds o v) (o + 1) l
theorem wrL_size : ∀ (l : List Value) (cur : Array Value) (o : Nat), (wrL cur o l).size = cur.size
 | [], _, _ => rfl
 | v :: l, cur, o => by simp [wrL, wrL_size l]
theorem wrL_get : ∀ (l : List Value) (cur : Array Value) (o k : Nat), o + l.length ≤ cur.size → (wrL cur o l)[k]? = if o ≤ k ∧ k < o + l.length then l[k - o]? else cur[k]?
 | [], cur, o, k, _ => by simp only [wrL, List.length_nil]; rw [if_neg (by omega)]
 | v :: l, cur, o, k, h => by
  simp only [List.length_cons] at h
  simp only [wrL]
  rw [wrL_get l _ (o + 1) k (by simp; omega)]
  by_cases hk : k = o
  ·subst hk
   rw [if_neg (by omega), if_pos (by simp)]
   rw [Array.getElem?_setIfInBounds]
   simp; omega
  ·by_cases h2 : o + 1 ≤ k ∧ k < o + 1 + l.length
   ·rw [if_pos h2, if_pos (by simp only [List.length_cons]; omega)]
    rw [show k - o = (k - (o + 1)) + 1 from by omega]
    simp
   ·rw [if_neg h2, if_neg (by simp only [List.length_cons]; omega)]
    rw [Array.getElem?_setIfInBounds_ne (Ne.symm hk)]
theorem wrL_all (l : List Value) (cur : Array Value) (h : l.length = cur.size) : wrL cur 0 l = l.toArray := by
 apply Array.ext
 ·simp [wrL_size, h]
 ·intro i h1 h2
  apply Option.some.inj
  rw [← Array.getElem?_eq_getElem, ← Array.getElem?_eq_getElem, wrL_get l cur 0 i (by omega)]
  simp only [wrL_size] at h1
  rw [if_pos (by omega)]
  simp
theorem stores_row {t : TypeId} {b o : Nat} : ∀ (l : List Value) (i : Nat) (h : Heap) (cur : Array Value), h[b]? = some (.cells cur t (0, 0)) → o + i + l.length ≤ cur.size → (∀ v ∈ l, oneCell v = true) →
  storesOf h ⟨b, o, none⟩ i l = some (setObjH h b (.cells (wrL cur (o + i) l) t (0, 0)))
 | [], i, h, cur, hb, _, _ => by
  simp only [storesOf, wrL, Option.some.injEq]
  have hlt : b < h.size := (Array.getElem?_eq_some_iff.1 hb).1
  apply Array.ext
  ·simp [setObj_size]
  ·intro k h1 h2
   apply Option.some.inj
   rw [← Array.getElem?_eq_getElem, ← Array.getElem?_eq_getElem, setObj_get]
   split
   ·rename_i hk; subst hk; first | rw [if_pos hlt, hb] | exact hb
   ·rfl
 | v :: l, i, h, cur, hb, hs, h1 => by
  simp only [List.length_cons] at hs
  have hlt : b < h.size := (Array.getElem?_eq_some_iff.1 hb).1
  have hc : cellOf h ⟨b, o + i, none⟩ = some cur[o + i] := by rw [cell_row hb, Array.getElem?_eq_getElem (by omega)]
  have hf : frozenOf h ⟨b, o + i, none⟩ = false := by unfold frozenOf; simp [hb]
  unfold storesOf
  rw [add_lit]
  simp only [hc, hf, h1 v (by simp), Bool.not_false, Bool.and_self, cond_true]
  rw [setCell_row hb]
  rw [stores_row l (i + 1) _ (cur.setIfInBounds (o + i) v) (by rw [setObj_get, if_pos rfl, if_pos hlt]) (by simp; omega) (fun u hu => h1 u (by simp [hu]))]
  simp only [wrL, Nat.add_assoc, Option.some.injEq]
  unfold setObjH
  simp
theorem stN {t : TypeId} {b o n : Nat} {h : Heap} {cur : Array Value} {l : List Value} {K : Value → Heap → Prop} (hb : h[b]? = some (.cells cur t (0, 0))) (hs : o + l.length ≤ cur.size) (h1 : ∀ v ∈ l, oneCell v = true) (hn : l.length = n)
  (hK : K undef (setObjH h b (.cells (wrL cur o l) t (0, 0)))) : stK n (.pointer (some ⟨b, o, none⟩)) (.agg l.toArray) h K := by
 unfold stK
 have := stores_row (t := t) (b := b) (o := o) l 0 h cur hb (by simpa using hs) h1
 simp only [Value.cells, List.size_toArray, hn, if_true, this]
 exact hK
theorem cells_one {v : Value} (h : oneCell v = true) : v.cells = #[v] := by cases v <;> first | rfl | cases h
theorem st1 {t : TypeId} {b o : Nat} {h : Heap} {cur : Array Value} {v : Value} {K : Value → Heap → Prop} (hb : h[b]? = some (.cells cur t (0, 0))) (hs : o < cur.size) (h1 : oneCell v = true)
  (hK : K undef (setObjH h b (.cells (cur.setIfInBounds o v) t (0, 0)))) : stK 1 (.pointer (some ⟨b, o, none⟩)) v h K := by
 unfold stK
 have := stores_row (t := t) (b := b) (o := o) [v] 0 h cur hb (by simp; omega) (by simpa using h1)
 simp only [cells_one h1, List.size_toArray, List.length_cons, List.length_nil, if_true, this]
 exact hK
theorem st_new {t : TypeId} {n : Nat} {h : Heap} {old : Array Value} {l : List Value} {K : Value → Heap → Prop} (hs : l.length = old.size) (h1 : ∀ v ∈ l, oneCell v = true) (hn : l.length = n)
  (hK : K undef (h.push (.cells l.toArray t))) : stK n (.pointer (some ⟨h.size, 0, none⟩)) (.agg l.toArray) (h.push (.cells old t)) K := by
 refine stN (cur := old) (t := t) (by simp) (by omega) h1 hn ?_
 rw [setObj_push, wrL_all l old hs]
 exact hK
def Upd (b : Nat) (h h' : Heap) : Prop := h'.size = h.size ∧ ∀ k, k ≠ b → h'[k]? = h[k]?
theorem Upd.row {b k : Nat} {h h' : Heap} (u : Upd b h h') (hk : k ≠ b) {o : Obj} (r : h[k]? = some o) : h'[k]? = some o := by rw [u.2 k hk]; exact r
theorem Upd.set {b : Nat} {h : Heap} {o : Obj} : Upd b h (setObjH h b o) := ⟨setObj_size h b o, fun k hk => by rw [setObj_get, if_neg hk]⟩
theorem Ext.upd {h h1 h2 : Heap} {b : Nat} (e : Ext h h1) (hb : h.size ≤ b) (u : Upd b h1 h2) : Ext h h2 :=
 ⟨by rw [u.1]; exact e.1, fun k hk => by rw [u.2 k (by omega)]; exact e.2 k hk⟩
theorem set_get {h : Heap} {b : Nat} {o o' : Obj} (r : h[b]? = some o) : (setObjH h b o')[b]? = some o' := by
 rw [setObj_get, if_pos rfl, if_pos (Array.getElem?_eq_some_iff.1 r).1]
theorem st_var {t : TypeId} {b n : Nat} {h : Heap} {old : Array Value} {l : List Value} {K : Value → Heap → Prop} (r : h[b]? = some (.cells old t (0, 0))) (hs : l.length = old.size) (h1 : ∀ v ∈ l, oneCell v = true) (hn : l.length = n)
  (hK : ∀ h', h'[b]? = some (.cells l.toArray t (0, 0)) → Upd b h h' → K undef h') : stK n (.pointer (some ⟨b, 0, none⟩)) (.agg l.toArray) h K := by
 refine stN r (by omega) h1 hn ?_
 rw [wrL_all l old hs]
 exact hK _ (set_get r) Upd.set
theorem st_cell {t : TypeId} {b o : Nat} {h : Heap} {cur : Array Value} {v : Value} {K : Value → Heap → Prop} (r : h[b]? = some (.cells cur t (0, 0))) (hs : o < cur.size) (h1 : oneCell v = true)
  (hK : ∀ h', h'[b]? = some (.cells (cur.setIfInBounds o v) t (0, 0)) → Upd b h h' → K undef h') : stK 1 (.pointer (some ⟨b, o, none⟩)) v h K :=
 st1 r hs h1 (hK _ (set_get r) Upd.set)
theorem rowK_use {c c' : Array Value} {e : TypeId} {n : Nat} {l : List (Nat × Nat × Value)} {h : Heap} {K : Value → Heap → Prop} (hf : fillL c l = some c')
  (H : ∀ b h', h'[b]? = some (.cells c' e (0, 0)) → Ext h h' → h.size ≤ b → K (.slice (some ⟨b, 0, none⟩) n n) h') : rowK c e n l h K := by
 unfold rowK
 rw [hf]
 exact H h.size (h.push (.cells c' e)) push_new (Ext.push h _) (Nat.le_refl _)
theorem least {p : Nat → Prop} : ∀ (n : Nat), p n → ∃ m, p m ∧ ∀ k, p k → m ≤ k := by
 intro n
 induction n using Nat.strongRecOn with
 | _ n ih =>
  intro hn
  by_cases hx : ∃ k, k < n ∧ p k
  ·obtain ⟨k, hk, hp⟩ := hx
   exact ih k hk hp
  ·exact ⟨n, hn, fun k hk => Nat.le_of_not_lt fun hlt => hx ⟨k, hlt, hk⟩⟩
theorem loopK_var {init : List Value} {h : Heap} {body : List Value → Env → Heap → (List Value → Heap → Prop) → Prop} (I : Nat → List Value → Heap → Prop) (d0 : Nat) (h0 : I d0 init h)
  (step : ∀ d xs ρj h again, I d xs h → (∀ ys h' d', d' < d → I d' ys h' → again ys h') → body xs ρj h again) : loopK init h body := by
 have hex : ∀ xs h, ∃ m : Nat, (∃ d, I d xs h) → I m xs h ∧ ∀ k, I k xs h → m ≤ k := by
  intro xs h
  by_cases hx : ∃ d, I d xs h
  ·obtain ⟨d, hd⟩ := hx
   obtain ⟨m, hm, hl⟩ := least (p := fun d => I d xs h) d hd
   exact ⟨m, fun _ => ⟨hm, hl⟩⟩
  ·exact ⟨0, fun h => absurd h hx⟩
 let m : List Value → Heap → Nat := fun xs h => Classical.choose (hex xs h)
 have hm : ∀ xs h, (∃ d, I d xs h) → I (m xs h) xs h ∧ ∀ k, I k xs h → m xs h ≤ k := fun xs h => Classical.choose_spec (hex xs h)
 refine ⟨fun xs h => ∃ d, I d xs h, m, ⟨d0, h0⟩, ?_⟩
 intro xs ρj h hI
 refine step (m xs h) xs ρj h _ (hm xs h hI).1 ?_
 intro ys h' d' hd hI'
 exact ⟨⟨d', hI'⟩, Nat.lt_of_le_of_lt ((hm ys h' ⟨d', hI'⟩).2 d' hI') hd⟩
theorem joinK_intro {body : (List Value → Heap → Prop) → Prop} {rest : List Value → Env → Heap → Prop} (J : List Value → Heap → Prop) (h1 : body J) (h2 : ∀ xs ρj h, J xs h → rest xs ρj h) : joinK body rest := ⟨J, h1, h2⟩
theorem drawK_ext {h : Heap} {body : (Heap → Prop) → Prop} (H : body (Ext h)) : drawK h body := ⟨Ext h, Ext.refl h, H⟩
theorem qK_val {S : Heap → Prop} {r : Heap → Option Value} {K : Value → Prop} (v : Value) (h : ∀ h, S h → r h = some v) (hK : K v) : qK S r K := ⟨v, h, hK⟩
attribute [go_sem] gV_und gK_und vK_some iteK_true iteK_false gV_true gV_false gV_tf gV_ft gK_true gK_false gK_tf gK_ft pickV_true pickV_false ix_0 ix_1 ix_2 ix_3 ix_4 ix_5 binV_add binV_sub binV_mul binV_lss binV_leq binV_gtr binV_geq binV_eql binV_neq binV_beq binV_bne unV_not unV_neg cviV_int maxV_int minV_int cells_agg lenslV_sl lenstV_st List.getElem?_toArray List.getElem?_cons_zero List.getElem?_cons_succ Nat.zero_add decide_true decide_false Bool.not_true Bool.not_false Bool.and_true Bool.and_false Bool.or_true Bool.or_false Bool.true_and Bool.false_and Bool.true_or Bool.false_or not_true_eq_false not_false_eq_true extV_0 extV_1 extV_2 extV_3 nilV_ptr fldV_0 fldV_ptr ldV_ptr
def Fr (M : Nat → Prop) (h h' : Heap) : Prop := h.size ≤ h'.size ∧ ∀ b, b < h.size → ¬ M b → h'[b]? = h[b]?
theorem Fr.refl (M : Nat → Prop) (h : Heap) : Fr M h h := ⟨Nat.le_refl _, fun _ _ _ => rfl⟩
theorem Fr.trans {M : Nat → Prop} {a b c : Heap} (h : Fr M a b) (k : Fr M b c) : Fr M a c :=
 ⟨Nat.le_trans h.1 k.1, fun i hi hm => (k.2 i (Nat.lt_of_lt_of_le hi h.1) hm).trans (h.2 i hi hm)⟩
theorem Fr.mono {M M' : Nat → Prop} {a b : Heap} (h : Fr M a b) (k : ∀ i, i < a.size → M i → M' i) : Fr M' a b := ⟨h.1, fun i hi hm => h.2 i hi fun x => hm (k i hi x)⟩
theorem Ext.fr {M : Nat → Prop} {a b : Heap} (h : Ext a b) : Fr M a b := ⟨h.1, fun i hi _ => h.2 i hi⟩
theorem Ext.then_fr {M : Nat → Prop} {a b c : Heap} (h : Ext a b) (k : Fr M b c) (n : ∀ i, M i → a.size ≤ i) : Ext a c :=
 ⟨Nat.le_trans h.1 k.1, fun i hi => (k.2 i (Nat.lt_of_lt_of_le hi h.1) fun m => Nat.not_le.2 hi (n i m)).trans (h.2 i hi)⟩
theorem Fr.row {M : Nat → Prop} {h h' : Heap} (e : Fr M h h') {b : Nat} {o : Obj} (hb : h[b]? = some o) (hm : ¬ M b) : h'[b]? = some o := by
 rw [e.2 b (Array.getElem?_eq_some_iff.1 hb).1 hm]; exact hb
theorem Fr.cell {M : Nat → Prop} {h h' : Heap} (e : Fr M h h') {a : Addr} {v : Value} (hc : cellOf h a = some v) (hm : ¬ M a.block) : cellOf h' a = some v := by
 unfold cellOf at *
 rcases Nat.lt_or_ge a.block h.size with hb | hb
 ·rw [e.2 _ hb hm]; exact hc
 ·rw [Array.getElem?_eq_none hb] at hc; cases hc
theorem cell_lt {h : Heap} {a : Addr} {v : Value} (hc : cellOf h a = some v) : a.block < h.size := by
 unfold cellOf at hc
 rcases Nat.lt_or_ge a.block h.size with hb | hb
 ·exact hb
 ·rw [Array.getElem?_eq_none hb] at hc; cases hc
def blk : Value → Nat → Prop
 | .slice (some a) _ _, b => b = a.block
 | .pointer (some a), b => b = a.block
 | _, _ => False
def SlC (w : Nat) (h : Heap) (v : Value) (n : Nat) (cs : List Value) : Prop :=
 cs.length = n * w ∧ ∃ a cap, v = .slice a n cap ∧ (cs = [] ∨ ∃ b o, a = some ⟨b, o, none⟩ ∧ ∀ j (hj : j < cs.length), cellOf h ⟨b, o + j, none⟩ = some cs[j])
def Own (w : Nat) (h : Heap) (v : Value) (n : Nat) (cs : List Value) : Prop :=
 (v = .slice none 0 0 ∧ n = 0 ∧ cs = []) ∨ ∃ b cap r e, v = .slice (some ⟨b, 0, none⟩) n cap ∧ n ≤ cap ∧ cs.length = n * w ∧ (cs ++ r).length = cap * w ∧ h[b]? = some (.cells (cs ++ r).toArray e (0, 0))
theorem SlC.fr {w : Nat} {M : Nat → Prop} {h h' : Heap} {v : Value} {n : Nat} {cs : List Value} (H : SlC w h v n cs) (e : Fr M h h') (hm : ∀ b, b < h.size → blk v b → ¬ M b) : SlC w h' v n cs := by
 obtain ⟨hl, a, cap, rfl, H⟩ := H
 refine ⟨hl, a, cap, rfl, ?_⟩
 rcases H with H | ⟨b, o, rfl, H⟩
 ·exact .inl H
 ·exact .inr ⟨b, o, rfl, fun j hj => e.cell (H j hj) (hm b (cell_lt (H j hj)) rfl)⟩
theorem SlC.ext {w : Nat} {h h' : Heap} {v : Value} {n : Nat} {cs : List Value} (H : SlC w h v n cs) (e : Ext h h') : SlC w h' v n cs := H.fr (M := fun _ => False) e.fr fun _ _ _ => id
theorem Own.sl {w : Nat} {h : Heap} {v : Value} {n : Nat} {cs : List Value} (H : Own w h v n cs) : SlC w h v n cs := by
 rcases H with ⟨rfl, rfl, rfl⟩ | ⟨b, cap, r, e, rfl, hc, hl, _, hb⟩
 ·exact ⟨by simp, none, 0, rfl, .inl rfl⟩
 ·refine ⟨hl, _, cap, rfl, .inr ⟨b, 0, rfl, fun j hj => ?_⟩⟩
  rw [Nat.zero_add, cell_row hb]
  simp [List.getElem?_append_left hj, hj]
theorem Own.fr {w : Nat} {M : Nat → Prop} {h h' : Heap} {v : Value} {n : Nat} {cs : List Value} (H : Own w h v n cs) (f : Fr M h h') (hm : ∀ b, blk v b → ¬ M b) : Own w h' v n cs := by
 rcases H with ⟨rfl, rfl, rfl⟩ | ⟨b, cap, r, e, rfl, hc, hl, hr, hb⟩
 ·exact .inl ⟨rfl, rfl, rfl⟩
 ·exact .inr ⟨b, cap, r, e, rfl, hc, hl, hr, f.row hb (hm b rfl)⟩
theorem Own.lt {w : Nat} {h : Heap} {v : Value} {n : Nat} {cs : List Value} (H : Own w h v n cs) {b : Nat} (hb : blk v b) : b < h.size := by
 rcases H with ⟨rfl, rfl, rfl⟩ | ⟨b', cap, r, e, rfl, hc, hl, hr, h'⟩
 ·cases hb
 ·rw [show b = b' from hb]; exact (Array.getElem?_eq_some_iff.1 h').1
theorem SlC.loads {w : Nat} {h : Heap} {v : Value} {n : Nat} {cs : List Value} (H : SlC w h v n cs) : srcOf w h n v = some cs := by
 obtain ⟨hl, a, cap, rfl, H⟩ := H
 cases a with
 | none =>
  rcases H with rfl | ⟨b, o, h1, _⟩
  ·rfl
  ·cases h1
 | some a =>
  show loadsOf h a 0 (n * w) = _
  rcases H with rfl | ⟨b, o, h1, H⟩
  ·rw [← hl]; rfl
  ·cases h1
   rw [← hl]
   exact loads_row cs 0 (by simpa using H)
theorem wrL_mid : ∀ (ds cs r : List Value), ds.length ≤ r.length → wrL (cs ++ r).toArray cs.length ds = (cs ++ ds ++ r.drop ds.length).toArray
 | [], cs, r, _ => by simp [wrL]
 | v :: ds, cs, r, h => by
  cases r with
  | nil => simp at h
  | cons x r =>
   have e : ((cs ++ x :: r).toArray).setIfInBounds cs.length v = ((cs ++ [v]) ++ r).toArray := by simp
   rw [wrL, e]
   have := wrL_mid ds (cs ++ [v]) r (by simpa using h)
   rw [List.length_append, List.length_singleton] at this
   rw [this]
   simp
theorem Upd.fr {b : Nat} {h h' : Heap} (u : Upd b h h') : Fr (fun k => k = b) h h' := ⟨Nat.le_of_eq u.1.symm, fun k _ hk => u.2 k hk⟩
theorem size_zc (z : Array Value) (n : Nat) : (Builtin.zeroCells z n).size = n * z.size := by simp [Builtin.zeroCells]
theorem appK_own {z : Value} {e : TypeId} {w bytes n m : Nat} {s x : Value} {h : Heap} {cs ds : List Value} {K : Value → Heap → Prop}
  (hs : Own w h s n cs) (hx : SlC w h x m ds) (ho : ∀ v ∈ ds, oneCell v = true) (hz : z.cells.size = w) (hb : (n + m) * bytes ≤ 140737488355328) (hn : n + m ≤ 9223372036854775807)
  (H : ∀ s' h', Own w h' s' (n + m) (cs ++ ds) → Fr (blk s) h h' → (∀ b, blk s' b → blk s b ∨ h.size ≤ b) → K s' h') : appK z e w bytes s x h K := by
 have hsl := hs.sl.loads
 have hxl := hx.loads
 obtain ⟨hdl, a', cap', rfl, hx'⟩ := hx
 rcases hs with ⟨rfl, rfl, rfl⟩ | ⟨b, cap, r, e0, rfl, hc, hl, hr, hbk⟩
 ·unfold appK
  simp only [lenN]
  split
  ·rename_i h0
   have : m = 0 := by omega
   subst this
   rw [hxl]
   have : ds = [] := List.eq_nil_of_length_eq_zero (by simpa using hdl)
   subst this
   exact H _ _ (.inl ⟨rfl, rfl, rfl⟩) (Fr.refl _ _) (fun b hb => hb.elim)
  ·rename_i h0
   rw [hsl, hxl]
   refine ⟨by simp only [IntKind.max]; simp only [IntKind.signed, IntKind.bits]; omega, Nat.le_trans (growslice_fits (by omega) hb) (by decide), fun newCap h1 h2 => ?_⟩
   refine H _ _ (.inr ⟨h.size, newCap, (Builtin.zeroCells z.cells (newCap - (0 + m))).toList, e, rfl, h1, ?_, ?_, ?_⟩) (Ext.push h _).fr (fun b hb => .inr (by rw [show b = h.size from hb]; exact Nat.le_refl _))
   ·simp [hdl]
   ·simp [hdl, size_zc, hz]; rw [← Nat.add_mul]; congr 1; omega
   ·rw [push_new]; simp
 ·unfold appK
  simp only [lenN]
  split
  ·rename_i h0
   rw [hxl]
   have hrl : ds.length ≤ r.length := by
    rw [List.length_append] at hr
    rw [hdl]
    have : (n + m) * w ≤ cap * w := Nat.mul_le_mul_right w h0
    rw [Nat.add_mul] at this
    omega
   have hst := stores_row (o := n * w) ds 0 h _ hbk (by simp; omega) ho
   simp only [add_lit, Nat.zero_add, hst]
   rw [Nat.add_zero, ← hl, wrL_mid ds cs r hrl]
   refine H _ _ (.inr ⟨b, cap, r.drop ds.length, e0, rfl, h0, ?_, ?_, set_get hbk⟩) (Upd.set.fr) (fun k hk => .inl hk)
   ·simp [hl, hdl, Nat.add_mul]
   ·rw [← hr]; simp; omega
  ·rename_i h0
   rw [hsl, hxl]
   refine ⟨by simp only [IntKind.max]; simp only [IntKind.signed, IntKind.bits]; omega, Nat.le_trans (growslice_fits (by omega) hb) (by decide), fun newCap h1 h2 => ?_⟩
   refine H _ _ (.inr ⟨h.size, newCap, (Builtin.zeroCells z.cells (newCap - (n + m))).toList, e, rfl, h1, ?_, ?_, ?_⟩) (Ext.push h _).fr (fun b hb => .inr (by rw [show b = h.size from hb]; exact Nat.le_refl _))
   ·simp [hl, hdl, Nat.add_mul]
   ·simp [hl, hdl, size_zc, hz]; rw [← Nat.add_mul, ← Nat.add_mul]; congr 1; omega
   ·rw [push_new]; simp
theorem SlC.at1 {h : Heap} {v : Value} {n : Nat} {cs : List Value} (H : SlC 1 h v n cs) {k : IntKind} {i : Nat} (hi : i < n) : ∃ p, idxV 1 v (.int k (i : Int)) = some p ∧ ldV h p = some (cs[i]'(by rw [H.1]; omega)) := by
 have hl := H.1
 obtain ⟨_, a, cap, rfl, H⟩ := H
 rcases H with rfl | ⟨b, o, rfl, H⟩
 ·simp at hl; omega
 ·refine ⟨_, idxV_nat hi, ?_⟩
  rw [ldV_ptr, Nat.mul_one]
  exact H i (by omega)
theorem SlC.atw {w : Nat} {h : Heap} {v : Value} {n : Nat} {cs : List Value} (H : SlC w h v n cs) (hw : 0 < w) {k : IntKind} {i : Nat} (hi : i < n) :
  ∃ p, idxV w v (.int k (i : Int)) = some p ∧ ldsV w h p = some (.agg ((cs.drop (i * w)).take w).toArray) := by
 have hl := H.1
 obtain ⟨_, a, cap, rfl, H⟩ := H
 have hiw : i * w + w ≤ cs.length := by rw [hl, ← Nat.succ_mul]; exact Nat.mul_le_mul_right w hi
 rcases H with rfl | ⟨b, o, rfl, H⟩
 ·simp at hiw; omega
 ·refine ⟨_, idxV_nat hi, ?_⟩
  refine ldsV_row _ w (by simp; omega) fun j hj => ?_
  simp at hj
  have := H (i * w + j) (by omega)
  rw [← Nat.add_assoc] at this
  rw [this]
  simp
theorem loop_from {h : Heap} {body : List Value → Env → Heap → (List Value → Heap → Prop) → Prop} (n i0 : Nat) (I : Nat → Heap → Prop) (h0 : I i0 h)
  (step : ∀ k h again ρj, i0 ≤ k → I k h → (∀ h', k < n → I (k + 1) h' → again [.int .i64 ((k : Int) + 1)] h') → body [.int .i64 (k : Int)] ρj h again) : loopK [.int .i64 (i0 : Int)] h body := by
 refine loopK_var (fun d xs h => ∃ k, i0 ≤ k ∧ d = n - k ∧ xs = [.int .i64 (k : Int)] ∧ I k h) (n - i0) ⟨i0, Nat.le_refl _, rfl, rfl, h0⟩ ?_
 rintro d _ ρj h1 again ⟨k, hk0, hd, rfl, hI⟩ hag
 exact step k h1 again ρj hk0 hI fun h' hk hI' => hag _ _ (n - (k + 1)) (by omega) ⟨k + 1, by omega, rfl, by simp, hI'⟩
theorem loop_count {h : Heap} {body : List Value → Env → Heap → (List Value → Heap → Prop) → Prop} (n : Nat) (I : Nat → Heap → Prop) (h0 : I 0 h)
  (step : ∀ k h again ρj, I k h → (∀ h', k < n → I (k + 1) h' → again [.int .i64 ((k : Int) + 1)] h') → body [.int .i64 (k : Int)] ρj h again) : loopK [.int .i64 0] h body :=
 loop_from n 0 I h0 fun k h again ρj _ => step k h again ρj
end Go.Crisp
namespace Go.Proofs.YtolcfipmjhjeaaaDoor
open Go Go.Crisp
section
variable {a0 a1 a2 a3 : Value} {h : Heap} {R : Value → Heap → Prop}
abbrev F_law13_RecipePrints : FuncId := 4
abbrev F_law13_Lives : FuncId := 5
abbrev F_recipe_Parse : FuncId := 6
abbrev F_law13_Same : FuncId := 8
abbrev F_recipe_Print : FuncId := 9
abbrev F_law13_few : FuncId := 10
abbrev F_ref13_Word : FuncId := 11
abbrev F_law12_Ref : FuncId := 12
abbrev F_recipe_Word : FuncId := 13
abbrev F_recipe_Clean : FuncId := 14
abbrev F_ref13_Clean : FuncId := 15
abbrev F_strings_SplitSeq : FuncId := 16
abbrev F_recipe_read : FuncId := 17
abbrev F_ref06_Same : FuncId := 20
abbrev F_strings_Join : FuncId := 21
abbrev F_ref13_Sign : FuncId := 22
abbrev F_ref13_border : FuncId := 23
abbrev F_ref13_decimal : FuncId := 24
abbrev F_ref13_list : FuncId := 25
abbrev F_ref13_times : FuncId := 26
abbrev F_ref13_filter : FuncId := 27
abbrev F_border_Name : FuncId := 28
abbrev F_recipe_Sign : FuncId := 29
abbrev F_raw_Name : FuncId := 30
abbrev F_strconv_FormatInt : FuncId := 31
abbrev F_strconv_Itoa : FuncId := 32
abbrev F_recipe_numbers : FuncId := 33
abbrev F_slices_Clone_sl_int64_int64 : FuncId := 34
abbrev F_strings_splitSeq : FuncId := 35
abbrev F_unicode_utf8_DecodeRuneInString : FuncId := 36
abbrev F_recipe_kind : FuncId := 37
abbrev F_strings_Cut : FuncId := 38
abbrev F_border_Named : FuncId := 39
abbrev F_recipe_one : FuncId := 40
abbrev F_recipe_list : FuncId := 41
abbrev F_recipe_filter : FuncId := 42
abbrev F_ref10_Decimal : FuncId := 48
abbrev F_strings_splitSeq_c1 : FuncId := 51
abbrev F_slices_Index_sl_string_string : FuncId := 55
abbrev F_strconv_ParseInt : FuncId := 56
abbrev F_ref10_positive : FuncId := 59
abbrev G_border_names : Nat := 0
abbrev G_raw_kinds : Nat := 1
theorem flat_ok : flatOkB Tryd.prog = true := rfl
instance : FlatOk Tryd.prog := ⟨flat_ok⟩
def sh_law13_RecipePrints (a0 : Value) (h : Heap) (R : Value → Heap → Prop) : Prop :=
 FCall Tryd.prog F_law13_Lives #[] h fun v1 h2 =>
 vK (unV .not v1) fun v3 =>
 vK (gV v3 false (some a0)) fun v4 =>
 gK v3 false (fun k120 => FCall Tryd.prog F_law13_few #[v4] h2 k120) h2 fun v5 h6 =>
 vK (gV v3 false (unV .not v5)) fun v7 =>
 vK (pickV v3 (.bool true) v7) fun v8 =>
 iteK v8 (
 FCall Tryd.prog F_law13_Lives #[] h6 fun v9 h10 =>
 R v9 h10) (
 vK (lenslV a0) fun v11 =>
 loopK [(.string ⟨#[]⟩), (.bool true), (.int .i64 0)] h6 fun x12 j13 h14 again15 =>
 vK (binV .i .lss (ix x12 2) v11) fun v16 =>
 iteK v16 (
 vK (idxV 9 a0 (ix x12 2)) fun v17 =>
 vK (ldsV 9 h14 v17) fun v18 =>
 newK #[(.int .i64 0), (.int .i64 0), (.int .i64 0), (.int .i64 0), (.slice none 0 0), (.slice none 0 0), (.int .i64 0), (.int .i64 0), (.int .i64 0)] 36 h14 fun v19 h20 =>
 stK 9 v19 v18 h20 fun v21 h22 =>
 vK (ldsV 9 h22 v19) fun v23 =>
 FCall Tryd.prog F_law12_Ref #[v23] h22 fun v24 h25 =>
 FCall Tryd.prog F_ref13_Word #[v24] h25 fun v26 h27 =>
 vK (extV v26 0) fun v28 =>
 vK (extV v26 1) fun v29 =>
 vK (ldsV 9 h27 v19) fun v30 =>
 FCall Tryd.prog F_recipe_Word #[v30] h27 fun v31 h32 =>
 vK (extV v31 0) fun v33 =>
 vK (extV v31 1) fun v34 =>
 drawK h32 fun S =>
 vK (binV .i .eql v34 (.int .i64 0)) fun v35 =>
 vK (binV .b .neq v35 v29) fun v36 =>
 vK (gV v36 false (some v33)) fun v37 =>
 vK (gV v36 false (some v28)) fun v38 =>
 vK (gV v36 false (binV .s .neq v37 v38)) fun v39 =>
 vK (pickV v36 (.bool true) v39) fun v40 =>
 vK (gV v40 false (some v29)) fun v41 =>
 vK (gV v40 false (unV .not v41)) fun v42 =>
 vK (gV v40 false (some v42)) fun v43 =>
 vK (gV v43 true (some v34)) fun v44 =>
 vK (gV v43 true (binV .i .neq v44 (.int .i64 6))) fun v45 =>
 vK (gV v40 false (pickV v43 v45 (.bool false))) fun v46 =>
 vK (pickV v40 (.bool true) v46) fun v47 =>
 qK S (fun h32 => gV v47 false (ldsV 9 h32 v19)) fun v48 =>
 qK S (fun h32 => gV v47 false (ldsV 9 h32 v19)) fun v49 =>
 gK v47 false (fun k71 => FCall Tryd.prog F_recipe_Clean #[v48] h32 k71) h32 fun v50 h51 =>
 S h51 ∧ (gK v47 false (fun k70 => FCall Tryd.prog F_law12_Ref #[v49] h51 k70) h51 fun v52 h53 =>
 gK v47 false (fun k69 => FCall Tryd.prog F_ref13_Clean #[v52] h53 k69) h53 fun v54 h55 =>
 gK v47 false (fun k68 => FCall Tryd.prog F_law13_Same #[v50, v54] h55 k68) h55 fun v56 h57 =>
 vK (gV v47 false (unV .not v56)) fun v58 =>
 vK (pickV v47 (.bool true) v58) fun v59 =>
 iteK v59 (
 R (.bool false) h57) (
 vK (gV (ix x12 1) true (some v29)) fun v60 =>
 vK (pickV (ix x12 1) v60 (.bool false)) fun v61 =>
 vK (binV .i .gtr (ix x12 2) (.int .i64 0)) fun v62 =>
 iteK v62 (
 vK (binV .s .add (ix x12 0) (.string ⟨#[59]⟩)) fun v63 =>
 vK (binV .s .add v63 v28) fun v64 =>
 vK (binV .i .add (ix x12 2) (.int .i64 1)) fun v65 =>
 again15 [v64, v61, v65] h57) (
 vK (binV .s .add (ix x12 0) v28) fun v66 =>
 vK (binV .i .add (ix x12 2) (.int .i64 1)) fun v67 =>
 again15 [v66, v61, v67] h57)))) (
 FCall Tryd.prog F_recipe_Print #[a0] h14 fun v72 h73 =>
 vK (extV v72 0) fun v74 =>
 vK (extV v72 1) fun v75 =>
 vK (unV .not (ix x12 1)) fun v76 =>
 iteK v76 (
 vK (binV .s .eql v74 (.string ⟨#[]⟩)) fun v77 =>
 vK (gV v77 true (some v75)) fun v78 =>
 vK (gV v77 true (binV .i .eql v78 (.int .i64 6))) fun v79 =>
 vK (pickV v77 v79 (.bool false)) fun v80 =>
 R v80 h73) (
 FCall Tryd.prog F_recipe_Parse #[v74] h73 fun v81 h82 =>
 vK (extV v81 0) fun v83 =>
 vK (extV v81 1) fun v84 =>
 vK (extV v81 2) fun v85 =>
 vK (binV .s .neq v74 (ix x12 0)) fun v86 =>
 vK (gV v86 false (some v75)) fun v87 =>
 vK (gV v86 false (binV .i .neq v87 (.int .i64 0))) fun v88 =>
 vK (pickV v86 (.bool true) v88) fun v89 =>
 vK (gV v89 false (some v85)) fun v90 =>
 vK (gV v89 false (binV .i .neq v90 (.int .i64 0))) fun v91 =>
 vK (pickV v89 (.bool true) v91) fun v92 =>
 vK (gV v92 false (some v84)) fun v93 =>
 vK (gV v92 false (binV .i .neq v93 (.int .i64 0))) fun v94 =>
 vK (pickV v92 (.bool true) v94) fun v95 =>
 vK (gV v95 false (some v83)) fun v96 =>
 vK (gV v95 false (lenslV v96)) fun v97 =>
 vK (gV v95 false (some a0)) fun v98 =>
 vK (gV v95 false (lenslV v98)) fun v99 =>
 vK (gV v95 false (binV .i .neq v97 v99)) fun v100 =>
 vK (pickV v95 (.bool true) v100) fun v101 =>
 iteK v101 (
 R (.bool false) h82) (
 vK (lenslV v83) fun v102 =>
 loopK [(.int .i64 0)] h82 fun x103 j104 h105 again106 =>
 vK (binV .i .lss (ix x103 0) v102) fun v107 =>
 iteK v107 (
 drawK h105 fun S =>
 vK (idxV 9 v83 (ix x103 0)) fun v108 =>
 qK S (fun h105 => ldsV 9 h105 v108) fun v109 =>
 vK (idxV 9 a0 (ix x103 0)) fun v110 =>
 qK S (fun h105 => ldsV 9 h105 v110) fun v111 =>
 FCall Tryd.prog F_law12_Ref #[v111] h105 fun v112 h113 =>
 S h113 ∧ (FCall Tryd.prog F_ref13_Clean #[v112] h113 fun v114 h115 =>
 S h115 ∧ (FCall Tryd.prog F_law13_Same #[v109, v114] h115 fun v116 h117 =>
 vK (unV .not v116) fun v118 =>
 iteK v118 (
 R (.bool false) h117) (
 vK (binV .i .add (ix x103 0) (.int .i64 1)) fun v119 =>
 again106 [v119] h117)))) (
 R (.bool true) h105)))))
theorem ok_law13_RecipePrints (H : sh_law13_RecipePrints a0 h R) : FCall Tryd.prog F_law13_RecipePrints #[a0] h R := fk Tryd.f4 (.s .z (.s (.s .z (.s (.s .z .z) .z)) (.s .z (.s (.s .z (.l 2417851639229258215196668 [3, 4, 27] (.s .z (.s (.s .z .z) (.s (.s .z (.s .z (.s .z (.s (.s (.d (.op 0 .r (.op 1 .r (.op 2 .r (.op 3 .r (.op 4 .r (.op 5 .r (.op 6 .r (.op 7 .r (.op 8 .r (.op 9 .r (.op 10 .r (.op 11 .r (.op 12 .r (.op 13 .r (.op 14 .r (.op 15 .r (.op 16 .r (.op 17 .r (.op 18 .r (.op 20 .r (.op 19 .e (.op 21 .n (.op 22 .n (.op 23 .n (.op 24 .r (.op 25 .r .nil))))))))))))))))))))))))))) (.s (.s .z .z) .z)) (.s .z (.s (.s .z (.s .z .z)) .z)))))) .z))))) (.s .z (.s (.s .z (.s (.s .z .z) .z)) (.s .z (.s (.s .z (.s (.s .z .z) .z)) (.s (.s .z (.l 1393775307260231387692015931127558108676100 [124] (.s .z (.s (.s .z .z) (.s (.s .z (.s (.d (.op 0 .r (.op 1 .r (.op 2 .r (.op 3 .r (.op 4 .r (.op 5 .r (.op 6 .r (.op 7 .r (.op 8 .e (.op 9 .e (.op 10 .n (.op 11 .r .nil))))))))))))) (.s (.s .z .z) .z))) .z))))) (.s .z .z)))))))))) H
def sh_law13_Lives (h : Heap) (R : Value → Heap → Prop) : Prop :=
 rowK #[(.int .i64 0), (.int .i64 0), (.int .i64 0)] 2 3 [(0, 1, (.int .i64 1)), (1, 1, (.int .i64 2)), (2, 1, (.int .i64 1))] h fun v1 h2 =>
 rowK #[(.int .i64 0)] 2 1 [(0, 1, (.int .i64 1))] h2 fun v3 h4 =>
 vK ((fillL #[(.int .i64 0), (.int .i64 0), (.int .i64 0), (.int .i64 0), (.slice none 0 0), (.slice none 0 0), (.int .i64 0), (.int .i64 0), (.int .i64 0)] [(0, 1, (.int .i64 2)), (4, 1, v1), (5, 1, v3), (1, 1, (.int .i64 2))]).map .agg) fun v5 =>
 FCall Tryd.prog F_recipe_Word #[v5] h4 fun v6 h7 =>
 vK (extV v6 0) fun v8 =>
 vK (extV v6 1) fun v9 =>
 vK (binV .i .eql v9 (.int .i64 0)) fun v10 =>
 vK (gV v10 true (some v8)) fun v11 =>
 vK (gV v10 true (binV .s .eql v11 (.string ⟨#[226, 138, 151, 49, 44, 50, 44, 49, 195, 151, 49, 124, 119, 114, 97, 112]⟩))) fun v12 =>
 vK (pickV v10 v12 (.bool false)) fun v13 =>
 R v13 h7
theorem ok_law13_Lives (H : sh_law13_Lives h R) : FCall Tryd.prog F_law13_Lives #[] h R := fk Tryd.f5 (.s .z (.s .z (.s .z .z))) H
def sh_law13_Same (a0 a1 : Value) (h : Heap) (R : Value → Heap → Prop) : Prop :=
 newK (Value.cells a0) 36 h fun v1 h2 =>
 newK (Value.cells a1) 38 h2 fun v3 h4 =>
 vK (fldV 0 v1) fun v5 =>
 vK (ldV h4 v5) fun v6 =>
 vK (fldV 0 v3) fun v7 =>
 vK (ldV h4 v7) fun v8 =>
 vK (binV .i .eql v6 v8) fun v9 =>
 vK (gV v9 true (fldV 1 v1)) fun v10 =>
 vK (gV v9 true (ldV h4 v10)) fun v11 =>
 vK (gV v9 true (fldV 1 v3)) fun v12 =>
 vK (gV v9 true (ldV h4 v12)) fun v13 =>
 vK (gV v9 true (binV .i .eql v11 v13)) fun v14 =>
 vK (pickV v9 v14 (.bool false)) fun v15 =>
 vK (gV v15 true (fldV 2 v1)) fun v16 =>
 vK (gV v15 true (ldV h4 v16)) fun v17 =>
 vK (gV v15 true (fldV 2 v3)) fun v18 =>
 vK (gV v15 true (ldV h4 v18)) fun v19 =>
 vK (gV v15 true (binV .i .eql v17 v19)) fun v20 =>
 vK (pickV v15 v20 (.bool false)) fun v21 =>
 vK (gV v21 true (fldV 3 v1)) fun v22 =>
 vK (gV v21 true (ldV h4 v22)) fun v23 =>
 vK (gV v21 true (fldV 3 v3)) fun v24 =>
 vK (gV v21 true (ldV h4 v24)) fun v25 =>
 vK (gV v21 true (binV .i .eql v23 v25)) fun v26 =>
 vK (pickV v21 v26 (.bool false)) fun v27 =>
 vK (gV v27 true (fldV 6 v1)) fun v28 =>
 vK (gV v27 true (ldV h4 v28)) fun v29 =>
 vK (gV v27 true (fldV 6 v3)) fun v30 =>
 vK (gV v27 true (ldV h4 v30)) fun v31 =>
 vK (gV v27 true (binV .i .eql v29 v31)) fun v32 =>
 vK (pickV v27 v32 (.bool false)) fun v33 =>
 vK (gV v33 true (fldV 7 v1)) fun v34 =>
 vK (gV v33 true (ldV h4 v34)) fun v35 =>
 vK (gV v33 true (fldV 7 v3)) fun v36 =>
 vK (gV v33 true (ldV h4 v36)) fun v37 =>
 vK (gV v33 true (binV .i .eql v35 v37)) fun v38 =>
 vK (pickV v33 v38 (.bool false)) fun v39 =>
 vK (gV v39 true (fldV 8 v1)) fun v40 =>
 vK (gV v39 true (ldV h4 v40)) fun v41 =>
 vK (gV v39 true (fldV 8 v3)) fun v42 =>
 vK (gV v39 true (ldV h4 v42)) fun v43 =>
 vK (gV v39 true (binV .i .eql v41 v43)) fun v44 =>
 vK (pickV v39 v44 (.bool false)) fun v45 =>
 vK (gV v45 true (fldV 4 v1)) fun v46 =>
 vK (gV v45 true (ldV h4 v46)) fun v47 =>
 vK (gV v45 true (fldV 4 v3)) fun v48 =>
 vK (gV v45 true (ldV h4 v48)) fun v49 =>
 gK v45 true (fun k61 => FCall Tryd.prog F_ref06_Same #[v47, v49] h4 k61) h4 fun v50 h51 =>
 vK (pickV v45 v50 (.bool false)) fun v52 =>
 vK (gV v52 true (fldV 5 v1)) fun v53 =>
 vK (gV v52 true (ldV h51 v53)) fun v54 =>
 vK (gV v52 true (fldV 5 v3)) fun v55 =>
 vK (gV v52 true (ldV h51 v55)) fun v56 =>
 gK v52 true (fun k60 => FCall Tryd.prog F_ref06_Same #[v54, v56] h51 k60) h51 fun v57 h58 =>
 vK (pickV v52 v57 (.bool false)) fun v59 =>
 R v59 h58
theorem ok_law13_Same (H : sh_law13_Same a0 a1 h R) : FCall Tryd.prog F_law13_Same #[a0, a1] h R := fk Tryd.f8 (.s .z (.s .z .z)) H
def sh_recipe_Print (a0 : Value) (h : Heap) (R : Value → Heap → Prop) : Prop :=
 vK (lenslV a0) fun v1 =>
 loopK [(.slice none 0 0), (.int .i64 0)] h fun x2 j3 h4 again5 =>
 vK (binV .i .lss (ix x2 1) v1) fun v6 =>
 iteK v6 (
 vK (idxV 9 a0 (ix x2 1)) fun v7 =>
 vK (ldsV 9 h4 v7) fun v8 =>
 newK #[(.int .i64 0), (.int .i64 0), (.int .i64 0), (.int .i64 0), (.slice none 0 0), (.slice none 0 0), (.int .i64 0), (.int .i64 0), (.int .i64 0)] 36 h4 fun v9 h10 =>
 stK 9 v9 v8 h10 fun v11 h12 =>
 vK (ldsV 9 h12 v9) fun v13 =>
 FCall Tryd.prog F_recipe_Word #[v13] h12 fun v14 h15 =>
 vK (extV v14 0) fun v16 =>
 vK (extV v14 1) fun v17 =>
 vK (binV .i .neq v17 (.int .i64 0)) fun v18 =>
 iteK v18 (
 R (.tuple #[(.string ⟨#[]⟩), v17]) h15) (
 rowK #[(.string ⟨#[]⟩)] 9 1 [(0, 1, v16)] h15 fun v19 h20 =>
 appK (.string ⟨#[]⟩) 9 1 16 (ix x2 0) v19 h20 fun v21 h22 =>
 vK (binV .i .add (ix x2 1) (.int .i64 1)) fun v23 =>
 again5 [v21, v23] h22)) (
 FCall Tryd.prog F_strings_Join #[(ix x2 0), (.string ⟨#[59]⟩)] h4 fun v24 h25 =>
 R (.tuple #[v24, (.int .i64 0)]) h25)
theorem ok_recipe_Print (H : sh_recipe_Print a0 h R) : FCall Tryd.prog F_recipe_Print #[a0] h R := fk Tryd.f9 (.s .z (.s .z (.s (.s .z (.l 268433884 [4, 11] (.s .z (.s (.s .z .z) (.s (.s .z (.s .z (.s (.s .z (.s (.s .z .z) .z)) .z))) .z))))) (.s .z .z)))) H
def sh_law13_few (a0 : Value) (h : Heap) (R : Value → Heap → Prop) : Prop :=
 vK (lenslV a0) fun v1 =>
 loopK [(.int .i64 0)] h fun x2 j3 h4 again5 =>
 vK (binV .i .lss (ix x2 0) v1) fun v6 =>
 iteK v6 (
 vK (idxV 9 a0 (ix x2 0)) fun v7 =>
 vK (ldsV 9 h4 v7) fun v8 =>
 newK #[(.int .i64 0), (.int .i64 0), (.int .i64 0), (.int .i64 0), (.slice none 0 0), (.slice none 0 0), (.int .i64 0), (.int .i64 0), (.int .i64 0)] 36 h4 fun v9 h10 =>
 stK 9 v9 v8 h10 fun v11 h12 =>
 vK (fldV 4 v9) fun v13 =>
 vK (ldV h12 v13) fun v14 =>
 vK (lenslV v14) fun v15 =>
 vK (binV .i .gtr v15 (.int .i64 60)) fun v16 =>
 vK (gV v16 false (fldV 5 v9)) fun v17 =>
 vK (gV v16 false (ldV h12 v17)) fun v18 =>
 vK (gV v16 false (lenslV v18)) fun v19 =>
 vK (gV v16 false (binV .i .gtr v19 (.int .i64 60))) fun v20 =>
 vK (pickV v16 (.bool true) v20) fun v21 =>
 iteK v21 (
 R (.bool false) h12) (
 vK (binV .i .add (ix x2 0) (.int .i64 1)) fun v22 =>
 again5 [v22] h12)) (
 vK (lenslV a0) fun v23 =>
 vK (binV .i .leq v23 (.int .i64 20)) fun v24 =>
 R v24 h4)
theorem ok_law13_few (H : sh_law13_few a0 h R) : FCall Tryd.prog F_law13_few #[a0] h R := fk Tryd.f10 (.s .z (.s (.s .z (.l 4194196 [7] (.s .z (.s (.s .z .z) (.s (.s .z (.s .z (.s (.s .z .z) .z))) .z))))) (.s .z .z))) H
def sh_ref13_Word (a0 : Value) (h : Heap) (R : Value → Heap → Prop) : Prop :=
 newK (Value.cells a0) 38 h fun v1 h2 =>
 vK (fldV 0 v1) fun v3 =>
 vK (ldV h2 v3) fun v4 =>
 FCall Tryd.prog F_ref13_Sign #[v4] h2 fun v5 h6 =>
 vK (binV .s .eql v5 (.string ⟨#[]⟩)) fun v7 =>
 vK (gV v7 false (fldV 1 v1)) fun v8 =>
 vK (gV v7 false (ldV h6 v8)) fun v9 =>
 gK v7 false (fun k78 => FCall Tryd.prog F_ref13_border #[v9] h6 k78) h6 fun v10 h11 =>
 vK (gV v7 false (binV .s .eql v10 (.string ⟨#[]⟩))) fun v12 =>
 vK (pickV v7 (.bool true) v12) fun v13 =>
 iteK v13 (
 R (.tuple #[(.string ⟨#[]⟩), (.bool false)]) h11) (
 vK (fldV 0 v1) fun v14 =>
 vK (ldV h11 v14) fun v15 =>
 joinK (fun J16 =>
 vK (binV .i .eql v15 (.int .i64 0)) fun v20 =>
 iteK v20 (
 vK (fldV 2 v1) fun v21 =>
 vK (ldV h11 v21) fun v22 =>
 FCall Tryd.prog F_ref13_decimal #[v22] h11 fun v23 h24 =>
 J16 [v23] h24) (
 vK (binV .i .eql v15 (.int .i64 1)) fun v25 =>
 iteK v25 (
 vK (fldV 3 v1) fun v26 =>
 vK (ldV h11 v26) fun v27 =>
 FCall Tryd.prog F_ref13_decimal #[v27] h11 fun v28 h29 =>
 J16 [v28] h29) (
 vK (binV .i .eql v15 (.int .i64 2)) fun v30 =>
 iteK v30 (
 drawK h11 fun S =>
 vK (fldV 4 v1) fun v31 =>
 qK S (fun h11 => ldV h11 v31) fun v32 =>
 vK (fldV 5 v1) fun v33 =>
 qK S (fun h11 => ldV h11 v33) fun v34 =>
 FCall Tryd.prog F_ref13_list #[v32] h11 fun v35 h36 =>
 S h36 ∧ (FCall Tryd.prog F_ref13_times #[] h36 fun v37 h38 =>
 S h38 ∧ (vK (binV .s .add v35 v37) fun v39 =>
 FCall Tryd.prog F_ref13_list #[v34] h38 fun v40 h41 =>
 S h41 ∧ (vK (binV .s .add v39 v40) fun v42 =>
 J16 [v42] h41)))) (
 vK (binV .i .eql v15 (.int .i64 3)) fun v43 =>
 iteK v43 (
 vK (fldV 6 v1) fun v44 =>
 vK (ldV h11 v44) fun v45 =>
 FCall Tryd.prog F_ref13_filter #[v45] h11 fun v46 h47 =>
 vK (binV .s .eql v46 (.string ⟨#[]⟩)) fun v48 =>
 iteK v48 (
 R (.tuple #[(.string ⟨#[]⟩), (.bool false)]) h47) (
 drawK h47 fun S =>
 vK (fldV 7 v1) fun v49 =>
 qK S (fun h47 => ldV h47 v49) fun v50 =>
 vK (fldV 8 v1) fun v51 =>
 qK S (fun h47 => ldV h47 v51) fun v52 =>
 vK (fldV 6 v1) fun v53 =>
 qK S (fun h47 => ldV h47 v53) fun v54 =>
 FCall Tryd.prog F_ref13_decimal #[v50] h47 fun v55 h56 =>
 S h56 ∧ (FCall Tryd.prog F_ref13_times #[] h56 fun v57 h58 =>
 S h58 ∧ (vK (binV .s .add v55 v57) fun v59 =>
 FCall Tryd.prog F_ref13_decimal #[v52] h58 fun v60 h61 =>
 S h61 ∧ (vK (binV .s .add v59 v60) fun v62 =>
 vK (binV .s .add v62 (.string ⟨#[44]⟩)) fun v63 =>
 FCall Tryd.prog F_ref13_filter #[v54] h61 fun v64 h65 =>
 S h65 ∧ (vK (binV .s .add v63 v64) fun v66 =>
 J16 [v66] h65)))))) (
 J16 [(.string ⟨#[]⟩)] h11)))))
 fun x17 j18 h19 =>
 drawK h19 fun S =>
 vK (fldV 0 v1) fun v67 =>
 qK S (fun h19 => ldV h19 v67) fun v68 =>
 vK (fldV 1 v1) fun v69 =>
 qK S (fun h19 => ldV h19 v69) fun v70 =>
 FCall Tryd.prog F_ref13_Sign #[v68] h19 fun v71 h72 =>
 S h72 ∧ (vK (binV .s .add v71 (ix x17 0)) fun v73 =>
 vK (binV .s .add v73 (.string ⟨#[124]⟩)) fun v74 =>
 FCall Tryd.prog F_ref13_border #[v70] h72 fun v75 h76 =>
 S h76 ∧ (vK (binV .s .add v74 v75) fun v77 =>
 R (.tuple #[v77, (.bool true)]) h76)))
theorem ok_ref13_Word (H : sh_ref13_Word a0 h R) : FCall Tryd.prog F_ref13_Word #[a0] h R := fk Tryd.f11 (.s .z (.s (.s .z (.s (.s .z .z) .z)) (.s .z (.s (.s .z (.m 288230376151580700 [4] (.s .z (.s .z (.s .z (.s .z (.s .z (.s (.d (.op 0 .r (.op 1 .r (.op 5 .r (.op 6 .r (.op 2 .e (.op 3 .e (.op 4 .r (.op 7 .e (.op 8 .r (.op 9 .r .nil))))))))))) (.s .z (.s (.s (.s .z (.s (.s .z .z) .z)) (.d (.op 0 .r (.op 1 .r (.op 5 .r (.op 6 .r (.op 10 .r (.op 11 .r (.op 2 .e (.op 3 .e (.op 4 .r (.op 7 .e (.op 8 .r (.op 9 .r (.op 12 .e (.op 13 .r (.op 14 .r .nil))))))))))))))))) .z)))))))))) (.s (.d (.op 0 .r (.op 1 .r (.op 3 .r (.op 6 .r (.op 7 .r (.op 2 .e (.op 4 .r (.op 5 .r (.op 8 .e (.op 9 .r (.op 10 .r (.op 11 .r .nil))))))))))))) .z))))) H
def sh_law12_Ref (a0 : Value) (h : Heap) (R : Value → Heap → Prop) : Prop :=
 newK (Value.cells a0) 36 h fun v1 h2 =>
 newK #[(.int .i64 0), (.int .i64 0), (.int .i64 0), (.int .i64 0), (.slice none 0 0), (.slice none 0 0), (.int .i64 0), (.int .i64 0), (.int .i64 0)] 38 h2 fun v3 h4 =>
 vK (fldV 0 v1) fun v5 =>
 vK (ldV h4 v5) fun v6 =>
 vK (fldV 1 v1) fun v7 =>
 vK (ldV h4 v7) fun v8 =>
 vK (fldV 2 v1) fun v9 =>
 vK (ldV h4 v9) fun v10 =>
 vK (fldV 3 v1) fun v11 =>
 vK (ldV h4 v11) fun v12 =>
 vK (fldV 4 v1) fun v13 =>
 vK (ldV h4 v13) fun v14 =>
 vK (fldV 5 v1) fun v15 =>
 vK (ldV h4 v15) fun v16 =>
 vK (fldV 6 v1) fun v17 =>
 vK (ldV h4 v17) fun v18 =>
 vK (fldV 7 v1) fun v19 =>
 vK (ldV h4 v19) fun v20 =>
 vK (fldV 8 v1) fun v21 =>
 vK (ldV h4 v21) fun v22 =>
 vK ((fillL #[(.int .i64 0), (.int .i64 0), (.int .i64 0), (.int .i64 0), (.slice none 0 0), (.slice none 0 0), (.int .i64 0), (.int .i64 0), (.int .i64 0)] [(0, 1, v6), (1, 1, v8), (2, 1, v10), (3, 1, v12), (4, 1, v14), (5, 1, v16), (6, 1, v18), (7, 1, v20), (8, 1, v22)]).map .agg) fun v23 =>
 stK 9 v3 v23 h4 fun v24 h25 =>
 vK (ldsV 9 h25 v3) fun v26 =>
 R v26 h25
theorem ok_law12_Ref (H : sh_law12_Ref a0 h R) : FCall Tryd.prog F_law12_Ref #[a0] h R := fk Tryd.f12 (.s .z (.s .z .z)) H
def sh_recipe_Word (a0 : Value) (h : Heap) (R : Value → Heap → Prop) : Prop :=
 newK (Value.cells a0) 36 h fun v1 h2 =>
 vK (fldV 1 v1) fun v3 =>
 vK (ldV h2 v3) fun v4 =>
 FCall Tryd.prog F_border_Name #[v4] h2 fun v5 h6 =>
 vK (fldV 0 v1) fun v7 =>
 vK (ldV h6 v7) fun v8 =>
 FCall Tryd.prog F_recipe_Sign #[v8] h6 fun v9 h10 =>
 vK (binV .i .eql v9 (.int .i32 0)) fun v11 =>
 vK (gV v11 false (some v5)) fun v12 =>
 vK (gV v11 false (binV .s .eql v12 (.string ⟨#[]⟩))) fun v13 =>
 vK (pickV v11 (.bool true) v13) fun v14 =>
 vK (gV v14 false (fldV 0 v1)) fun v15 =>
 vK (gV v14 false (ldV h10 v15)) fun v16 =>
 vK (gV v14 false (binV .i .eql v16 (.int .i64 3))) fun v17 =>
 vK (gV v14 false (some v17)) fun v18 =>
 vK (gV v18 true (fldV 6 v1)) fun v19 =>
 vK (gV v18 true (ldV h10 v19)) fun v20 =>
 gK v18 true (fun k78 => FCall Tryd.prog F_raw_Name #[v20] h10 k78) h10 fun v21 h22 =>
 vK (gV v18 true (binV .s .eql v21 (.string ⟨#[]⟩))) fun v23 =>
 vK (gV v14 false (pickV v18 v23 (.bool false))) fun v24 =>
 vK (pickV v14 (.bool true) v24) fun v25 =>
 iteK v25 (
 R (.tuple #[(.string ⟨#[]⟩), (.int .i64 6)]) h22) (
 vK (fldV 0 v1) fun v26 =>
 vK (ldV h22 v26) fun v27 =>
 joinK (fun J28 =>
 vK (binV .i .eql v27 (.int .i64 0)) fun v32 =>
 iteK v32 (
 vK (fldV 2 v1) fun v33 =>
 vK (ldV h22 v33) fun v34 =>
 FCall Tryd.prog F_strconv_FormatInt #[v34, (.int .i64 10)] h22 fun v35 h36 =>
 J28 [v35] h36) (
 vK (binV .i .eql v27 (.int .i64 1)) fun v37 =>
 iteK v37 (
 vK (fldV 3 v1) fun v38 =>
 vK (ldV h22 v38) fun v39 =>
 FCall Tryd.prog F_strconv_Itoa #[v39] h22 fun v40 h41 =>
 J28 [v40] h41) (
 vK (binV .i .eql v27 (.int .i64 2)) fun v42 =>
 iteK v42 (
 drawK h22 fun S =>
 vK (fldV 4 v1) fun v43 =>
 qK S (fun h22 => ldV h22 v43) fun v44 =>
 vK (fldV 5 v1) fun v45 =>
 qK S (fun h22 => ldV h22 v45) fun v46 =>
 FCall Tryd.prog F_recipe_numbers #[v44] h22 fun v47 h48 =>
 S h48 ∧ (vK (binV .s .add v47 (.string ⟨#[195, 151]⟩)) fun v49 =>
 FCall Tryd.prog F_recipe_numbers #[v46] h48 fun v50 h51 =>
 S h51 ∧ (vK (binV .s .add v49 v50) fun v52 =>
 J28 [v52] h51))) (
 vK (binV .i .eql v27 (.int .i64 3)) fun v53 =>
 iteK v53 (
 drawK h22 fun S =>
 vK (fldV 7 v1) fun v54 =>
 qK S (fun h22 => ldV h22 v54) fun v55 =>
 vK (fldV 8 v1) fun v56 =>
 qK S (fun h22 => ldV h22 v56) fun v57 =>
 vK (fldV 6 v1) fun v58 =>
 qK S (fun h22 => ldV h22 v58) fun v59 =>
 FCall Tryd.prog F_strconv_Itoa #[v55] h22 fun v60 h61 =>
 S h61 ∧ (vK (binV .s .add v60 (.string ⟨#[195, 151]⟩)) fun v62 =>
 FCall Tryd.prog F_strconv_Itoa #[v57] h61 fun v63 h64 =>
 S h64 ∧ (vK (binV .s .add v62 v63) fun v65 =>
 vK (binV .s .add v65 (.string ⟨#[44]⟩)) fun v66 =>
 FCall Tryd.prog F_raw_Name #[v59] h64 fun v67 h68 =>
 S h68 ∧ (vK (binV .s .add v66 v67) fun v69 =>
 J28 [v69] h68)))) (
 J28 [(.string ⟨#[]⟩)] h22)))))
 fun x29 j30 h31 =>
 vK (fldV 0 v1) fun v70 =>
 vK (ldV h31 v70) fun v71 =>
 FCall Tryd.prog F_recipe_Sign #[v71] h31 fun v72 h73 =>
 vK (cvrsV v72) fun v74 =>
 vK (binV .s .add v74 (ix x29 0)) fun v75 =>
 vK (binV .s .add v75 (.string ⟨#[124]⟩)) fun v76 =>
 vK (binV .s .add v76 v5) fun v77 =>
 R (.tuple #[v77, (.int .i64 0)]) h73)
theorem ok_recipe_Word (H : sh_recipe_Word a0 h R) : FCall Tryd.prog F_recipe_Word #[a0] h R := fk Tryd.f13 (.s .z (.s .z (.s (.s .z (.s (.s .z .z) .z)) (.s .z (.s (.s .z (.m 36893488146345361440 [5] (.s .z (.s .z (.s .z (.s .z (.s .z (.s (.d (.op 0 .r (.op 1 .r (.op 4 .r (.op 5 .r (.op 2 .e (.op 3 .r (.op 6 .e (.op 7 .r (.op 8 .r .nil)))))))))) (.s .z (.s (.d (.op 0 .r (.op 1 .r (.op 4 .r (.op 5 .r (.op 9 .r (.op 10 .r (.op 2 .e (.op 3 .r (.op 6 .e (.op 7 .r (.op 8 .r (.op 11 .e (.op 12 .r (.op 13 .r .nil))))))))))))))) .z)))))))))) (.s .z .z)))))) H
def sh_recipe_Clean (a0 : Value) (h : Heap) (R : Value → Heap → Prop) : Prop :=
 newK (Value.cells a0) 36 h fun v1 h2 =>
 newK #[(.int .i64 0), (.int .i64 0), (.int .i64 0), (.int .i64 0), (.slice none 0 0), (.slice none 0 0), (.int .i64 0), (.int .i64 0), (.int .i64 0)] 36 h2 fun v3 h4 =>
 vK (fldV 0 v1) fun v5 =>
 vK (ldV h4 v5) fun v6 =>
 vK (fldV 1 v1) fun v7 =>
 vK (ldV h4 v7) fun v8 =>
 vK ((fillL #[(.int .i64 0), (.int .i64 0), (.int .i64 0), (.int .i64 0), (.slice none 0 0), (.slice none 0 0), (.int .i64 0), (.int .i64 0), (.int .i64 0)] [(0, 1, v6), (1, 1, v8)]).map .agg) fun v9 =>
 newK #[(.int .i64 0), (.int .i64 0), (.int .i64 0), (.int .i64 0), (.slice none 0 0), (.slice none 0 0), (.int .i64 0), (.int .i64 0), (.int .i64 0)] 36 h4 fun v10 h11 =>
 stK 9 v10 v9 h11 fun v12 h13 =>
 vK (fldV 0 v1) fun v14 =>
 vK (ldV h13 v14) fun v15 =>
 vK (binV .i .eql v15 (.int .i64 0)) fun v16 =>
 iteK v16 (
 vK (fldV 2 v1) fun v17 =>
 vK (ldV h13 v17) fun v18 =>
 vK (fldV 2 v10) fun v19 =>
 stK 1 v19 v18 h13 fun v20 h21 =>
 vK (ldsV 9 h21 v10) fun v22 =>
 stK 9 v3 v22 h21 fun v23 h24 =>
 vK (ldsV 9 h24 v3) fun v25 =>
 R v25 h24) (
 vK (binV .i .eql v15 (.int .i64 1)) fun v26 =>
 iteK v26 (
 vK (fldV 3 v1) fun v27 =>
 vK (ldV h13 v27) fun v28 =>
 vK (fldV 3 v10) fun v29 =>
 stK 1 v29 v28 h13 fun v30 h31 =>
 vK (ldsV 9 h31 v10) fun v32 =>
 stK 9 v3 v32 h31 fun v33 h34 =>
 vK (ldsV 9 h34 v3) fun v35 =>
 R v35 h34) (
 vK (binV .i .eql v15 (.int .i64 2)) fun v36 =>
 iteK v36 (
 drawK h13 fun S =>
 vK (fldV 4 v1) fun v37 =>
 qK S (fun h13 => ldV h13 v37) fun v38 =>
 vK (fldV 5 v1) fun v39 =>
 qK S (fun h13 => ldV h13 v39) fun v40 =>
 FCall Tryd.prog F_slices_Clone_sl_int64_int64 #[v38] h13 fun v41 h42 =>
 S h42 ∧ (vK (fldV 4 v10) fun v43 =>
 FCall Tryd.prog F_slices_Clone_sl_int64_int64 #[v40] h42 fun v44 h45 =>
 S h45 ∧ (stK 1 v43 v41 h45 fun v46 h47 =>
 vK (fldV 5 v10) fun v48 =>
 stK 1 v48 v44 h47 fun v49 h50 =>
 vK (ldsV 9 h50 v10) fun v51 =>
 stK 9 v3 v51 h50 fun v52 h53 =>
 vK (ldsV 9 h53 v3) fun v54 =>
 R v54 h53))) (
 vK (binV .i .eql v15 (.int .i64 3)) fun v55 =>
 iteK v55 (
 drawK h13 fun S =>
 vK (fldV 7 v1) fun v56 =>
 qK S (fun h13 => ldV h13 v56) fun v57 =>
 vK (fldV 8 v1) fun v58 =>
 qK S (fun h13 => ldV h13 v58) fun v59 =>
 vK (fldV 6 v1) fun v60 =>
 qK S (fun h13 => ldV h13 v60) fun v61 =>
 vK (fldV 7 v10) fun v62 =>
 stK 1 v62 v57 h13 fun v63 h64 =>
 S h64 ∧ (vK (fldV 8 v10) fun v65 =>
 stK 1 v65 v59 h64 fun v66 h67 =>
 S h67 ∧ (vK (fldV 6 v10) fun v68 =>
 stK 1 v68 v61 h67 fun v69 h70 =>
 vK (ldsV 9 h70 v10) fun v71 =>
 stK 9 v3 v71 h70 fun v72 h73 =>
 vK (ldsV 9 h73 v3) fun v74 =>
 R v74 h73))) (
 vK (ldsV 9 h13 v10) fun v75 =>
 stK 9 v3 v75 h13 fun v76 h77 =>
 vK (ldsV 9 h77 v3) fun v78 =>
 R v78 h77))))
theorem ok_recipe_Clean (H : sh_recipe_Clean a0 h R) : FCall Tryd.prog F_recipe_Clean #[a0] h R := fk Tryd.f14 (.s .z (.s .z (.s (.s .z (.s .z (.s .z (.s .z (.s .z (.s .z (.s (.d (.op 0 .r (.op 1 .r (.op 3 .r (.op 4 .r (.op 2 .e (.op 6 .r (.op 5 .e (.op 7 .n (.op 8 .r (.op 9 .n .nil))))))))))) (.s .z (.s (.d (.op 0 .r (.op 1 .r (.op 2 .r (.op 3 .r (.op 4 .r (.op 5 .r (.op 6 .r (.op 7 .e (.op 8 .r (.op 9 .e (.op 10 .r (.op 11 .n .nil))))))))))))) .z))))))))) (.s .z .z)))) H
def sh_ref13_Clean (a0 : Value) (h : Heap) (R : Value → Heap → Prop) : Prop :=
 newK (Value.cells a0) 38 h fun v1 h2 =>
 newK #[(.int .i64 0), (.int .i64 0), (.int .i64 0), (.int .i64 0), (.slice none 0 0), (.slice none 0 0), (.int .i64 0), (.int .i64 0), (.int .i64 0)] 38 h2 fun v3 h4 =>
 vK (fldV 0 v1) fun v5 =>
 vK (ldV h4 v5) fun v6 =>
 vK (fldV 1 v1) fun v7 =>
 vK (ldV h4 v7) fun v8 =>
 vK ((fillL #[(.int .i64 0), (.int .i64 0), (.int .i64 0), (.int .i64 0), (.slice none 0 0), (.slice none 0 0), (.int .i64 0), (.int .i64 0), (.int .i64 0)] [(0, 1, v6), (1, 1, v8)]).map .agg) fun v9 =>
 newK #[(.int .i64 0), (.int .i64 0), (.int .i64 0), (.int .i64 0), (.slice none 0 0), (.slice none 0 0), (.int .i64 0), (.int .i64 0), (.int .i64 0)] 38 h4 fun v10 h11 =>
 stK 9 v10 v9 h11 fun v12 h13 =>
 joinK (fun J14 =>
 vK (fldV 0 v1) fun v18 =>
 vK (ldV h13 v18) fun v19 =>
 vK (binV .i .eql v19 (.int .i64 0)) fun v20 =>
 iteK v20 (
 vK (fldV 2 v1) fun v21 =>
 vK (ldV h13 v21) fun v22 =>
 vK (fldV 2 v10) fun v23 =>
 stK 1 v23 v22 h13 fun v24 h25 =>
 J14 [] h25) (
 J14 [] h13))
 fun x15 j16 h17 =>
 joinK (fun J26 =>
 vK (fldV 0 v1) fun v30 =>
 vK (ldV h17 v30) fun v31 =>
 vK (binV .i .eql v31 (.int .i64 1)) fun v32 =>
 iteK v32 (
 vK (fldV 3 v1) fun v33 =>
 vK (ldV h17 v33) fun v34 =>
 vK (fldV 3 v10) fun v35 =>
 stK 1 v35 v34 h17 fun v36 h37 =>
 J26 [] h37) (
 J26 [] h17))
 fun x27 j28 h29 =>
 joinK (fun J38 =>
 vK (fldV 0 v1) fun v42 =>
 vK (ldV h29 v42) fun v43 =>
 vK (binV .i .eql v43 (.int .i64 2)) fun v44 =>
 iteK v44 (
 vK (fldV 4 v1) fun v45 =>
 vK (ldV h29 v45) fun v46 =>
 vK (fldV 4 v10) fun v47 =>
 stK 1 v47 v46 h29 fun v48 h49 =>
 vK (fldV 5 v1) fun v50 =>
 vK (ldV h49 v50) fun v51 =>
 vK (fldV 5 v10) fun v52 =>
 stK 1 v52 v51 h49 fun v53 h54 =>
 J38 [] h54) (
 J38 [] h29))
 fun x39 j40 h41 =>
 vK (fldV 0 v1) fun v55 =>
 vK (ldV h41 v55) fun v56 =>
 vK (binV .i .eql v56 (.int .i64 3)) fun v57 =>
 iteK v57 (
 vK (fldV 7 v1) fun v58 =>
 vK (ldV h41 v58) fun v59 =>
 vK (fldV 7 v10) fun v60 =>
 stK 1 v60 v59 h41 fun v61 h62 =>
 vK (fldV 8 v1) fun v63 =>
 vK (ldV h62 v63) fun v64 =>
 vK (fldV 8 v10) fun v65 =>
 stK 1 v65 v64 h62 fun v66 h67 =>
 vK (fldV 6 v1) fun v68 =>
 vK (ldV h67 v68) fun v69 =>
 vK (fldV 6 v10) fun v70 =>
 stK 1 v70 v69 h67 fun v71 h72 =>
 vK (ldsV 9 h72 v10) fun v73 =>
 stK 9 v3 v73 h72 fun v74 h75 =>
 vK (ldsV 9 h75 v3) fun v76 =>
 R v76 h75) (
 vK (ldsV 9 h41 v10) fun v77 =>
 stK 9 v3 v77 h41 fun v78 h79 =>
 vK (ldsV 9 h79 v3) fun v80 =>
 R v80 h79)
theorem ok_ref13_Clean (H : sh_ref13_Clean a0 h R) : FCall Tryd.prog F_ref13_Clean #[a0] h R := fk Tryd.f15 (.s .z (.s .z (.j 32256 [] (.s .z (.s .z .z)) (.j 2064384 [] (.s .z (.s .z .z)) (.j 1071644672 [] (.s .z (.s (.s .z .z) .z)) (.s (.s .z (.s (.s .z (.s .z .z)) .z)) (.s .z .z))))))) H
def sh_strings_SplitSeq (a0 a1 : Value) (h : Heap) (R : Value → Heap → Prop) : Prop :=
 FCall Tryd.prog F_strings_splitSeq #[a0, a1, (.int .i64 0)] h fun v1 h2 =>
 R v1 h2
theorem ok_strings_SplitSeq (H : sh_strings_SplitSeq a0 a1 h R) : FCall Tryd.prog F_strings_SplitSeq #[a0, a1] h R := fk Tryd.f16 (.s .z (.s .z .z)) H
def sh_recipe_read (a0 : Value) (h : Heap) (R : Value → Heap → Prop) : Prop :=
 newK #[(.int .i64 0), (.int .i64 0), (.int .i64 0), (.int .i64 0), (.slice none 0 0), (.slice none 0 0), (.int .i64 0), (.int .i64 0), (.int .i64 0)] 36 h fun v1 h2 =>
 FCall Tryd.prog F_unicode_utf8_DecodeRuneInString #[a0] h2 fun v3 h4 =>
 vK (extV v3 0) fun v5 =>
 vK (extV v3 1) fun v6 =>
 FCall Tryd.prog F_recipe_kind #[v5] h4 fun v7 h8 =>
 vK (extV v7 0) fun v9 =>
 vK (extV v7 1) fun v10 =>
 vK (slsV a0 (some v6) none) fun v11 =>
 FCall Tryd.prog F_strings_Cut #[v11, (.string ⟨#[124]⟩)] h8 fun v12 h13 =>
 vK (extV v12 0) fun v14 =>
 vK (extV v12 1) fun v15 =>
 vK (extV v12 2) fun v16 =>
 FCall Tryd.prog F_border_Named #[v15] h13 fun v17 h18 =>
 vK (extV v17 0) fun v19 =>
 vK (extV v17 1) fun v20 =>
 vK (unV .not v10) fun v21 =>
 vK (gV v21 false (some v16)) fun v22 =>
 vK (gV v21 false (unV .not v22)) fun v23 =>
 vK (pickV v21 (.bool true) v23) fun v24 =>
 vK (gV v24 false (some v20)) fun v25 =>
 vK (gV v24 false (unV .not v25)) fun v26 =>
 vK (pickV v24 (.bool true) v26) fun v27 =>
 iteK v27 (
 vK ((fillL #[(.int .i64 0), (.int .i64 0), (.int .i64 0), (.int .i64 0), (.slice none 0 0), (.slice none 0 0), (.int .i64 0), (.int .i64 0), (.int .i64 0)] []).map .agg) fun v28 =>
 stK 9 v1 v28 h18 fun v29 h30 =>
 vK (ldsV 9 h30 v1) fun v31 =>
 R (.tuple #[v31, (.bool false)]) h30) (
 vK ((fillL #[(.int .i64 0), (.int .i64 0), (.int .i64 0), (.int .i64 0), (.slice none 0 0), (.slice none 0 0), (.int .i64 0), (.int .i64 0), (.int .i64 0)] [(0, 1, v9), (1, 1, v19)]).map .agg) fun v32 =>
 newK #[(.int .i64 0), (.int .i64 0), (.int .i64 0), (.int .i64 0), (.slice none 0 0), (.slice none 0 0), (.int .i64 0), (.int .i64 0), (.int .i64 0)] 36 h18 fun v33 h34 =>
 stK 9 v33 v32 h34 fun v35 h36 =>
 FCall Tryd.prog F_strings_Cut #[v14, (.string ⟨#[195, 151]⟩)] h36 fun v37 h38 =>
 vK (extV v37 0) fun v39 =>
 vK (extV v37 1) fun v40 =>
 vK (extV v37 2) fun v41 =>
 joinK (fun J42 =>
 vK (binV .i .eql v9 (.int .i64 0)) fun v46 =>
 iteK v46 (
 FCall Tryd.prog F_recipe_one #[v14] h38 fun v47 h48 =>
 vK (fldV 2 v33) fun v49 =>
 stK 1 v49 v47 h48 fun v50 h51 =>
 J42 [] h51) (
 vK (binV .i .eql v9 (.int .i64 1)) fun v52 =>
 iteK v52 (
 FCall Tryd.prog F_recipe_one #[v14] h38 fun v53 h54 =>
 vK (fldV 3 v33) fun v55 =>
 stK 1 v55 v53 h54 fun v56 h57 =>
 J42 [] h57) (
 vK (binV .i .eql v9 (.int .i64 2)) fun v58 =>
 iteK v58 (
 FCall Tryd.prog F_recipe_list #[v39] h38 fun v59 h60 =>
 FCall Tryd.prog F_recipe_list #[v40] h60 fun v61 h62 =>
 vK (fldV 4 v33) fun v63 =>
 stK 1 v63 v59 h62 fun v64 h65 =>
 vK (fldV 5 v33) fun v66 =>
 stK 1 v66 v61 h65 fun v67 h68 =>
 J42 [] h68) (
 vK (binV .i .eql v9 (.int .i64 3)) fun v69 =>
 iteK v69 (
 FCall Tryd.prog F_strings_Cut #[v40, (.string ⟨#[44]⟩)] h38 fun v70 h71 =>
 vK (extV v70 0) fun v72 =>
 vK (extV v70 1) fun v73 =>
 vK (extV v70 2) fun v74 =>
 FCall Tryd.prog F_recipe_one #[v39] h71 fun v75 h76 =>
 FCall Tryd.prog F_recipe_one #[v72] h76 fun v77 h78 =>
 FCall Tryd.prog F_recipe_filter #[v73] h78 fun v79 h80 =>
 vK (fldV 7 v33) fun v81 =>
 stK 1 v81 v75 h80 fun v82 h83 =>
 vK (fldV 8 v33) fun v84 =>
 stK 1 v84 v77 h83 fun v85 h86 =>
 vK (fldV 6 v33) fun v87 =>
 stK 1 v87 v79 h86 fun v88 h89 =>
 J42 [] h89) (
 J42 [] h38)))))
 fun x43 j44 h45 =>
 vK (ldsV 9 h45 v33) fun v90 =>
 FCall Tryd.prog F_recipe_Word #[v90] h45 fun v91 h92 =>
 vK (extV v91 0) fun v93 =>
 vK (extV v91 1) fun v94 =>
 vK (ldsV 9 h92 v33) fun v95 =>
 vK (binV .i .eql v94 (.int .i64 0)) fun v96 =>
 vK (gV v96 true (some v93)) fun v97 =>
 vK (gV v96 true (some a0)) fun v98 =>
 vK (gV v96 true (binV .s .eql v97 v98)) fun v99 =>
 vK (pickV v96 v99 (.bool false)) fun v100 =>
 stK 9 v1 v95 h92 fun v101 h102 =>
 vK (ldsV 9 h102 v1) fun v103 =>
 R (.tuple #[v103, v100]) h102)
theorem ok_recipe_read (H : sh_recipe_read a0 h R) : FCall Tryd.prog F_recipe_read #[a0] h R := fk Tryd.f17 (.s .z (.s .z (.s .z (.s .z (.s .z (.s (.s .z (.s (.s .z .z) .z)) (.s .z (.s .z (.s (.s .z (.m 2535301200382671826698569121792 [] (.s .z (.s .z (.s .z (.s .z (.s .z (.s .z (.s .z (.s (.s .z .z) .z)))))))))) (.s .z (.s .z .z))))))))))) H
def sh_ref06_Same (a0 a1 : Value) (h : Heap) (R : Value → Heap → Prop) : Prop :=
 vK (lenslV a0) fun v1 =>
 vK (lenslV a1) fun v2 =>
 vK (binV .i .neq v1 v2) fun v3 =>
 iteK v3 (
 R (.bool false) h) (
 vK (lenslV a0) fun v4 =>
 loopK [(.int .i64 0)] h fun x5 j6 h7 again8 =>
 vK (binV .i .lss (ix x5 0) v4) fun v9 =>
 iteK v9 (
 vK (idxV 1 a0 (ix x5 0)) fun v10 =>
 vK (ldV h7 v10) fun v11 =>
 vK (idxV 1 a1 (ix x5 0)) fun v12 =>
 vK (ldV h7 v12) fun v13 =>
 vK (binV .i .neq v11 v13) fun v14 =>
 iteK v14 (
 R (.bool false) h7) (
 vK (binV .i .add (ix x5 0) (.int .i64 1)) fun v15 =>
 again8 [v15] h7)) (
 R (.bool true) h7))
theorem ok_ref06_Same (H : sh_ref06_Same a0 a1 h R) : FCall Tryd.prog F_ref06_Same #[a0, a1] h R := fk Tryd.f20 (.s .z (.s (.s .z (.s (.s .z .z) .z)) (.s (.s .z (.l 67100720 [13] (.s .z (.s (.s .z .z) (.s (.s .z (.s .z (.s (.s .z .z) .z))) .z))))) (.s .z .z)))) H
def sh_ref13_Sign (a0 : Value) (h : Heap) (R : Value → Heap → Prop) : Prop :=
 vK (binV .i .eql a0 (.int .i64 0)) fun v1 =>
 iteK v1 (
 R (.string ⟨#[207, 131]⟩) h) (
 vK (binV .i .eql a0 (.int .i64 1)) fun v2 =>
 iteK v2 (
 R (.string ⟨#[226, 150, 161]⟩) h) (
 vK (binV .i .eql a0 (.int .i64 2)) fun v3 =>
 iteK v3 (
 R (.string ⟨#[226, 138, 151]⟩) h) (
 vK (binV .i .eql a0 (.int .i64 3)) fun v4 =>
 iteK v4 (
 R (.string ⟨#[226, 134, 148]⟩) h) (
 R (.string ⟨#[]⟩) h))))
theorem ok_ref13_Sign (H : sh_ref13_Sign a0 h R) : FCall Tryd.prog F_ref13_Sign #[a0] h R := fk Tryd.f22 (.s .z (.s (.s .z (.s .z (.s (.s .z .z) (.s .z (.s (.s .z .z) (.s .z (.s (.s .z .z) (.s .z (.s (.s .z .z) .z))))))))) (.s .z .z))) H
def sh_ref13_border (a0 : Value) (h : Heap) (R : Value → Heap → Prop) : Prop :=
 vK (binV .i .eql a0 (.int .i64 0)) fun v1 =>
 iteK v1 (
 R (.string ⟨#[99, 108, 97, 109, 112]⟩) h) (
 vK (binV .i .eql a0 (.int .i64 1)) fun v2 =>
 iteK v2 (
 R (.string ⟨#[109, 105, 114, 114, 111, 114]⟩) h) (
 vK (binV .i .eql a0 (.int .i64 2)) fun v3 =>
 iteK v3 (
 R (.string ⟨#[119, 114, 97, 112]⟩) h) (
 R (.string ⟨#[]⟩) h)))
theorem ok_ref13_border (H : sh_ref13_border a0 h R) : FCall Tryd.prog F_ref13_border #[a0] h R := fk Tryd.f23 (.s .z (.s (.s .z (.s .z (.s (.s .z .z) (.s .z (.s (.s .z .z) (.s .z (.s (.s .z .z) .z))))))) (.s .z .z))) H
def sh_ref13_decimal (a0 : Value) (h : Heap) (R : Value → Heap → Prop) : Prop :=
 FCall Tryd.prog F_ref10_Decimal #[a0] h fun v1 h2 =>
 R v1 h2
theorem ok_ref13_decimal (H : sh_ref13_decimal a0 h R) : FCall Tryd.prog F_ref13_decimal #[a0] h R := fk Tryd.f24 (.s .z (.s .z .z)) H
def sh_ref13_list (a0 : Value) (h : Heap) (R : Value → Heap → Prop) : Prop :=
 vK (lenslV a0) fun v1 =>
 loopK [(.string ⟨#[]⟩), (.int .i64 0)] h fun x2 j3 h4 again5 =>
 vK (binV .i .lss (ix x2 1) v1) fun v6 =>
 iteK v6 (
 vK (idxV 1 a0 (ix x2 1)) fun v7 =>
 vK (ldV h4 v7) fun v8 =>
 vK (binV .i .gtr (ix x2 1) (.int .i64 0)) fun v9 =>
 iteK v9 (
 vK (binV .s .add (ix x2 0) (.string ⟨#[44]⟩)) fun v10 =>
 FCall Tryd.prog F_ref13_decimal #[v8] h4 fun v11 h12 =>
 vK (binV .s .add v10 v11) fun v13 =>
 vK (binV .i .add (ix x2 1) (.int .i64 1)) fun v14 =>
 again5 [v13, v14] h12) (
 FCall Tryd.prog F_ref13_decimal #[v8] h4 fun v15 h16 =>
 vK (binV .s .add (ix x2 0) v15) fun v17 =>
 vK (binV .i .add (ix x2 1) (.int .i64 1)) fun v18 =>
 again5 [v17, v18] h16)) (
 R (ix x2 0) h4)
theorem ok_ref13_list (H : sh_ref13_list a0 h R) : FCall Tryd.prog F_ref13_list #[a0] h R := fk Tryd.f25 (.s .z (.s .z (.s (.s .z (.l 4194104 [3, 8] (.s .z (.s (.s .z .z) (.s (.s .z (.s (.s .z (.s .z .z)) .z)) .z))))) (.s .z .z)))) H
def sh_ref13_times (h : Heap) (R : Value → Heap → Prop) : Prop :=
 R (.string ⟨#[195, 151]⟩) h
theorem ok_ref13_times (H : sh_ref13_times h R) : FCall Tryd.prog F_ref13_times #[] h R := fk Tryd.f26 (.s .z (.s .z .z)) H
def sh_ref13_filter (a0 : Value) (h : Heap) (R : Value → Heap → Prop) : Prop :=
 vK (binV .i .eql a0 (.int .i64 0)) fun v1 =>
 iteK v1 (
 R (.string ⟨#[98, 111, 120]⟩) h) (
 vK (binV .i .eql a0 (.int .i64 1)) fun v2 =>
 iteK v2 (
 R (.string ⟨#[99, 117, 98, 105, 99]⟩) h) (
 vK (binV .i .eql a0 (.int .i64 2)) fun v3 =>
 iteK v3 (
 R (.string ⟨#[108, 97, 110, 99, 122, 111, 115]⟩) h) (
 R (.string ⟨#[]⟩) h)))
theorem ok_ref13_filter (H : sh_ref13_filter a0 h R) : FCall Tryd.prog F_ref13_filter #[a0] h R := fk Tryd.f27 (.s .z (.s (.s .z (.s .z (.s (.s .z .z) (.s .z (.s (.s .z .z) (.s .z (.s (.s .z .z) .z))))))) (.s .z .z))) H
def sh_border_Name (a0 : Value) (h : Heap) (R : Value → Heap → Prop) : Prop :=
 vK (binV .i .lss a0 (.int .i64 0)) fun v1 =>
 vK (gV v1 false (some a0)) fun v2 =>
 vK (gV v1 false (ldV h (.pointer (some ⟨G_border_names, 0, none⟩)))) fun v3 =>
 vK (gV v1 false (lenslV v3)) fun v4 =>
 vK (gV v1 false (binV .i .geq v2 v4)) fun v5 =>
 vK (pickV v1 (.bool true) v5) fun v6 =>
 iteK v6 (
 R (.string ⟨#[]⟩) h) (
 vK (ldV h (.pointer (some ⟨G_border_names, 0, none⟩))) fun v7 =>
 vK (idxV 1 v7 a0) fun v8 =>
 vK (ldV h v8) fun v9 =>
 R v9 h)
theorem ok_border_Name (H : sh_border_Name a0 h R) : FCall Tryd.prog F_border_Name #[a0] h R := fk Tryd.f28 (.s .z (.s (.s .z (.s (.s .z .z) .z)) (.s .z .z))) H
def sh_recipe_Sign (a0 : Value) (h : Heap) (R : Value → Heap → Prop) : Prop :=
 rangeStrK (.string ⟨#[207, 131, 226, 150, 161, 226, 138, 151, 226, 134, 148]⟩) h fun v1 h2 =>
 loopK [(.int .i64 0)] h2 fun x3 j4 h5 again6 =>
 nextStrK v1 h5 fun v7 h8 =>
 vK (extV v7 0) fun v9 =>
 iteK v9 (
 vK (extV v7 2) fun v10 =>
 vK (binV .i .eql (ix x3 0) a0) fun v11 =>
 iteK v11 (
 R v10 h8) (
 vK (binV .i .add (ix x3 0) (.int .i64 1)) fun v12 =>
 again6 [v12] h8)) (
 R (.int .i32 0) h8)
theorem ok_recipe_Sign (H : sh_recipe_Sign a0 h R) : FCall Tryd.prog F_recipe_Sign #[a0] h R := fk Tryd.f29 (.s .z (.s .z (.s (.s .z (.l 65452 [3] (.s .z (.s (.s .z .z) (.s .z (.s (.s .z (.s (.s .z .z) .z)) .z)))))) (.s .z .z)))) H
def sh_raw_Name (a0 : Value) (h : Heap) (R : Value → Heap → Prop) : Prop :=
 vK (binV .i .lss a0 (.int .i64 0)) fun v1 =>
 vK (gV v1 false (some a0)) fun v2 =>
 vK (gV v1 false (binV .i .geq v2 (.int .i64 3))) fun v3 =>
 vK (pickV v1 (.bool true) v3) fun v4 =>
 iteK v4 (
 R (.string ⟨#[]⟩) h) (
 vK (idxaV 3 2 (.pointer (some ⟨G_raw_kinds, 0, none⟩)) a0) fun v5 =>
 vK (fldV 0 v5) fun v6 =>
 vK (ldV h v6) fun v7 =>
 R v7 h)
theorem ok_raw_Name (H : sh_raw_Name a0 h R) : FCall Tryd.prog F_raw_Name #[a0] h R := fk Tryd.f30 (.s .z (.s (.s .z (.s (.s .z .z) .z)) (.s .z .z))) H
def sh_recipe_numbers (a0 : Value) (h : Heap) (R : Value → Heap → Prop) : Prop :=
 vK (lenslV a0) fun v1 =>
 loopK [(.slice none 0 0), (.int .i64 0)] h fun x2 j3 h4 again5 =>
 vK (binV .i .lss (ix x2 1) v1) fun v6 =>
 iteK v6 (
 vK (idxV 1 a0 (ix x2 1)) fun v7 =>
 vK (ldV h4 v7) fun v8 =>
 FCall Tryd.prog F_strconv_FormatInt #[v8, (.int .i64 10)] h4 fun v9 h10 =>
 rowK #[(.string ⟨#[]⟩)] 9 1 [(0, 1, v9)] h10 fun v11 h12 =>
 appK (.string ⟨#[]⟩) 9 1 16 (ix x2 0) v11 h12 fun v13 h14 =>
 vK (binV .i .add (ix x2 1) (.int .i64 1)) fun v15 =>
 again5 [v13, v15] h14) (
 FCall Tryd.prog F_strings_Join #[(ix x2 0), (.string ⟨#[44]⟩)] h4 fun v16 h17 =>
 R v16 h17)
theorem ok_recipe_numbers (H : sh_recipe_numbers a0 h R) : FCall Tryd.prog F_recipe_numbers #[a0] h R := fk Tryd.f33 (.s .z (.s .z (.s (.s .z (.l 261928 [3, 8] (.s .z (.s (.s .z .z) (.s (.s .z .z) .z))))) (.s .z .z)))) H
def sh_slices_Clone_sl_int64_int64 (a0 : Value) (h : Heap) (R : Value → Heap → Prop) : Prop :=
 vK (binV .sl .eql a0 (.slice none 0 0)) fun v1 =>
 iteK v1 (
 R (.slice none 0 0) h) (
 rowK #[] 2 0 [] h fun v2 h3 =>
 appK (.int .i64 0) 2 1 8 v2 a0 h3 fun v4 h5 =>
 R v4 h5)
theorem ok_slices_Clone_sl_int64_int64 (H : sh_slices_Clone_sl_int64_int64 a0 h R) : FCall Tryd.prog F_slices_Clone_sl_int64_int64 #[a0] h R := fk Tryd.f34 (.s .z (.s (.s .z (.s (.s .z .z) .z)) (.s .z .z))) H
def sh_strings_splitSeq (a0 a1 a2 : Value) (h : Heap) (R : Value → Heap → Prop) : Prop :=
 newK (Value.cells a0) 9 h fun v1 h2 =>
 newK (Value.cells a1) 9 h2 fun v3 h4 =>
 newK (Value.cells a2) 3 h4 fun v5 h6 =>
 R (.func (.func F_strings_splitSeq_c1) #[] #[v3, v1, v5]) h6
theorem ok_strings_splitSeq (H : sh_strings_splitSeq a0 a1 a2 h R) : FCall Tryd.prog F_strings_splitSeq #[a0, a1, a2] h R := fk Tryd.f35 (.s .z (.s .z .z)) H
def sh_recipe_kind (a0 : Value) (h : Heap) (R : Value → Heap → Prop) : Prop :=
 rangeStrK (.string ⟨#[207, 131, 226, 150, 161, 226, 138, 151, 226, 134, 148]⟩) h fun v1 h2 =>
 loopK [(.int .i64 0)] h2 fun x3 j4 h5 again6 =>
 nextStrK v1 h5 fun v7 h8 =>
 vK (extV v7 0) fun v9 =>
 iteK v9 (
 vK (extV v7 2) fun v10 =>
 vK (binV .i .eql v10 a0) fun v11 =>
 iteK v11 (
 R (.tuple #[(ix x3 0), (.bool true)]) h8) (
 vK (binV .i .add (ix x3 0) (.int .i64 1)) fun v12 =>
 again6 [v12] h8)) (
 R (.tuple #[(.int .i64 0), (.bool false)]) h8)
theorem ok_recipe_kind (H : sh_recipe_kind a0 h R) : FCall Tryd.prog F_recipe_kind #[a0] h R := fk Tryd.f37 (.s .z (.s .z (.s (.s .z (.l 130908 [4] (.s .z (.s (.s .z .z) (.s .z (.s (.s .z (.s (.s .z .z) .z)) .z)))))) (.s .z .z)))) H
def sh_border_Named (a0 : Value) (h : Heap) (R : Value → Heap → Prop) : Prop :=
 vK (ldV h (.pointer (some ⟨G_border_names, 0, none⟩))) fun v1 =>
 FCall Tryd.prog F_slices_Index_sl_string_string #[v1, a0] h fun v2 h3 =>
 vK (maxV (.int .i64 0) v2) fun v4 =>
 vK (binV .i .geq v2 (.int .i64 0)) fun v5 =>
 R (.tuple #[v4, v5]) h3
theorem ok_border_Named (H : sh_border_Named a0 h R) : FCall Tryd.prog F_border_Named #[a0] h R := fk Tryd.f39 (.s .z (.s .z (.s .z .z))) H
def sh_recipe_one (a0 : Value) (h : Heap) (R : Value → Heap → Prop) : Prop :=
 FCall Tryd.prog F_strconv_ParseInt #[a0, (.int .i64 10), (.int .i64 64)] h fun v1 h2 =>
 vK (extV v1 0) fun v3 =>
 vK (extV v1 1) fun v4 =>
 R v3 h2
theorem ok_recipe_one (H : sh_recipe_one a0 h R) : FCall Tryd.prog F_recipe_one #[a0] h R := fk Tryd.f40 (.s .z (.s .z (.s .z .z))) H
def sh_recipe_filter (a0 : Value) (h : Heap) (R : Value → Heap → Prop) : Prop :=
 loopK [(.int .i64 0)] h fun x1 j2 h3 again4 =>
 FCall Tryd.prog F_raw_Name #[(ix x1 0)] h3 fun v5 h6 =>
 vK (binV .s .neq v5 (.string ⟨#[]⟩)) fun v7 =>
 iteK v7 (
 FCall Tryd.prog F_raw_Name #[(ix x1 0)] h6 fun v8 h9 =>
 vK (binV .s .eql v8 a0) fun v10 =>
 iteK v10 (
 R (ix x1 0) h9) (
 vK (binV .i .add (ix x1 0) (.int .i64 1)) fun v11 =>
 again4 [v11] h9)) (
 R (.int .i64 (-1)) h6)
theorem ok_recipe_filter (H : sh_recipe_filter a0 h R) : FCall Tryd.prog F_recipe_filter #[a0] h R := fk Tryd.f42 (.s .z (.s (.s .z (.l 16380 [3] (.s (.s .z (.s .z .z)) (.s (.s .z (.s (.s .z .z) .z)) .z)))) (.s .z .z))) H
def sh_ref10_Decimal (a0 : Value) (h : Heap) (R : Value → Heap → Prop) : Prop :=
 vK (binV .i .lss a0 (.int .i64 0)) fun v1 =>
 iteK v1 (
 vK (binV .i .add a0 (.int .i64 1)) fun v2 =>
 vK (unV .neg v2) fun v3 =>
 vK (cviV .u64 v3) fun v4 =>
 vK (binV .i .add v4 (.int .u64 1)) fun v5 =>
 FCall Tryd.prog F_ref10_positive #[v5] h fun v6 h7 =>
 vK (binV .s .add (.string ⟨#[45]⟩) v6) fun v8 =>
 R v8 h7) (
 vK (cviV .u64 a0) fun v9 =>
 FCall Tryd.prog F_ref10_positive #[v9] h fun v10 h11 =>
 R v10 h11)
theorem ok_ref10_Decimal (H : sh_ref10_Decimal a0 h R) : FCall Tryd.prog F_ref10_Decimal #[a0] h R := fk Tryd.f48 (.s .z (.s (.s .z (.s (.s .z .z) .z)) (.s .z .z))) H
def sh_slices_Index_sl_string_string (a0 a1 : Value) (h : Heap) (R : Value → Heap → Prop) : Prop :=
 vK (lenslV a0) fun v1 =>
 loopK [(.int .i64 0)] h fun x2 j3 h4 again5 =>
 vK (binV .i .lss (ix x2 0) v1) fun v6 =>
 iteK v6 (
 vK (idxV 1 a0 (ix x2 0)) fun v7 =>
 vK (ldV h4 v7) fun v8 =>
 vK (binV .s .eql a1 v8) fun v9 =>
 iteK v9 (
 R (ix x2 0) h4) (
 vK (binV .i .add (ix x2 0) (.int .i64 1)) fun v10 =>
 again5 [v10] h4)) (
 R (.int .i64 (-1)) h4)
theorem ok_slices_Index_sl_string_string (H : sh_slices_Index_sl_string_string a0 a1 h R) : FCall Tryd.prog F_slices_Index_sl_string_string #[a0, a1] h R := fk Tryd.f55 (.s .z (.s (.s .z (.l 524080 [8] (.s .z (.s (.s .z .z) (.s (.s .z (.s .z (.s (.s .z .z) .z))) .z))))) (.s .z .z))) H
def sh_ref10_positive (a0 : Value) (h : Heap) (R : Value → Heap → Prop) : Prop :=
 vK (binV .i .rem a0 (.int .u64 10)) fun v1 =>
 vK (binV .i .add (.int .u64 48) v1) fun v2 =>
 vK (cviV .u8 v2) fun v3 =>
 rowK #[(.int .u8 0)] 5 1 [(0, 1, v3)] h fun v4 h5 =>
 bsK v4 h5 fun v6 h7 =>
 loopK [a0, v6] h7 fun x8 j9 h10 again11 =>
 vK (binV .i .gtr (ix x8 0) (.int .u64 9)) fun v12 =>
 iteK v12 (
 vK (binV .i .quo (ix x8 0) (.int .u64 10)) fun v13 =>
 vK (binV .i .rem v13 (.int .u64 10)) fun v14 =>
 vK (binV .i .add (.int .u64 48) v14) fun v15 =>
 vK (cviV .u8 v15) fun v16 =>
 rowK #[(.int .u8 0)] 5 1 [(0, 1, v16)] h10 fun v17 h18 =>
 bsK v17 h18 fun v19 h20 =>
 vK (binV .s .add v19 (ix x8 1)) fun v21 =>
 again11 [v13, v21] h20) (
 R (ix x8 1) h10)
theorem ok_ref10_positive (H : sh_ref10_positive a0 h R) : FCall Tryd.prog F_ref10_positive #[a0] h R := fk Tryd.f59 (.s .z (.s .z (.s (.l 4193289 [0, 3] (.s (.s .z (.s .z .z)) (.s .z .z))) (.s .z .z)))) H
end
def borderName : Nat → ByteArray
 | 0 => ⟨#[99, 108, 97, 109, 112]⟩
 | 1 => ⟨#[109, 105, 114, 114, 111, 114]⟩
 | 2 => ⟨#[119, 114, 97, 112]⟩
 | _ => ⟨#[]⟩
def filterName : Nat → ByteArray
 | 0 => ⟨#[98, 111, 120]⟩
 | 1 => ⟨#[99, 117, 98, 105, 99]⟩
 | 2 => ⟨#[108, 97, 110, 99, 122, 111, 115]⟩
 | _ => ⟨#[]⟩
def filterReach : Nat → Int
 | 0 => 0
 | 1 => 2
 | _ => 3
def TabH (h : Heap) (name : String) (k : IntKind) (zs : List Int) : Prop := ∃ g t f, Tryd.prog.globalNamed name = some g ∧ h[g]? = some (.cells (zs.map fun z => Value.int k z).toArray t f)
theorem TabH.ext {h h' : Heap} {name : String} {k : IntKind} {zs : List Int} (H : TabH h name k zs) (e : Ext h h') : TabH h' name k zs := by
 obtain ⟨g, t, f, h1, h2⟩ := H
 exact ⟨g, t, f, h1, e.row h2⟩
theorem TabH.is {h : Heap} {name : String} {k : IntKind} {zs : List Int} (H : TabH h name k zs) (w : World) (hw : w.heap = h) : Lib.TabIs Tryd.prog w name k zs := by
 obtain ⟨g, t, f, h1, h2⟩ := H
 subst hw
 unfold Lib.TabIs World.var?
 rw [h1, Option.bind_some, h2]
theorem tabH_of {h : Heap} {name : String} {k : IntKind} {zs : List Int} {g : Nat} {t : TypeId} {cs : Array Value} (h1 : Tryd.prog.globalNamed name = some g) (h2 : (World.mk h (fun _ _ => 0) 0 default #[]).var? Tryd.prog name = some cs) (h3 : cs.toList = zs.map fun z => Value.int k z) : TabH h name k zs := by
 unfold World.var? at h2
 rw [h1, Option.bind_some] at h2
 split at h2
 ·rename_i c t f he
  cases h2
  refine ⟨g, t, f, h1, ?_⟩
  rw [← h3, Array.toArray_toList]; exact he
 ·cases h2
structure GlobB (h : Heap) : Prop where
 names : ∃ v, cellOf h ⟨G_border_names, 0, none⟩ = some v ∧ SlC 1 h v 3 [.string (borderName 0), .string (borderName 1), .string (borderName 2)]
 kinds : ∀ i, i < 3 → cellOf h ⟨G_raw_kinds, 2 * i, none⟩ = some (.string (filterName i)) ∧ cellOf h ⟨G_raw_kinds, 2 * i + 1, none⟩ = some (.int .i64 (filterReach i))
theorem GlobB.ext {h h' : Heap} (H : GlobB h) (e : Ext h h') : GlobB h' := by
 obtain ⟨⟨v, h1, h2⟩, h3⟩ := H
 exact ⟨⟨v, e.cell h1, h2.ext e⟩, fun i hi => ⟨e.cell (h3 i hi).1, e.cell (h3 i hi).2⟩⟩
structure GlobH (h : Heap) : Prop extends GlobB h where
 tab : TabH h "internal/strconv.uint64pow10" .u64 Lib.pow10Tab
theorem GlobH.ext {h h' : Heap} (H : GlobH h) (e : Ext h h') : GlobH h' := ⟨H.toGlobB.ext e, H.tab.ext e⟩
end Go.Proofs.YtolcfipmjhjeaaaDoor
