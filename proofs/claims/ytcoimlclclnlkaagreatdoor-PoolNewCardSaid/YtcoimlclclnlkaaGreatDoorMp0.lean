/- Several texts of this session, one behind the other, without what this claim does not need (put together by its program pack.py). Conditions: none. -/
import Derived.Orders
import Derived.OrdersHeld
import Derived.Deep.Quiet
import Derived.Calls
import Derived.Laws.Sem
import Derived.Laws.World
import Derived.Laws.StructEq
import Derived.LaidEql
import Derived.Tactics
import Derived.KernelRfl
import Derived.Laws.Append
import Derived.WalkKit
import Derived.ProofKit
import Derived.OpenShut
import Derived.ShutString
import Derived.ChangeOld
import Derived.Below
import Derived.Carry
import Derived.SizedLaws
import Derived.Test.YtcoimlclclnlkaaGreatDoorProg
set_option linter.unusedVariables false
set_option linter.unusedSimpArgs false
set_option maxRecDepth 100000
namespace Go.Crisp
open Go
section
abbrev Heap:=Array Obj
abbrev Env:=Nat→Value
abbrev OpSem:=Heap→(Value→Heap→Prop)→Prop
def Same (w w':World):Prop:=w'.os=w.os∧w'.tape=w.tape∧w'.output=w.output
theorem Same.refl (w:World):Same w w:=⟨rfl,rfl,rfl⟩
theorem Same.trans {a b c:World}(h:Same a b)(k:Same b c):Same a c:=⟨k.1.trans h.1,k.2.1.trans h.2.1,k.2.2.trans h.2.2⟩
def ev (ρ:Env):Operand→Value
 | .tmp t=>ρ t
 | .const v=>v
 | .global g=>.pointer (some ⟨g,0,none⟩)
 | .func f=>.func (.func f) #[] #[]
def up (ρ:Env)(d:Option Tmp)(v:Value):Env:=
 match d with
 |some d=>fun t=>match Nat.beq t d with
  |true=>v
  |false=>ρ t
 |none=>ρ
def zah (h:Heap)(a:Addr):Option Value:=
 match h[a.block]? with
 |some (.cells c _ _)=>if a.spot.isSome then none else c[a.off]?
 |_=>none
def zh5 (h:Heap)(a:Addr):Bool:=
 match h[a.block]? with
 |some (.cells _ _ (lo,hi))=>lo≤a.off&&a.off<hi
 |_=>false
def zrG (h:Heap)(a:Addr)(v:Value):Heap:=
 h.modify a.block fun
  | .cells c elem frozen=>.cells (if a.spot.isSome then c else c.setIfInBounds a.off v) elem frozen
  |o=>o
def zbu (h:Heap)(a:Addr):Nat→Nat→Option (List Value)
 |_,0=>some []
 | i,n+1=>match zah h (a.add i)with
  |some v=>match zbu h a (i+1) n with
   |some l=>some (v::l)
   |none=>none
  |none=>none
def zam:Value→Bool
 | .agg _| .tuple _=>false
 |_=>true
def zdo (h:Heap)(a:Addr):Nat→List Value→Option Heap
 |_,[]=>some h
 |i,v::l=>
  match zah h (a.add i)with
  |some _=>bif zam v&& !zh5 h (a.add i)then zdo (zrG h (a.add i) v) a (i+1) l else none
  |none=>none
inductive SE where
 |b|i
 |st (fs:List (Nat×Nat×SE))
inductive EK where
 |b|i|s|p|sl|m|f|o
 |st (fs:List (Nat×Nat×SE))
def seFs (f:TypeId→Option SE) (sz:TypeId→Option Nat):List Field→Option (List (Nat×Nat×SE))
 | []=>some []
 | fd::fs=>match f fd.type with
  |none=>none
  | some e=>match sz fd.type with
   |none=>none
   |some n=>match seFs f sz fs with
    |none=>none
    |some l=>some ((fd.offset,n,e)::l)
def flatT (P:Program)(fs:Array Field)(t:TypeId):Bool:= !P.stoodInHeld t&&(!P.eqGuardType P.depth t&&fs.toList.all fun f=>f.name != "_")
def seOf (P:Program):Nat→TypeId→Option SE
 |0,_=>none
 | d+1,t=>match P.underlying t with
  |some .bool=>some .b
  |some (.int _)=>some .i
  | some (.struct fs)=>match flatT P fs t with
   |true=>match seFs (seOf P d) (fun t=>(P.info? t).map (·.size)) fs.toList with
    |some l=>some (.st l)
    |none=>none
   |false=>none
  |_=>none
def ekOf (P:Program)(t:TypeId):EK:=
 match P.underlying t with
 |some .bool=>.b
 |some (.int _)=>.i
 |some .string=>.s
 |some (.pointer _)=>.p
 |some (.slice _)=>.sl
 |some (.map _ _)=>.m
 |some (.func _ _ _)=>.f
 |some (.struct _)=>match seOf P 4 t with
  |some (.st l)=>.st l
  |_=>.o
 |_=>.o
def seAgg:SE→Bool
 | .st _=>true
 |_=>false
mutual
def seEq:SE→Value→Value→Option Bool
 | .b,.bool a,.bool b=>some (a==b)
 | .i,.int k a,.int k' b=>if k=k' then some (a==b)else none
 | .st fs,.agg xs,.agg ys=>seEqL fs xs ys
 |_,_,_=>none
def seEqL:List (Nat×Nat×SE)→Array Value→Array Value→Option Bool
 | [],_,_=>some true
 | (o,n,e)::fs,xs,ys=>
  match(bif seAgg e then some (.agg (xs.extract o (o+n)))else xs[o]?),(bif seAgg e then some (.agg (ys.extract o (o+n)))else ys[o]?)with
  |some a,some b=>match seEq e a b with
   |some true=>seEqL fs xs ys
   |some false=>some false
   |none=>none
  |_,_=>none
end
def eqV (e:EK)(x y:Value):Option Bool:=
 match e,x,y with
 | .b,.bool a,.bool b=>some (a==b)
 | .p,.pointer none,.pointer b=>some b.isNone
 | .p,.pointer (some _),.pointer none=>some false
 | .sl,.slice none _ _,.slice b _ _=>some b.isNone
 | .sl,.slice (some _) _ _,.slice none _ _=>some false
 | .m,.map none,.map b=>some b.isNone
 | .m,.map (some _),.map none=>some false
 | .f,.nilFunc,.nilFunc=>some true
 | .f,.nilFunc,.func _ _ _=>some false
 | .f,.func _ _ _,.nilFunc=>some false
 | .st fs,.agg xs,.agg ys=>seEqL fs xs ys
 |_,_,_=>none
def flatOkB (P:Program):Bool:=true
class zeW (P:Program):Prop where
 ok:flatOkB P=true
def intV (op:BinOp)(k:IntKind)(a b:Int):Option Value:=
 match op with
 | .add=>some (.int k (k.wrap (a+b)))
 | .sub=>some (.int k (k.wrap (a-b)))
 | .mul=>some (.int k (k.wrap (a*b)))
 | .quo=>if b=0 then none else some (.int k (k.wrap (a.tdiv b)))
 | .rem=>if b=0 then none else some (.int k (a.tmod b))
 | .and=>some (.int k (k.wrap (BitVec.ofInt k.bits a&&& BitVec.ofInt k.bits b).toNat))
 | .or=>some (.int k (k.wrap (BitVec.ofInt k.bits a|||BitVec.ofInt k.bits b).toNat))
 | .xor=>some (.int k (k.wrap (BitVec.ofInt k.bits a^^^BitVec.ofInt k.bits b).toNat))
 | .andNot=>some (.int k (k.wrap (BitVec.ofInt k.bits a&&& ~~~ BitVec.ofInt k.bits b).toNat))
 | .eql=>some (.bool (a==b))
 | .neq=>some (.bool (a != b))
 | .lss=>some (.bool (a<b))
 | .leq=>some (.bool (a≤b))
 | .gtr=>some (.bool (b<a))
 | .geq=>some (.bool (b≤a))
 |_=>none
def strV (op:BinOp)(x y:ByteArray):Option Value:=
 match op with
 | .add=>if((x.size+y.size:Nat):Int)>IntKind.i64.max then none else some (.string (x++y))
 | .eql=>some (.bool (x.toList==y.toList))
 | .neq=>some (.bool !(x.toList==y.toList))
 |_=>none
def binV (e:EK)(op:BinOp)(x y:Value):Option Value:=
 match x,y with
 | .int k a,.int k' b=>
  match op with
  | .shl=>if b<0 then none else some (.int k (k.wrap (a*2^(min b.toNat k.bits))))
  | .shr=>if b<0 then none else some (.int k (a.fdiv (2^(min b.toNat k.bits))))
  |op=>if k=k' then intV op k a b else none
 | .string a,.string b=>strV op a b
 |x,y=>
  match op with
  | .eql=>(eqV e x y).map .bool
  | .neq=>(eqV e x y).map fun b=>.bool !b
  |_=>none
def unV (op:UnOp)(x:Value):Option Value:=
 match op,x with
 | .neg,.int k n=>some (.int k (k.wrap (0-n)))
 | .xor,.int k n=>some (.int k (k.wrap (BitVec.ofInt k.bits (if k.signed then-1 else k.max)^^^BitVec.ofInt k.bits n).toNat))
 | .not,.bool b=>some (.bool !b)
 |_,_=>none
def pickV (c x y:Value):Option Value:=
 match c with
 | .bool b=>some (bif b then x else y)
 |_=>none
def nilV:Value→Option Value
 | .pointer none| .nilIface| .nilFunc=>none
 | .func (.method _) _ _=>none
 |x=>some x
def ldV (h:Heap)(x:Value):Option Value:=
 match x with
 | .pointer (some a)=>zah h a
 |_=>none
def nilO:Operand→Bool
 | .const (.pointer none)=>true
 |_=>false
def zgR (h:Heap)(b:Nat):Bool:=match h[b]? with
 |some (.cells _ _ (0,0))=>true
 |_=>false
def peV (h:Heap)(op:BinOp)(x y:Value):Option Value:=
 match x,y with
 | .pointer (some a),.pointer (some b)=>match op with
  | .eql=>if a=b then some (.bool true)else if zgR h a.block&&zgR h b.block then some (.bool false)else none
  | .neq=>if a=b then some (.bool false)else if zgR h a.block&&zgR h b.block then some (.bool true)else none
  |_=>none
 |x,y=>binV .p op x y
def ldsV (n:Nat)(h:Heap)(x:Value):Option Value:=
 match x with
 | .pointer (some a)=>(zbu h a 0 n).map fun l=>.agg l.toArray
 |_=>none
def fldV (off:Nat)(x:Value):Option Value:=
 match x with
 | .pointer (some a)=>some (.pointer (some (a.add off)))
 |_=>none
def partV (agg:Bool)(size off:Nat)(x:Value):Option Value:=
 match x with
 | .agg cs=>bif agg then some (.agg (cs.extract off (off+size)))else cs[off]?
 |_=>none
def idxV (size:Nat)(x i:Value):Option Value:=
 match x,i with
 | .slice (some a) len _,.int _ i=>if 0≤i∧i<(len:Int)then some (.pointer (some (a.add (i.toNat*size))))else none
 |_,_=>none
def idxaV (len size:Nat)(x i:Value):Option Value:=
 match x,i with
 | .pointer (some a),.int _ i=>if 0≤i∧i<(len:Int)then some (.pointer (some (a.add (i.toNat*size))))else none
 |_,_=>none
def indV (x i:Value):Option Value:=
 match x,i with
 | .string s,.int _ i=>(if 0≤i then s[i.toNat]? else none).map fun b=>.int .u8 b.toNat
 |_,_=>none
def extV (x:Value)(i:Nat):Option Value:=
 match x with
 | .tuple vs=>vs[i]?
 |_=>none
def cviV (k:IntKind)(x:Value):Option Value:=
 match x with
 | .int _ n=>some (.int k (k.wrap n))
 |_=>none
def cvrsV (x:Value):Option Value:=
 match x with
 | .int _ n=>some (.string (Utf8.encode n))
 |_=>none
def zaf (x:Value):Option Value:=
 match x with
 | .slice _ n _=>some (.int .i64 n)
 |_=>none
def zq1 (x:Value):Option Value:=
 match x with
 | .string s=>some (.int .i64 s.size)
 |_=>none
def lenmV (h:Heap)(x:Value):Option Value:=
 match x with
 | .map none=>some (.int .i64 0)
 | .map (some r)=>match h[r]? with
  |some (.map es _)=>some (.int .i64 es.size)
  |_=>none
 |_=>none
def maxV (x y:Value):Option Value:=
 match x,y with
 | .int k a,.int _ b=>some (.int k (if b>a then b else a))
 |_,_=>none
def minV (x y:Value):Option Value:=
 match x,y with
 | .int k a,.int _ b=>some (.int k (if b<a then b else a))
 |_,_=>none
def max3V (x y z:Value):Option Value:=
 match maxV x y with
 |some a=>maxV a z
 |none=>none
def min3V (x y z:Value):Option Value:=
 match minV x y with
 |some a=>minV a z
 |none=>none
def bdV (x:Option Value)(d:Nat)(most:Nat):Option Nat:=
 match x with
 |none=>some d
 |some (.int _ i)=>if 0≤i∧i≤(most:Int)then some i.toNat else none
 |some _=>none
def slcV (size:Nat)(x:Value)(lo hi:Option Value):Option Value:=
 match x with
 | .slice a len cap=>match bdV hi len cap with
  |some h=>match bdV lo 0 h with
   |some l=>some (.slice (if cap=l then a else a.map (·.add (l*size))) (h-l) (cap-l))
   |none=>none
  |none=>none
 |_=>none
def slsV (x:Value)(lo hi:Option Value):Option Value:=
 match x with
 | .string s=>match bdV hi s.size s.size with
  |some h=>match bdV lo 0 h with
   |some l=>some (.string (s.extract l h))
   |none=>none
  |none=>none
 |_=>none
def vK (r:Option Value)(K:Value→Prop):Prop:=
 match r with
 |some v=>K v
 |none=>False
def tyAgg (P:Program)(t:TypeId):Option Bool:=
 (P.underlying t).map fun
  | .struct _| .array _ _=>true
  |_=>false
def zbV (P:Program)(t:TypeId):Option Nat:=(P.info? t).map (·.size)
def zkj (P:Program)(t:TypeId):Option Value:=(P.info? t).bind (·.zero)
def zei (P:Program)(t:TypeId):Option TypeDesc:=
 match P.underlying t with
 |some (.int k)=>some (.int k)
 |some .bool=>some .bool
 |some .string=>some .string
 |_=>none
def mapAt (h:Heap)(m:Value):Option (Array MapEntry×Nat):=
 match m with
 | .map (some r)=>match h[r]? with
  |some (.map es c)=>some (es,c)
  |_=>none
 |_=>none
def lookV (kd:TypeDesc)(zero:Value)(ok:Bool)(h:Heap)(m k:Value):Option Value:=
 match m with
 | .map none=>some (bif ok then .tuple #[zero,.bool false]else zero)
 | m=>match mapAt h m with
  |none=>none
  |some (es,_)=>match Instr.findNow kd k es.toList 0 with
   |some (some (_,v))=>some (bif ok then .tuple #[v,.bool true]else v)
   |some none=>some (bif ok then .tuple #[zero,.bool false]else zero)
   |none=>none
def fillL (cells:Array Value):List (Nat×Nat×Value)→Option (Array Value)
 | []=>some cells
 |(off,size,v)::rest=>
  if v.cells.size≠size||off+v.cells.size>cells.size then none
  else fillL (v.cells.zipIdx.foldl (fun cs (c,j)=>cs.setIfInBounds (off+j) c) cells) rest
def zjk (P:Program):List Field→Option (List (Nat×Nat))
 | []=>some []
 | f::fs=>match zbV P f.type with
  |none=>none
  |some s=>match zjk P fs with
   |none=>none
   |some l=>some ((f.offset,s)::l)
def placesOf (P:Program)(t:TypeId):Option (Nat→Option (Nat×Nat)):=
 match P.underlying t with
 |some (.struct fs)=>(zjk P fs.toList).map fun l=>fun i=>l[i]?
 |some (.array _ e)=>(zbV P e).map fun s=>fun i=>some (i*s,s)
 |_=>none
def zn9 (pl:Nat→Option (Nat×Nat))(ρ:Env):List (Nat×Operand)→Option (List (Nat×Nat×Value))
 | []=>some []
 | (i,x)::rest=>match pl i with
  |none=>none
  |some (o,s)=>match zn9 pl ρ rest with
   |none=>none
   |some l=>some ((o,s,ev ρ x)::l)
def roB (P:Program)(b:Builtin)(args:List Value)(ts:List TypeId)(h:Heap):Option (Option Value):=
 match b with
 | .len=>match args,ts with
  | [x],[t]=>match P.underlying t with
   |some (.slice _)=>some (zaf x)
   |some .string=>some (zq1 x)
   |some (.map _ _)=>some (lenmV h x)
   |_=>none
  |_,_=>none
 | .max=>match args with
  | [x,y]=>some (maxV x y)
  | [x,y,z]=>some (max3V x y z)
  |_=>none
 | .min=>match args with
  | [x,y]=>some (minV x y)
  | [x,y,z]=>some (min3V x y z)
  |_=>none
 |_=>none
def roV (P:Program) (ρ:Env) (op:Op) (h:Heap):Option (Option Value):=
 match op with
 | .move x| .assign x=>some (some (ev ρ x))
 | .pick c x y=>some (pickV (ev ρ c) (ev ρ x) (ev ρ y))
 | .load t x=>match tyAgg P t with
  |some false=>some (ldV h (ev ρ x))
  |some true=>match zbV P t with
   |some n=>some (ldsV n h (ev ρ x))
   |none=>none
  |none=>none
 | .nilCheck x=>some (nilV (ev ρ x))
 | .binOp op t x y _=>match ekOf P t with
  | .o=>none
  | .p=>match nilO x||nilO y with
   |true=>some (binV .p op (ev ρ x) (ev ρ y))
   | false=>match P.underlying t with
    |some (.pointer e)=>match zbV P e with
     |some (_+1)=>some (peV h op (ev ρ x) (ev ρ y))
     |_=>none
    |_=>none
  |e=>some (binV e op (ev ρ x) (ev ρ y))
 | .unOp op _ x=>some (unV op (ev ρ x))
 | .convert s d x=>match P.underlying s,P.underlying d with
  |some (.int _),some (.int k)=>some (cviV k (ev ρ x))
  |some (.int _),some .string=>some (cvrsV (ev ρ x))
  |_,_=>none
 | .slice t x lo hi none=>match P.underlying t with
  |some (.slice e)=>match zbV P e with
   |some n=>some (slcV n (ev ρ x) (lo.map (ev ρ)) (hi.map (ev ρ)))
   |none=>none
  |some .string=>some (slsV (ev ρ x) (lo.map (ev ρ)) (hi.map (ev ρ)))
  |_=>none
 | .fieldAddr s x f=>match P.underlying s with
  | some (.struct fs)=>match fs[f]? with
   |some fd=>match zbV P fd.type with
    |some 0=>none
    |some (_+1)=>some (fldV fd.offset (ev ρ x))
    |none=>none
   |none=>none
  |_=>none
 | .field t x f=>match P.underlying t with
  | some (.struct fs)=>match fs[f]? with
   |some fd=>match tyAgg P fd.type,zbV P fd.type with
    |some b,some n=>some (partV b n fd.offset (ev ρ x))
    |_,_=>none
   |none=>none
  |_=>none
 | .indexAddr t x i=>match P.underlying t with
  |some (.slice e)=>match zbV P e with
   |some n=>some (idxV n (ev ρ x) (ev ρ i))
   |none=>none
  |some (.array len e)=>match zbV P e with
   |some n=>some (idxaV len n (ev ρ x) (ev ρ i))
   |none=>none
  |_=>none
 | .index t x i=>match P.underlying t with
  |some .string=>some (indV (ev ρ x) (ev ρ i))
  |_=>none
 | .extract t i=>some (extV (ev ρ t) i)
 | .makeInterface t x=>match P.underlying t with
  |some (.interface _)=>none
  |some _=>some (some (.iface t (ev ρ x)))
  |none=>none
 | .makeFunc fn first captured=>some (some (.func fn (first.map (ev ρ)) (captured.map (ev ρ))))
 | .lookup t x k ok=>match P.underlying t with
  |some (.map kt et)=>match zei P kt,zkj P et with
   |some kd,some z=>some (lookV kd z ok h (ev ρ x) (ev ρ k))
   |_,_=>none
  |_=>none
 | .build t parts=>match zkj P t,placesOf P t with
  |some z,some pl=>match zn9 pl ρ parts.toList with
   |some l=>some ((fillL z.cells l).map .agg)
   |none=>none
  |_,_=>none
 | .call c=>match c.callee with
  | .builtin b=>roB P b (c.args.map (ev ρ)).toList c.argTypes.toList h
  |_=>none
 |_=>none
section
variable {P:Program}{ρ:Env}{w:World}
theorem zao {t:TypeId}{n:Nat}(h:zbV P t=some n):(sizeOf t).run P w=.ok n w:=by
 unfold zbV at h
 cases hi:P.info? t with
 |none=>simp[hi]at h
 |some i=>simp[hi]at h;simp[sizeOf,typeInfo,hi,h]
theorem zaC {t:TypeId}{b:Bool}(h:tyAgg P t=some b):(isAgg t).run P w=.ok b w:=by
 unfold tyAgg at h
 cases hi:P.underlying t with
 |none=>simp[hi]at h
 |some d=>
  simp only[hi,Option.map_some,Option.some.injEq]at h
  subst h
  simp only[isAgg,Sem.run_bind,run_underlying hi,Result.andThen_ok]
  cases d<;>rfl
theorem zan {t:TypeId}{z:Value}(h:zkj P t=some z):(zeroValue t).run P w=.ok z w:=by
 unfold zkj at h
 cases hi:P.info? t with
 |none=>simp[hi]at h
 |some i=>simp[hi]at h;simp[zeroValue,typeInfo,hi,h]
theorem run_load' {a:Addr}{v:Value}(h:zah w.heap a=some v):(load a).run P w=.ok v w:=by
 have:w.cell? a=some v:=h
 simp[this]
theorem zhW (a:Addr):∀(n i:Nat) (acc:Array Value) (l:List Value),zbu w.heap a i n=some l→(loadCellsFrom a i n acc).run P w=.ok (acc++l.toArray) w
 |0,i,acc,l,h=>by
  simp[zbu]at h;subst h;simp[loadCellsFrom]
 | n+1,i,acc,l,h=>by
  unfold zbu at h
  cases h1:zah w.heap (a.add i)with
  |none=>simp[h1]at h
  | some v=>
   simp only[h1]at h
   cases h2:zbu w.heap a (i+1) n with
   |none=>simp[h2]at h
   |some l'=>
    simp only[h2,Option.some.injEq]at h
    subst h
    have:=zhW a n (i+1) (acc.push v) l' h2
    simp only[loadCellsFrom,Sem.run_bind,run_load' h1,Result.andThen_ok,this]
    congr 1
    apply Array.ext'
    simp
theorem zjg {t:TypeId}{a:Addr}{v:Value}(ht:tyAgg P t=some false)(h:zah w.heap a=some v):(loadVar t a).run P w=.ok v w:=by
 simp[loadVar,zaC ht];simpa using run_load' (P:=P) h
theorem zjh {t:TypeId}{a:Addr}{n:Nat}{l:List Value}(ht:tyAgg P t=some true)(hs:zbV P t=some n)(h:zbu w.heap a 0 n=some l):
  (loadVar t a).run P w=.ok (.agg l.toArray) w:=by
 have:=zhW (P:=P) a n 0 #[] l h
 simp[loadVar,zaC ht,zao hs,loadCells,this]
theorem zo0 {t:TypeId}{b:Bool}{n off:Nat}{cs:Array Value}{v:Value}(ht:tyAgg P t=some b)(hs:zbV P t=some n)(h:partV b n off (.agg cs)=some v):
  (part t cs off).run P w=.ok v w:=by
 simp only[partV]at h
 simp only[part,Sem.run_bind,zaC ht,Result.andThen_ok]
 cases b
 ·simp at h
  simp[h]
 ·simp at h
  simp[zao hs,h]
theorem zdO {x:Value}{most n:Nat}(c:BoundsCode)(d:Nat)(h:bdV (some x) d most=some n):(Instr.sliceBound x most c).run P w=.ok n w:=by
 unfold bdV at h
 cases x<;>simp at h
 rename_i k i
 obtain⟨h1,rfl⟩:=h
 simp[Instr.sliceBound,asIntOf,h1]
theorem ziL {b:Bool}{len cap l h:Nat}{lo hi:Option Value}(hh:bdV hi len cap=some h)(hl:bdV lo 0 h=some l):
  (Instr.sliceBounds b len cap lo hi none).run P w=.ok (l,h,cap) w:=by
 unfold Instr.sliceBounds
 cases hi with
 |none=>
  simp[bdV]at hh;subst hh
  cases lo with
  |none=>simp[bdV]at hl;subst hl;simp
  |some x=>simp[zdO _ _ hl]
 |some y=>
  cases lo with
  |none=>simp[bdV]at hl;subst hl;simp[zdO _ _ hh]
  |some x=>simp[zdO _ _ hh,zdO _ _ hl]
theorem run_intV {op:BinOp}{k:IntKind}{a b:Int}{v:Value}(h:intV op k a b=some v)(hs:op≠ .shl∧op≠ .shr)(t:TypeId):
  (binOp op t (.int k a) (.int k b)).run P w=.ok v w:=by
 cases op<;>simp_all [intV,binOp,Op.intArith,Op.intDiv,Op.intBits,Op.intCmp]
theorem flat_at [zeW P]{t:TypeId}{d:Nat}{fs:Array Field}{e:SE}(hu:P.underlying t=some (.struct fs))(hd:d<5)(he:seOf P d t=some e):
  P.stoodInHeld t=false∧P.eqGuardType P.depth t=false∧∀f∈fs.toList,f.name≠ "_" :=by
 have h1:flatT P fs t=true:=by
  cases d with
  |zero=>cases he
  |succ d=>
   unfold seOf at he
   rw[hu]at he
   simp only at he
   split at he
   ·rename_i hb;exact hb
   ·cases he
 unfold flatT at h1
 simp only[Bool.and_eq_true,Bool.not_eq_true',List.all_eq_true,bne_iff_ne,ne_eq]at h1
 exact⟨h1.1,h1.2.1,h1.2.2⟩
theorem seOf_agg:∀{d:Nat} {t:TypeId} {e:SE},seOf P d t=some e→tyAgg P t=some (seAgg e)
 |0,_,_,h=>by cases h
 | d+1,t,e,h=>by
  unfold seOf at h
  unfold tyAgg
  split at h
  ·rename_i hu;cases h;rw[hu];rfl
  ·rename_i hu;cases h;rw[hu];rfl
  ·rename_i hu
   split at h
   ·split at h
    ·cases h;rw[hu];rfl
    ·cases h
   ·cases h
  ·cases h
theorem zrH [zeW P]:∀(d:Nat),d<5→∀(k:Nat),d≤k→∀(t:TypeId) (e:SE) (x y:Value) (b:Bool),seOf P d t=some e→seEq e x y=some b→(Op.equalIn k t x y).run P w=.ok b w
 |0,_,_,_,_,_,_,_,_,h,_=>by cases h
 | d + 1, hd,k,hk,t,e,x,y,b,h,hq=>by
  obtain⟨k,rfl⟩:∃m,k=m+1:=⟨k-1,by omega⟩
  have h':=h
  unfold seOf at h
  split at h
  ·rename_i hu
   cases h
   unfold seEq at hq
   split at hq<;>simp_all
   subst hq
   exact run_equalIn_bool' _ _ _ _ _ hu
  ·rename_i hu
   cases h
   unfold seEq at hq
   split at hq<;>simp_all
   obtain⟨rfl,rfl⟩:=hq
   exact run_equalIn_int _ _ _ _ _ _ _ hu
  ·rename_i fs hu
   split at h
   ·split at h
    case h_2=>cases h
    rename_i l hl
    cases h
    have hf:=flat_at hu hd h'
    unfold seEq at hq
    split at hq<;>try(simp at* ;done)
    rename_i fs' xs ys hfs
    cases hfs
    have hfo:P.fieldsOf t=fs:=by unfold Program.fieldsOf;rw[hu]
    rw[run_equalIn_struct w k t xs ys (by rw[hfo];exact hu) hf.1,hfo]
    have names:=hf.2.2
    clear hfo hu h' hf
    generalize fs.toList=gs at hl names
    induction gs generalizing l b with
    |nil=>
     simp only[seFs,Option.some.injEq]at hl
     subst hl
     simp only[seEqL,Option.some.injEq]at hq
     subst hq
     rfl
    | cons f gs ih=>
     unfold seFs at hl
     split at hl
     ·cases hl
     ·rename_i e he
      split at hl
      ·cases hl
      ·rename_i n hn
       split at hl
       ·cases hl
       ·rename_i l' hl'
        cases hl
        unfold seEqL at hq
        split at hq
        ·rename_i a b' ha hb
         have pa:=zo0 (P:=P) (w:=w) (seOf_agg he) hn (off:=f.offset) (cs:=xs) (v:=a) (by simpa[partV]using ha)
         have pb:=zo0 (P:=P) (w:=w) (seOf_agg he) hn (off:=f.offset) (cs:=ys) (v:=b') (by simpa[partV]using hb)
         have nm:=names f (List.mem_cons_self ..)
         unfold Op.eqFields
         rw[if_pos nm]
         simp only[Sem.run_bind,pa,pb,Result.andThen_ok]
         split at hq
         ·rename_i hs
          rw[zrH d (by omega) k (by omega) _ _ _ _ _ he hs]
          simp only[Result.andThen_ok,Bool.not_true,Bool.false_eq_true,if_false]
          exact ih b l' hq hl' fun g hg=>names g (List.mem_cons_of_mem _ hg)
         ·rename_i hs
          cases hq
          rw[zrH d (by omega) k (by omega) _ _ _ _ _ he hs]
          rfl
         ·cases hq
        ·cases hq
   ·cases h
  ·cases h
theorem eqV_shape {e:EK}{x y:Value}{b:Bool}(hs:∀fs,e≠ .st fs)(h:eqV e x y=some b):(∀c,x≠ .agg c)∧x≠ .nilIface:=by
 unfold eqV at h
 split at h<;>simp_all
theorem zf3 {op:BinOp}{t:TypeId}{x y:Value}(x' y':Operand)(h:(∀c,x≠ .agg c)∧x≠ .nilIface):(eqGuard op t x' y' x y).run P w=.ok () w:=by
 unfold eqGuard
 cases op<;>(try rfl)<;>(simp only[Bool.not_true,Bool.false_eq_true,if_false];cases x<;>first|rfl|simp_all)
theorem run_eqV {e:EK}{t:TypeId}{x y:Value}{b:Bool}(he:ekOf P t=e)(ho:e≠ .o)(hs:∀fs,e≠ .st fs)(h:eqV e x y=some b):(Op.equal t x y).run P w=.ok b w:=by
 unfold ekOf at he
 cases hu:P.underlying t with
 |none=>simp[hu]at he;exact absurd he.symm ho
 | some d=>
  simp only[hu]at he
  unfold Op.equal Op.maxDepth
  rw[show(10000:Nat)=9999+1 from rfl]
  unfold Op.equalIn
  simp only[Sem.run_bind,run_underlying hu,Result.andThen_ok]
  cases d with
  |struct fs=>
   exfalso
   simp only at he
   split at he
   ·exact hs _ he.symm
   ·exact ho he.symm
  |_=>
   simp only at he
   subst he
   first
   |exact absurd rfl ho
   |(unfold eqV at h;split at h<;>simp_all)
theorem zo1 {e:EK}{op:BinOp}{t:TypeId}{x y v:Value}{b:Bool}(he:ekOf P t=e)(ho:e≠ .o)(hs:∀fs,e≠ .st fs)(hq:eqV e x y=some b)
  (h:op=.eql∧v=.bool b∨op=.neq∧v=.bool !b):(binOp op t x y).run P w=.ok v w:=by
 have hr:=run_eqV (P:=P) (w:=w) he ho hs hq
 unfold eqV at hq
 rcases h with⟨rfl,rfl⟩|⟨rfl,rfl⟩
 all_goals(split at hq<;>simp_all [binOp])
theorem run_stEq [zeW P]{l:List (Nat×Nat×SE)}{op:BinOp}{t:TypeId}{x y v:Value}{b:Bool}(he:ekOf P t=.st l)(hq:eqV (.st l) x y=some b)
  (h:op=.eql∧v=.bool b∨op=.neq∧v=.bool !b) (x' y':Operand):(do eqGuard op t x' y' x y;binOp op t x y:Sem Value).run P w=.ok v w:=by
 have hu:∃fs,P.underlying t=some (.struct fs)∧seOf P 4 t=some (.st l):=by
  unfold ekOf at he
  split at he<;>first|(cases he;done)|skip
  rename_i fs hu
  split at he
  ·rename_i l' hl;cases he;exact⟨fs,hu,hl⟩
  ·cases he
 obtain⟨fs,hu,hl⟩:=hu
 unfold eqV at hq
 split at hq<;>first|(cases hq;done)|skip
 all_goals first|(rename_i xs ys h0;cases h0)|(rename_i h0 _ _;cases h0;done)|skip
 rename_i xs ys h0
 have hse:seEq (.st l) (.agg xs) (.agg ys)=some b:=by unfold seEq;exact hq
 have hrun:=zrH (P:=P) (w:=w) 4 (by omega) 10000 (by omega) t _ _ _ _ hl hse
 have hg:=(flat_at hu (by omega) hl).2.1
 simp only[Sem.run_bind,run_eqGuard_agg w op t x' y' xs ys hg,Result.andThen_ok]
 rcases h with⟨rfl,rfl⟩|⟨rfl,rfl⟩
 ·rw[run_eql_struct,hrun];rfl
 ·rw[run_neq_struct,hrun];rfl
theorem zrK [zeW P]{e:EK}{op:BinOp}{t:TypeId}{x y v:Value}(he:ekOf P t=e)(ho:e≠ .o)(h:binV e op x y=some v)(x' y':Operand):
  (do eqGuard op t x' y' x y;binOp op t x y:Sem Value).run P w=.ok v w:=by
 unfold binV at h
 split at h
 ·rename_i k a k' b
  simp only[Sem.run_bind,zf3 x' y' (x:=.int k a) (by simp),Result.andThen_ok]
  split at h
  ·split at h
   ·cases h
   ·rename_i hb;simp only[Option.some.injEq]at h;subst h;simp[binOp,Op.shift,hb]
  ·split at h
   ·cases h
   ·rename_i hb;simp only[Option.some.injEq]at h;subst h;simp[binOp,Op.shift,hb]
  ·rename_i h1 h2
   split at h
   ·rename_i hk;subst hk
    exact run_intV h ⟨h1,h2⟩ t
   ·cases h
 ·rename_i a b
  simp only[Sem.run_bind,zf3 x' y' (x:=.string a) (by simp),Result.andThen_ok]
  unfold strV at h
  cases op<;>simp_all [binOp,Op.stringOp]
 ·split at h
  ·cases hq:eqV e x y with
   |none=>simp[hq]at h
   | some b=>
    simp[hq]at h;subst h
    by_cases hst:∃fs,e=.st fs
    ·obtain⟨l,rfl⟩:=hst
     exact run_stEq he hq (.inl ⟨rfl,rfl⟩) x' y'
    ·have hs:∀fs,e≠ .st fs:=fun fs h=>hst ⟨fs,h⟩
     simp only[Sem.run_bind,zf3 x' y' (eqV_shape hs hq),Result.andThen_ok]
     exact zo1 he ho hs hq (.inl ⟨rfl,rfl⟩)
  ·cases hq:eqV e x y with
   |none=>simp[hq]at h
   | some b=>
    simp[hq]at h;subst h
    by_cases hst:∃fs,e=.st fs
    ·obtain⟨l,rfl⟩:=hst
     exact run_stEq he hq (.inr ⟨rfl,rfl⟩) x' y'
    ·have hs:∀fs,e≠ .st fs:=fun fs h=>hst ⟨fs,h⟩
     simp only[Sem.run_bind,zf3 x' y' (eqV_shape hs hq),Result.andThen_ok]
     exact zo1 he ho hs hq (.inr ⟨rfl,rfl⟩)
  ·cases h
theorem zdC {e:Bool}{kt:TypeId}{kd:TypeDesc}{k:Value}(hk:zei P kt=some kd)(n:Nat):(Instr.checkKey e (n+1) kt k).run P w=.ok () w:=by
 unfold zei at hk
 cases hu:P.underlying kt with
 |none=>simp[hu]at hk
 |some d=>
  simp only[hu]at hk
  simp only[Instr.checkKey,Sem.run_bind,run_underlying hu,Result.andThen_ok]
  cases d<;>simp at hk<;>rfl
theorem sameNow_desc {P:Program}{kt:TypeId}{kd:TypeDesc}(hk:zei P kt=some kd):P.underlying kt=some kd:=by
 unfold zei at hk
 cases hu:P.underlying kt with
 |none=>simp[hu]at hk
 |some d=>cases d<;>simp_all
theorem zcQ {kt:TypeId}{kd:TypeDesc}{k:Value}{es:List MapEntry}{r:Option (Nat×Value)}(hk:zei P kt=some kd)(h:Instr.findNow kd k es 0=some r):
  (Instr.findKey kt k es).run P w=.ok r w:=by
 simp[Instr.findKey,run_underlying (sameNow_desc hk),h]
theorem zc2 {m:Nat}{es:Array MapEntry}{c:Nat}(h:w.heap[m]? =some (.map es c)):(getObj m).run P w=.ok (.map es c) w:=by
 simp[getObj,Sem.run,h]
theorem run_lookV {t kt et:TypeId} {kd:TypeDesc} {z:Value} {ok:Bool} {m k v:Value} (ht:P.underlying t=some (.map kt et)) (hk:zei P kt=some kd) (hz:zkj P et=some z)
  (h:lookV kd z ok w.heap m k=some v):(Instr.lookup t m k ok).run P w=.ok v w:=by
 unfold lookV at h
 split at h
 ·simp only[Option.some.injEq]at h
  subst h
  simp only[Instr.lookup,Sem.run_bind,run_underlying ht,Result.andThen_ok,Sem.run_pure]
  rw[show(10000:Nat)=9999+1 from rfl,zdC hk]
  simp only[Result.andThen_ok]
  rw[zcQ hk (r:=none) (by simp[Instr.findNow])]
  simp only[Result.andThen_ok,Sem.run_bind,zan hz,Sem.run_pure]
  cases ok<;>rfl
 ·rename_i hm
  cases hq:mapAt w.heap m with
  |none=>simp[hq]at h
  | some p=>
   obtain⟨es,c⟩:=p
   simp only[hq]at h
   unfold mapAt at hq
   cases m with
   | map r=>
    cases r with
    |none=>simp at hq
    | some r=>
     simp only at hq
     cases hh:w.heap[r]? with
     |none=>simp[hh]at hq
     | some o=>
      cases o<;>simp[hh]at hq
      obtain⟨rfl,rfl⟩:=hq
      simp only[Instr.lookup,Sem.run_bind,run_underlying ht,Result.andThen_ok,zc2 hh,Sem.run_pure]
      rw[show(10000:Nat)=9999+1 from rfl,zdC hk]
      simp only[Result.andThen_ok]
      cases hf:Instr.findNow kd k _ 0 with
      |none=>rw[hf]at h;cases h
      | some q=>
       rw[hf]at h
       rw[zcQ hk hf]
       cases q with
       |none=>
        simp only[Option.some.injEq]at h;subst h
        simp only[Result.andThen_ok,Sem.run_bind,zan hz,Sem.run_pure]
        cases ok<;>rfl
       |some q=>
        obtain⟨i,u⟩:=q
        simp only[Option.some.injEq]at h;subst h
        simp only[Result.andThen_ok]
        cases ok<;>rfl
   |_=>simp at hq
theorem fill_eq {pl:Nat→Option (Nat×Nat)}{ρ:Env}:∀(ps:List (Nat×Operand)) (l:List (Nat×Nat×Value)) (cells out:Array Value),zn9 pl ρ ps=some l→fillL cells l=some out→
  Instr.fill pl cells (ps.map fun(i,x)=>(i,ev ρ x))=some out
 | [],l,cells,out,h,h'=>by simp[zn9]at h;subst h;simpa[fillL,Instr.fill]using h'
 | (i,x)::ps,l,cells,out,h,h'=>by
  unfold zn9 at h
  cases hp:pl i with
  |none=>simp[hp]at h
  | some p=>
   obtain⟨o,s⟩:=p
   simp only[hp]at h
   cases hq:zn9 pl ρ ps with
   |none=>simp[hq]at h
   | some l'=>
    simp only[hq,Option.some.injEq]at h
    subst h
    simp only[fillL]at h'
    simp only[List.map_cons,Instr.fill,hp]
    split at h'
    ·cases h'
    ·rename_i hc
     rw[if_neg hc]
     exact fill_eq ps l' _ out hq h'
theorem run_fieldAt {s f off:Nat}{x v:Value}{fs:Array Field}{fd:Field}{n:Nat}(hs:P.underlying s=some (.struct fs))(hf:fs[f]? =some fd)(hn:zbV P fd.type=some (n+1))(ho:fd.offset=off)
  (h:fldV off x=some v):(Instr.fieldAt s x f).run P w=.ok v w:=by
 unfold fldV at h
 split at h
 ·rename_i a
  simp only[Option.some.injEq]at h
  subst h;subst ho
  simp[Instr.fieldAt,run_underlying hs,hf,Instr.sureAddr,fieldPlace,zao hn]
 ·cases h
theorem zrJ {x y v:Value}(h:maxV x y=some v):(Builtin.max2 x y).run P w=.ok v w:=by
 unfold maxV at h
 split at h
 ·simp only[Option.some.injEq]at h;subst h;simp[Builtin.max2]
 ·cases h
theorem zrI {x y v:Value}(h:minV x y=some v):(Builtin.min2 x y).run P w=.ok v w:=by
 unfold minV at h
 split at h
 ·simp only[Option.some.injEq]at h;subst h;simp[Builtin.min2]
 ·cases h
theorem zmW {t e n:Nat}{x v:Value}{lo hi:Option Value}(ht:P.underlying t=some (.slice e))(hn:zbV P e=some n)(h:slcV n x lo hi=some v):
  (Instr.sliceAt t x lo hi none).run P w=.ok v w:=by
 unfold slcV at h
 split at h
 ·rename_i a len cap
  split at h
  ·rename_i hh h1
   split at h
   ·rename_i l h2
    simp only[Option.some.injEq]at h;subst h
    simp[Instr.sliceAt,Instr.slice,run_underlying ht,ziL h1 h2,zao hn]
   ·cases h
  ·cases h
 ·cases h
theorem zl9 {t:Nat}{x v:Value}{lo hi:Option Value}(ht:P.underlying t=some .string)(h:slsV x lo hi=some v):
  (Instr.sliceAt t x lo hi none).run P w=.ok v w:=by
 unfold slsV at h
 split at h
 ·rename_i s
  split at h
  ·rename_i hh h1
   split at h
   ·rename_i l h2
    simp only[Option.some.injEq]at h;subst h
    simp[Instr.sliceAt,Instr.slice,run_underlying ht,ziL h1 h2]
   ·cases h
  ·cases h
 ·cases h
theorem zmX {t e n:Nat}{x i v:Value}(ht:P.underlying t=some (.slice e))(hn:zbV P e=some n)(h:idxV n x i=some v):
  (Instr.indexAt t x i).run P w=.ok v w:=by
 unfold idxV at h
 split at h
 ·rename_i a len _ k j
  split at h
  ·rename_i hb
   simp only[Option.some.injEq]at h;subst h
   simp[Instr.indexAt,asIntOf,run_underlying ht,hb,zao hn]
  ·cases h
 ·cases h
theorem zmY {t e n len:Nat}{x i v:Value}(ht:P.underlying t=some (.array len e))(hn:zbV P e=some n)(h:idxaV len n x i=some v):
  (Instr.indexAt t x i).run P w=.ok v w:=by
 unfold idxaV at h
 split at h
 ·rename_i a k j
  split at h
  ·rename_i hb
   simp only[Option.some.injEq]at h;subst h
   simp[Instr.indexAt,asIntOf,run_underlying ht,Instr.sureAddr,hb,zao hn]
  ·cases h
 ·cases h
theorem zoj {t:Nat}{x i v:Value}(ht:P.underlying t=some .string)(h:indV x i=some v):(Instr.index t x i).run P w=.ok v w:=by
 unfold indV at h
 split at h
 ·rename_i s k j
  cases hb:(if 0≤j then s[j.toNat]? else none)with
  |none=>simp[hb]at h
  |some b=>
   simp[hb]at h;subst h
   simp[Instr.index,asIntOf,run_underlying ht,hb]
 ·cases h
theorem zn8:∀(fs:List Field) (l:List (Nat×Nat)),zjk P fs=some l→(fs.mapM fun f=>do pure (f.offset,←sizeOf f.type):Sem (List (Nat×Nat))).run P w=.ok l w
 | [],l,h=>by simp[zjk]at h;subst h;rfl
 | f::fs,l,h=>by
  unfold zjk at h
  cases h1:zbV P f.type with
  |none=>simp[h1]at h
  | some s=>
   simp only[h1]at h
   cases h2:zjk P fs with
   |none=>simp[h2]at h
   |some l'=>
    simp only[h2,Option.some.injEq]at h
    subst h
    simp only[List.mapM_cons,Sem.run_bind,zao h1,Result.andThen_ok,Sem.run_pure,zn8 fs l' h2]
theorem run_placesL {fs:Array Field}{l:List (Nat×Nat)}(h:zjk P fs.toList=some l):(fs.mapM fun f=>do pure (f.offset,←sizeOf f.type):Sem (Array (Nat×Nat))).run P w=.ok l.toArray w:=by
 rw[Array.mapM_eq_mapM_toList,Sem.run_map,zn8 fs.toList l h]
 rfl
theorem roB_sound {b:Builtin}{args:List Value}{ts:Array TypeId}{ty:TypeId}{cs:Array Bool}{v:Value}(hr:roB P b args ts.toList w.heap=some (some v)):(builtin b ts ty cs args.toArray).run P w=.ok (.value v) w:=by
 unfold roB at hr
 split at hr
 ·split at hr
  ·rename_i x t hts
   obtain rfl:ts=#[t]:=by apply Array.ext';simpa using hts
   split at hr
   ·rename_i e ht
    simp only[Option.some.injEq]at hr
    unfold zaf at hr
    split at hr
    ·simp only[Option.some.injEq]at hr;subst hr
     simp[builtin,Builtin.len_,run_underlying ht,goInt]
    ·cases hr
   ·rename_i ht
    simp only[Option.some.injEq]at hr
    unfold zq1 at hr
    split at hr
    ·simp only[Option.some.injEq]at hr;subst hr
     simp[builtin,Builtin.len_,run_underlying ht,goInt]
    ·cases hr
   ·rename_i ht
    simp only[Option.some.injEq]at hr
    unfold lenmV at hr
    split at hr
    ·simp at hr;subst hr
     simp[builtin,Builtin.len_,run_underlying ht,goInt]
    ·split at hr
     ·rename_i hm
      simp at hr;subst hr
      simp[builtin,Builtin.len_,run_underlying ht,goInt,zc2 hm]
     ·cases hr
    ·cases hr
   ·cases hr
  ·cases hr
 ·split at hr
  ·simp only[Option.some.injEq]at hr
   simp[builtin,Builtin.max_,zrJ hr]
  ·rename_i x y z
   simp only[Option.some.injEq]at hr
   unfold max3V at hr
   split at hr
   ·rename_i a ha
    simp[builtin,Builtin.max_,zrJ ha,zrJ hr]
   ·cases hr
  ·cases hr
 ·split at hr
  ·simp only[Option.some.injEq]at hr
   simp[builtin,Builtin.min_,zrI hr]
  ·rename_i x y z
   simp only[Option.some.injEq]at hr
   unfold min3V at hr
   split at hr
   ·rename_i a ha
    simp[builtin,Builtin.min_,zrI ha,zrI hr]
   ·cases hr
  ·cases hr
 ·cases hr
theorem zo9 {h:Heap}{b:Nat}(H:zgR h b=true):∃c t,h[b]? =some (.cells c t (0,0)):=by
 unfold zgR at H
 split at H
 ·rename_i c t hb;exact⟨c,t,hb⟩
 ·cases H
theorem run_peV [zeW P]{op:BinOp}{t e:TypeId}{n:Nat}{x y v:Value}(he:ekOf P t=.p)(hu:P.underlying t=some (.pointer e))(hn:zbV P e=some (n+1))(h:peV w.heap op x y=some v)(x' y':Operand):
  (do eqGuard op t x' y' x y;binOp op t x y:Sem Value).run P w=.ok v w:=by
 unfold peV at h
 split at h
 ·rename_i a b
  have hi:∃j,P.info? e=some j∧j.size≠0:=by
   unfold zbV at hn
   cases hj:P.info? e with
   |none=>rw[hj]at hn;cases hn
   |some j=>rw[hj]at hn;simp only[Option.map_some,Option.some.injEq]at hn;exact⟨j,rfl,by omega⟩
  obtain⟨j,hj,hsz⟩:=hi
  have same:∀d:Nat,(Op.equalIn (d+1) t (.pointer (some a)) (.pointer (some a))).run P w=.ok true w:=fun d=>by
   simp[Op.equalIn,run_underlying hu,sizeOf,typeInfo,hj,run_sameAddr_same]
  have other:∀(hne:a≠b),(zgR w.heap a.block&&zgR w.heap b.block)=true→∀d:Nat,(Op.equalIn (d+1) t (.pointer (some a)) (.pointer (some b))).run P w=.ok false w:=fun hne hpl d=>by
   rw[Bool.and_eq_true]at hpl
   obtain⟨ca,ta,ha⟩:=zo9 hpl.1
   obtain⟨cb,tb,hb⟩:=zo9 hpl.2
   simp[Op.equalIn,run_underlying hu,sizeOf,typeInfo,hj,hsz,run_sameAddr_other w hne ha hb]
  simp only[Sem.run_bind,zf3 x' y' (show(∀c,Value.pointer (some a)≠ .agg c)∧Value.pointer (some a)≠ .nilIface from⟨by simp,by simp⟩),Result.andThen_ok]
  split at h
  ·split at h
   ·rename_i hab;subst hab;cases h;simp only[binOp];simp[Op.equal,Op.maxDepth,same 9999]
   ·rename_i hab
    split at h
    ·rename_i hpl;cases h;simp only[binOp];simp[Op.equal,Op.maxDepth,other hab hpl 9999]
    ·cases h
  ·split at h
   ·rename_i hab;subst hab;cases h;simp only[binOp];simp[Op.equal,Op.maxDepth,same 9999]
   ·rename_i hab
    split at h
    ·rename_i hpl;cases h;simp only[binOp];simp[Op.equal,Op.maxDepth,other hab hpl 9999]
    ·cases h
  ·cases h
 ·exact zrK (P:=P) (w:=w) (t:=t) he (by intro h;cases h) h x' y'
theorem zjj [zeW P] {op:Op} {r:Option Value} {v:Value} (o:Oper) (ho:o.op=op) (hr:roV P ρ op w.heap=some r) (hv:r=some v):(execOp (ev ρ) o).run P w=.ok (.value v) w:=by
 subst hv
 unfold roV at hr
 split at hr
 case h_1|h_2=>simp at hr;subst hr;simp[execOp,ho]
 case h_3=>
  simp at hr
  unfold pickV at hr
  split at hr<;>simp at hr
  rename_i c b hc
  subst hr
  simp only[execOp,ho,hc,asBool]
  cases b<;>simp
 case h_4 t x=>
  split at hr
  ·rename_i ht
   simp only[Option.some.injEq]at hr
   unfold ldV at hr
   split at hr
   ·rename_i a hx
    simp[execOp,ho,Instr.loadAt,hx,Instr.sureAddr,zjg ht hr]
   ·cases hr
  ·rename_i ht
   split at hr
   ·rename_i n hn
    simp only[Option.some.injEq]at hr
    unfold ldsV at hr
    split at hr
    ·rename_i a hx
     cases hl:zbu w.heap a 0 n with
     |none=>simp[hl]at hr
     |some l=>
      simp[hl]at hr;subst hr
      simp[execOp,ho,Instr.loadAt,hx,Instr.sureAddr,zjh ht hn hl]
    ·cases hr
   ·cases hr
  ·cases hr
 case h_5 x=>
  simp only[Option.some.injEq]at hr
  unfold nilV at hr
  simp only[execOp,ho]
  split at hr
  ·cases hr
  ·cases hr
  ·cases hr
  ·cases hr
  ·simp only[Option.some.injEq]at hr
   subst hr
   split<;>simp_all
 case h_6 op t x y _=>
  split at hr
  ·cases hr
  ·rename_i hp
   split at hr
   ·simp only[Option.some.injEq]at hr
    have:=zrK (P:=P) (w:=w) (t:=t) hp (by intro h;cases h) hr x y
    simp only[execOp,ho]
    simp only[Sem.run_bind]at this ⊢
    rw[this];rfl
   ·split at hr
    ·rename_i e hu
     split at hr
     ·rename_i n hn
      simp only[Option.some.injEq]at hr
      have:=run_peV (P:=P) (w:=w) hp hu hn hr x y
      simp only[execOp,ho]
      simp only[Sem.run_bind]at this ⊢
      rw[this];rfl
     ·cases hr
    ·cases hr
  ·rename_i e he _
   simp only[Option.some.injEq]at hr
   have:=zrK (P:=P) (w:=w) (t:=t) rfl he hr x y
   simp only[execOp,ho]
   simp only[Sem.run_bind]at this ⊢
   rw[this];rfl
 case h_7 op t x=>
  simp only[Option.some.injEq]at hr
  unfold unV at hr
  split at hr<;>simp at hr
  all_goals(rename_i hx;subst hr;simp[execOp,ho,hx,Op.unary,Op.intArith,Op.intBits])
 case h_8 s d x=>
  split at hr
  ·rename_i h1 h2
   simp only[Option.some.injEq]at hr
   unfold cviV at hr
   split at hr<;>simp at hr
   rename_i hx;subst hr
   simp[execOp,ho,hx,convert,run_underlying h1,run_underlying h2,Conv.intToInt]
  ·rename_i h1 h2
   simp only[Option.some.injEq]at hr
   unfold cvrsV at hr
   split at hr<;>simp at hr
   rename_i hx;subst hr
   simp[execOp,ho,hx,convert,run_underlying h1,run_underlying h2,Conv.intToString]
  ·cases hr
 case h_9 t x lo hi=>
  simp only[execOp,ho]
  split at hr
  ·rename_i e ht
   split at hr
   ·rename_i n hn
    simp only[Option.some.injEq]at hr
    have:=zmW (P:=P) (w:=w) ht hn hr
    simp[this]
   ·cases hr
  ·rename_i ht
   simp only[Option.some.injEq]at hr
   have:=zl9 (P:=P) (w:=w) ht hr
   simp[this]
  ·cases hr
 case h_10 s x f=>
  split at hr
  ·rename_i fs hs
   split at hr
   ·rename_i fd hf
    split at hr
    ·cases hr
    ·rename_i n hn
     simp only[Option.some.injEq]at hr
     have:=run_fieldAt (P:=P) (w:=w) hs hf hn rfl hr
     simp[execOp,ho,this]
    ·cases hr
   ·cases hr
  ·cases hr
 case h_11 t x f=>
  split at hr
  ·rename_i fs hs
   split at hr
   ·rename_i fd hf
    split at hr
    ·rename_i b n hb hn
     simp only[Option.some.injEq]at hr
     have hr':=hr
     unfold partV at hr
     split at hr
     ·rename_i cs hx
      rw[hx]at hr'
      have:=zo0 (P:=P) (w:=w) hb hn hr'
      simp[execOp,ho,hx,Instr.field,run_underlying hs,hf,asAgg,this]
     ·cases hr
    ·cases hr
   ·cases hr
  ·cases hr
 case h_12 t x i=>
  simp only[execOp,ho]
  split at hr
  ·rename_i e ht
   split at hr
   ·rename_i n hn
    simp only[Option.some.injEq]at hr
    simp[zmX (P:=P) (w:=w) ht hn hr]
   ·cases hr
  ·rename_i len e ht
   split at hr
   ·rename_i n hn
    simp only[Option.some.injEq]at hr
    simp[zmY (P:=P) (w:=w) ht hn hr]
   ·cases hr
  ·cases hr
 case h_13 t x i=>
  split at hr
  ·rename_i ht
   simp only[Option.some.injEq]at hr
   simp[execOp,ho,zoj (P:=P) (w:=w) ht hr]
  ·cases hr
 case h_14 t i=>
  simp only[Option.some.injEq]at hr
  unfold extV at hr
  split at hr
  ·rename_i vs hx
   simp[execOp,ho,hx,Instr.extract,hr]
  ·cases hr
 case h_15 t x=>
  split at hr
  ·cases hr
  ·rename_i d hd _
   simp only[Option.some.injEq]at hr
   subst hr
   simp only[execOp,ho,Instr.makeInterface,Sem.run_bind]
   rename_i hq
   simp only[run_underlying hq,Result.andThen_ok]
   rfl
  ·cases hr
 case h_16 fn first captured=>
  simp only[Option.some.injEq]at hr
  subst hr
  simp[execOp,ho,Instr.makeFunc]
 case h_17 t x k ok=>
  split at hr
  ·rename_i kt et ht
   split at hr
   ·rename_i kd z hk hz
    simp only[Option.some.injEq]at hr
    simp[execOp,ho,run_lookV (P:=P) (w:=w) ht hk hz hr]
   ·cases hr
  ·cases hr
 case h_18 t parts=>
  split at hr
  ·rename_i z pl hz hp
   split at hr
   ·rename_i l hl
    simp only[Option.some.injEq]at hr
    cases hf:fillL z.cells l with
    |none=>simp[hf]at hr
    | some cs=>
     simp[hf]at hr;subst hr
     have hfill:=fill_eq _ _ _ _ hl hf
     rw[←Array.toList_map]at hfill
     unfold placesOf at hp
     simp only[execOp,ho,Instr.build,Sem.run_bind,zan hz,Result.andThen_ok,Sem.run_pure]
     cases hu:P.underlying t with
     |none=>simp[hu]at hp
     | some d=>
      rw[run_underlying hu]
      simp only[hu]at hp
      cases d with
      | struct fs=>
       simp only at hp
       cases hq:zjk P fs.toList with
       |none=>simp[hq]at hp
       |some l'=>
        simp only[hq,Option.map_some,Option.some.injEq]at hp
        subst hp
        simp only[Result.andThen_ok,Sem.run_bind,run_placesL hq]
        have e:(fun i:Nat=>(l'.toArray)[i]?)=fun i:Nat=>l'[i]? :=by funext i;simp
        rw[e,hfill]
        rfl
      | array n e=>
       simp only at hp
       cases hq:zbV P e with
       |none=>simp[hq]at hp
       |some s=>
        simp only[hq,Option.map_some,Option.some.injEq]at hp
        subst hp
        simp only[Result.andThen_ok,Sem.run_bind,zao hq]
        rw[hfill]
        rfl
      |_=>simp at hp
   ·cases hr
  ·cases hr
 case h_19 c=>
  split at hr
  ·rename_i b hb
   have:=roB_sound (P:=P) (w:=w) (ty:=o.type) (cs:=c.args.map fun| .const _=>true|_=>false) hr
   rw[Array.toArray_toList]at this
   simp only[execOp,ho,resolve,hb,Sem.run_bind,Sem.run_pure,Result.andThen_ok,invoke]
   exact this
  ·cases hr
 case h_20=>cases hr
end
def failK:OpSem:=fun _ _=>False
def newK (c:Array Value)(t:TypeId):OpSem:=fun h K=>K (.pointer (some ⟨h.size,0,none⟩)) (h.push (.cells c t))
def stK (n:Nat)(x v:Value):OpSem:=fun h K=>
 match x with
 | .pointer (some a)=>if v.cells.size=n then(match zdo h a 0 v.cells.toList with|some h'=>K undef h'|none=>False)else False
 |_=>False
def zg7 (z:Value)(n:Nat):Array Value:=(Array.range n).map (fun i=>z.cells[i%z.cells.size]!)
def rowK (c:Array Value)(e:TypeId)(len:Nat)(l:List (Nat×Nat×Value)):OpSem:=fun h K=>
 match fillL c l with
 |some c'=>K (.slice (some ⟨h.size,0,none⟩) len len) (h.push (.cells c' e))
 |none=>False
def mkK (z:Value)(e:TypeId)(size bytes:Nat)(l c:Value):OpSem:=fun h K=>
 match l,c with
 | .int _ l,.int _ c=>
  0≤IntKind.i64.wrap l∧IntKind.i64.wrap l≤IntKind.i64.wrap c∧(bytes:Int)*IntKind.i64.wrap c≤2^48∧
   K (.slice (some ⟨h.size,0,none⟩) (IntKind.i64.wrap l).toNat (IntKind.i64.wrap c).toNat) (h.push (.cells (zg7 z ((IntKind.i64.wrap c).toNat*size)) e))
 |_,_=>False
def newmK:OpSem:=fun h K=>K (.map (some h.size)) (h.push (.map #[] 0))
def zbM (h:Heap)(r:Nat)(o:Obj):Heap:=h.setIfInBounds r o
def zh1 (kd:TypeDesc)(m k v:Value):OpSem:=fun h K=>
 match m with
 | .map (some r)=>match h[r]? with
  |some (.map es c)=>match Instr.findNow kd k es.toList 0 with
   |some (some (i,_))=>Instr.sameBits 10000 (((es[i]?).map (·.key)).getD k) k=true∧K undef (zbM h r (.map (es.modify i fun e=>{e with key:=k,val:=v}) c))
   |some none=>K undef (zbM h r (.map (es.push {key:=k,val:=v,born:=c}) (c+1)))
   |none=>False
  |_=>False
 |_=>False
def zpv (kd:TypeDesc)(z:Value)(m k:Value):OpSem:=fun h K=>
 match m with
 | .map (some r)=>match h[r]? with
  |some (.map es c)=>match Instr.findNow kd k es.toList 0 with
   | some (some (i,v))=>Instr.sameBits 10000 (((es[i]?).map (·.key)).getD k) k=true∧
     K (.tuple #[v,.int .i64 (((es[i]?).map fun e=>(e.born:Int)).getD 0)]) (zbM h r (.map (es.modify i fun e=>{e with key:=k}) c))
   |some none=>K (.tuple #[z,.int .i64 (c:Nat)]) (zbM h r (.map (es.push {key:=k,val:=z,born:=c}) (c+1)))
   |none=>False
  |_=>False
 |_=>False
def zsN (m s v:Value):OpSem:=fun h K=>
 match m,s with
 | .map (some r),.int _ n=>match h[r]? with
  |some (.map es c)=>match es.findIdx? (fun e=>(e.born:Int)==n)with
   |some i=>K undef (zbM h r (.map (es.modify i fun e=>{e with val:=v}) c))
   |none=>False
  |_=>False
 |_,_=>False
def zgb (kd:TypeDesc)(m k:Value):OpSem:=fun h K=>
 match m with
 | .map none=>K (.tuple #[]) h
 | .map (some r)=>match h[r]? with
  |some (.map es c)=>match Instr.findNow kd k es.toList 0 with
   |some (some (i,_))=>K (.tuple #[]) (zbM h r (.map (es.eraseIdxIfInBounds i) c))
   |some none=>K (.tuple #[]) (zbM h r (.map es c))
   |none=>False
  |_=>False
 |_=>False
def zo7 (m:Value):OpSem:=fun h K=>
 match m with
 | .map none=>K (.pointer (some ⟨h.size,0,none⟩)) (h.push (.mapIter none 0 #[] 0))
 | .map (some r)=>match h[r]? with
  |some (.map _ c)=>K (.pointer (some ⟨h.size,0,none⟩)) (h.push (.mapIter (some r) c #[] c))
  |_=>False
 |_=>False
def zmd (s:Value):OpSem:=fun h K=>
 match s with
 | .string s=>K (.pointer (some ⟨h.size,0,none⟩)) (h.push (.stringIter s 0))
 |_=>False
def zoB (it:Value):OpSem:=fun h K=>
 match it with
 | .pointer (some ⟨r,0,_⟩)=>match h[r]? with
  |some (.stringIter s pos)=>
   if pos<s.size then K (.tuple #[.bool true,.int .i64 (pos:Nat),.int .i32 (Utf8.decode s pos).1]) (zbM h r (.stringIter s (pos+(Utf8.decode s pos).2)))
   else K (.tuple #[.bool false]) h
  |_=>False
 |_=>False
def zsq (it:Value):OpSem:=fun h K=>
 match it with
 | .pointer (some ⟨r,0,_⟩)=>match h[r]? with
  |some (.mapIter none _ _ _)=>K (.tuple #[.bool false]) h
  | some (.mapIter (some m) since seen last)=>match h[m]? with
   |some (.map es clock)=>
    (!seen.isEmpty&& !es.isEmpty&&es.all (·.born≥last))=false∧
    (∀e∈es,seen.contains e.born=false→K (.tuple #[.bool true,e.key,e.val]) (zbM h r (.mapIter (some m) since (seen.push e.born) clock)))∧
    ((∀e∈es,seen.contains e.born=false→since≤e.born)→K (.tuple #[.bool false]) h)
   |_=>False
  |_=>False
 |_=>False
def entryK (it:Value):OpSem:=fun h K=>
 match it with
 | .pointer (some ⟨r,0,_⟩)=>match h[r]? with
  | some (.mapIter (some m) _ seen stepped)=>match h[m]? with
   | some (.map es clock)=>if clock≠stepped then False else match seen.back? with
    |some stamp=>match es.find? (·.born==stamp)with
     |some e=>K (.tuple #[e.key,e.val]) h
     |none=>False
    |none=>False
   |_=>False
  |_=>False
 |_=>False
def srcOf (size:Nat)(h:Heap)(n:Nat)(x:Value):Option (List Value):=
 match x with
 | .slice (some a) _ _=>zbu h a 0 (n*size)
 | .slice none _ _=>some []
 | .string s=>some ((s.extract 0 n).data.map fun b=>Value.int .u8 b.toNat).toList
 |_=>none
def lenN (x:Value):Option Nat:=
 match x with
 | .slice _ n _=>some n
 | .string s=>some s.size
 |_=>none
def appK (z:Value) (e:TypeId) (size bytes:Nat) (s x:Value):OpSem:=fun h K=>
 match s,lenN x with
 | .slice base sLen sCap,some n=>
  if sLen+n≤sCap then
   match srcOf size h n x with
   | some news=>match base with
    |some a=>match zdo h (a.add (sLen*size)) 0 news with
     |some h'=>K (.slice base (sLen+n) sCap) h'
     |none=>False
    |none=>K (.slice none (sLen+n) sCap) h
   |none=>False
  else
   ((sLen+n:Nat):Int)≤IntKind.i64.max∧Builtin.nextslicecap (sLen+n) sCap*bytes≤2^48∧
   match srcOf size h sLen s,srcOf size h n x with
   | some olds,some news=>∀newCap,sLen+n≤newCap→newCap≤2^63-1→
     K (.slice (some ⟨h.size,0,none⟩) (sLen+n) newCap) (h.push (.cells (olds.toArray++news.toArray++Builtin.zeroCells z.cells (newCap-(sLen+n))) e))
   |_,_=>False
 |_,_=>False
def cpyK (size:Nat) (d x:Value):OpSem:=fun h K=>
 match d,lenN x with
 | .slice base dLen _,some n=>
  match srcOf size h (Nat.min n dLen) x with
  | some news=>match base with
   |some a=>match zdo h a 0 news with
    |some h'=>K (.int .i64 (Nat.min n dLen:Nat)) h'
    |none=>False
   |none=>K (.int .i64 (Nat.min n dLen:Nat)) h
  |none=>False
 |_,_=>False
def zgS (P:Program)(f:FuncId):Bool:=
 match P.funcs[f]? with
 |some fn=> !(fn.name== "runtime.NumGoroutine")&&fn.body.isSome
 |none=>false
def ECall (P:Program)(f:FuncId)(args:Array Value):OpSem:=fun h K=>
 zgS P f=true∧∀w:World,w.heap=h→Calls P f args w fun e w'=>∃v,e=.returned v∧Same w w'∧K v w'.heap
def FCall (P:Program)(f:FuncId)(args:Array Value):OpSem:=fun h K=>
 ECall P f args h K∨∀w:World,w.heap=h→∃v w',(callFunc f args).run P w=.ok (.value v) w'∧Same w w'∧K v w'.heap
theorem FCall.mono {P:Program}{f:FuncId}{args:Array Value}{h:Heap}{K K':Value→Heap→Prop}(hc:FCall P f args h K)(hk:∀v h',K v h'→K' v h'):FCall P f args h K':=
 hc.imp (fun hc=>⟨hc.1,fun w hw=>(hc.2 w hw).mono fun _ _ ⟨v,he,hs,hK⟩=>⟨v,he,hs,hk _ _ hK⟩⟩)
  fun hc w hw=>let⟨v,w',a,b,c⟩:=hc w hw;⟨v,w',a,b,hk _ _ c⟩
theorem FCall.ofCalls {P:Program}{f:FuncId}{args:Array Value}{h:Heap}{K:Value→Heap→Prop}(hc:zgS P f=true)
  (H:∀w:World,w.heap=h→Calls P f args w fun e w'=>∃v,e=.returned v∧Same w w'∧K v w'.heap):FCall P f args h K:=.inl ⟨hc,H⟩
theorem FCall.ofRun {P:Program}{f:FuncId}{args:Array Value}{h:Heap}{K:Value→Heap→Prop}
  (H:∀w:World,w.heap=h→∃v w',(callFunc f args).run P w=.ok (.value v) w'∧Same w w'∧K v w'.heap):FCall P f args h K:=.inr H
def clK (P:Program)(f:Value)(args:Array Value)(h:Heap)(K:Value→Heap→Prop):Prop:=
 match f with
 | .func (.func f) first captured=>FCall P f (first++args++captured) h K
 |_=>False
def effB (P:Program) (b:Builtin) (args:List Value) (ts:List TypeId) (h:Heap) (K:Value→Heap→Prop):Prop:=
 match b with
 | .append=>match args,ts with
  | [s,x],[t,u]=>match P.underlying t,P.underlying u with
   |some (.slice e),some (.slice _)|some (.slice e),some .string=>match(P.info? e).bind fun i=>i.zero.map fun z=>(z,i.size,i.bytes)with
    |some (z,size,bytes)=>appK z e size bytes s x h K
    |none=>False
   |_,_=>False
  |_,_=>False
 | .copy=>match args,ts with
  | [d,x],t::_=>match P.underlying t with
   |some (.slice e)=>match zbV P e with
    |some size=>cpyK size d x h K
    |none=>False
   |_=>False
  |_,_=>False
 | .delete=>match args,ts with
  | [m,k],t::_=>match P.underlying t with
   |some (.map kt _)=>match zei P kt with
    |some kd=>zgb kd m k h K
    |none=>False
   |_=>False
  |_,_=>False
 |_=>False
def bytesL:List Value→Option (List UInt8)
 | []=>some []
 | v::r=>match v with
  | .int .u8 n=>match bytesL r with
   |some l=>some (UInt8.ofNat n.toNat::l)
   |none=>none
  |_=>none
def bsK (x:Value):OpSem:=fun h K=>
 match x with
 | .slice none _ _=>K (.string ByteArray.empty) h
 | .slice (some a) n _=>match zbu h a 0 n with
  |some l=>match bytesL l with
   |some b=>K (.string ⟨⟨b⟩⟩) h
   |none=>False
  |none=>False
 |_=>False
def effK (P:Program) (ρ:Env) (op:Op) (h:Heap) (K:Value→Heap→Prop):Prop:=
 match op with
 | .alloc t=>match zkj P t with
  |some z=>newK z.cells t h K
  |none=>False
 | .box t x=>newK (ev ρ x).cells t h K
 | .buildSlice t len parts=>match P.underlying t with
  | some (.slice e)=>match zbV P e,zkj P e with
   |some s,some z=>if len*s>2^24 then False else match zn9 (fun i=>some (i*s,s)) ρ parts.toList with
    |some l=>rowK (zg7 z (len*s)) e len l h K
    |none=>False
   |_,_=>False
  |_=>False
 | .store t a x=>match zbV P t with
  |some n=>stK n (ev ρ a) (ev ρ x) h K
  |none=>False
 | .makeSlice t l c=>match P.underlying t with
  |some (.slice e)=>match(P.info? e).bind fun i=>i.zero.map fun z=>(z,i.size,i.bytes)with
   |some (z,size,bytes)=>mkK z e size bytes (ev ρ l) (ev ρ c) h K
   |none=>False
  |_=>False
 | .makeMap _ none=>newmK h K
 | .mapUpdate t m k x| .insert t m k x=>match P.underlying t with
  |some (.map kt _)=>match zei P kt with
   |some kd=>zh1 kd (ev ρ m) (ev ρ k) (ev ρ x) h K
   |none=>False
  |_=>False
 | .mapEntry t m k=>match P.underlying t with
  |some (.map kt et)=>match zei P kt,zkj P et with
   |some kd,some z=>zpv kd z (ev ρ m) (ev ρ k) h K
   |_,_=>False
  |_=>False
 | .entryStore _ m s x=>zsN (ev ρ m) (ev ρ s) (ev ρ x) h K
 | .range t x=>match P.underlying t with
  |some (.map _ _)=>zo7 (ev ρ x) h K
  |some .string=>zmd (ev ρ x) h K
  |_=>False
 | .next it s=>bif s then zoB (ev ρ it) h K else zsq (ev ρ it) h K
 | .entry it=>entryK (ev ρ it) h K
 | .call c=>match c.callee with
  | .builtin b=>effB P b (c.args.map (ev ρ)).toList c.argTypes.toList h K
  | .value (.func f)=>FCall P f (c.args.map (ev ρ)) h K
  | .value x=>clK P (ev ρ x) (c.args.map (ev ρ)) h K
  |_=>False
 | .convert s d x=>match P.underlying s,P.underlying d with
  |some (.slice e),some .string=>match P.underlying e with
   |some (.int .u8)=>bsK (ev ρ x) h K
   |_=>False
  |_,_=>False
 |_=>False
def Done (P:Program)(K:Value→Heap→Prop)(w:World):Result Next→Prop
 | .ok (.value v) w'=>Same w w'∧K v w'.heap
 | .ok .skip w'=>Same w w'∧K undef w'.heap
 | .ok (.enter f args) w'=>w'=w∧ECall P f args w.heap K
 |_=>False
section
variable {P:Program}{ρ:Env}{w:World}{K:Value→Heap→Prop}
theorem oneCell_eq (v:Value):zam v=v.oneCell':=by cases v<;>rfl
theorem zgP (a:Addr):∀(l:List Value) (i:Nat) (w:World) (h':Heap),zdo w.heap a i l=some h'→
  ∃w',(storeCells a l i).run P w=.ok () w'∧Same w w'∧w'.heap=h'
 | [],i,w,h',h=>by simp[zdo]at h;exact⟨w,by simp[storeCells],Same.refl w,h⟩
 | v ::l,i,w,h',h=>by
  unfold zdo at h
  cases hc:zah w.heap (a.add i)with
  |none=>simp[hc]at h
  | some old=>
   simp only[hc]at h
   cases ho:(zam v&& !zh5 w.heap (a.add i))with
   |false=>rw[ho]at h;cases h
   | true=>
    rw[ho]at h
    simp only[cond_true]at h
    rw[Bool.and_eq_true]at ho
    obtain⟨w',hr,hs,hh⟩:=zgP a l (i+1) (w.setCell (a.add i) v) h' h
    refine⟨w',?_,⟨hs.1,hs.2.1,hs.2.2⟩,hh⟩
    have h1:w.cell? (a.add i)=some old:=hc
    have h2:w.frozen? (a.add i)=false:=by
     show zh5 w.heap (a.add i)=false
     simpa using ho.2
    simp only[storeCells,Sem.run_bind]
    rw[run_store P w _ _ _ (by rw[←oneCell_eq];exact ho.1)]
    simp[h1,h2,hr]
theorem zl8 {size n:Nat}{x:Value}{l:List Value}(h:srcOf size w.heap n x=some l):(Builtin.firstCells size n x).run P w=.ok l.toArray w:=by
 unfold srcOf at h
 split at h
 ·rename_i a _ _
  have:=zhW (P:=P) a _ 0 #[] l h
  simp[Builtin.firstCells,loadCells,this]
 ·simp at h;subst h;simp[Builtin.firstCells]
 ·simp only[Option.some.injEq]at h;subst h;simp only[Builtin.firstCells,Array.toArray_toList];rfl
 ·cases h
theorem run_lenN {x:Value}{n:Nat}(h:lenN x=some n):(Builtin.lenOf x).run P w=.ok n w:=by
 unfold lenN at h
 split at h<;>simp at h<;>subst h<;>simp[Builtin.lenOf]
theorem Done.value {s:Sem Value}{v:Value}{w':World}(hr:s.run P w=.ok v w')(hs:Same w w')(hK:K v w'.heap):
  Done P K w ((do pure (.value (←s)):Sem Next).run P w):=by
 simp only[Sem.run_bind,hr,Result.andThen_ok,Sem.run_pure]
 exact⟨hs,hK⟩
theorem Done.unit {s:Sem Unit}{w':World}(hr:s.run P w=.ok () w')(hs:Same w w')(hK:K undef w'.heap):
  Done P K w ((do s;pure .skip:Sem Next).run P w):=by
 simp only[Sem.run_bind,hr,Result.andThen_ok,Sem.run_pure]
 exact⟨hs,hK⟩
theorem zbN (o:Obj):(newObj o).run P w=.ok w.heap.size {w with heap:=w.heap.push o}:=rfl
theorem stK_sound {t n:Nat}{x v:Value}(hn:zbV P t=some n)(h:stK n x v w.heap K):∃w',(Instr.storeAt t x v).run P w=.ok () w'∧Same w w'∧K undef w'.heap:=by
 unfold stK at h
 split at h
 ·rename_i a
  split at h
  ·rename_i hv
   cases hq:zdo w.heap a 0 v.cells.toList with
   |none=>simp[hq]at h
   |some h'=>
    simp only[hq]at h
    obtain⟨w',hr,hs,hh⟩:=zgP (P:=P) a _ 0 w h' hq
    refine⟨w',?_,hs,hh▸h⟩
    simp[Instr.storeAt,Instr.sureAddr,storeVar,zao hn,hv,hr]
  ·exact h.elim
 ·exact h.elim
theorem zc1 {r:Nat}{o o':Obj}(h:w.heap[r]? =some o)(hn:∀c e f,o≠ .cells c e f):(setObj r o').run P w=.ok () {w with heap:=zbM w.heap r o'}:=by
 simp only[setObj,Sem.run,h]
 cases o<;>first|rfl|exact absurd rfl (hn _ _ _)
theorem ziM {a b:Value}(h:Instr.sameBits 10000 a b=true):(Instr.keyThatStays a b).run P w=.ok b w:=by
 simp[Instr.keyThatStays,h]
theorem zsv {t kt et:TypeId}{kd:TypeDesc}{m k v:Value}(ht:P.underlying t=some (.map kt et))(hk:zei P kt=some kd)(h:zh1 kd m k v w.heap K):
  ∃w',(Instr.mapUpdate t m k v).run P w=.ok () w'∧Same w w'∧K undef w'.heap:=by
 unfold zh1 at h
 split at h
 ·rename_i r
  split at h
  ·rename_i es c hm
   simp only[Instr.mapUpdate,Sem.run_bind,run_underlying ht,Result.andThen_ok,zc2 hm]
   rw[show(10000:Nat)=9999+1 from rfl,zdC hk]
   simp only[Result.andThen_ok]
   split at h
   ·rename_i i u hf
    rw[zcQ hk hf]
    simp only[Result.andThen_ok,Sem.run_bind]
    rw[ziM h.1]
    simp only[Result.andThen_ok]
    exact⟨_,zc1 hm (by simp),⟨rfl,rfl,rfl⟩,h.2⟩
   ·rename_i hf
    rw[zcQ hk hf]
    exact⟨_,zc1 hm (by simp),⟨rfl,rfl,rfl⟩,h⟩
   ·exact h.elim
  ·exact h.elim
 ·exact h.elim
theorem zpu {t kt et:TypeId}{kd:TypeDesc}{z m k:Value}(ht:P.underlying t=some (.map kt et))(hk:zei P kt=some kd)(hz:zkj P et=some z)(h:zpv kd z m k w.heap K):
  ∃v w',(Instr.mapEntry t m k).run P w=.ok v w'∧Same w w'∧K v w'.heap:=by
 unfold zpv at h
 split at h
 ·rename_i r
  split at h
  ·rename_i es c hm
   simp only[Instr.mapEntry,Sem.run_bind,run_underlying ht,Result.andThen_ok,zc2 hm]
   rw[show(10000:Nat)=9999+1 from rfl,zdC hk]
   simp only[Result.andThen_ok]
   split at h
   ·rename_i i u hf
    rw[zcQ hk hf]
    simp only[Result.andThen_ok,Sem.run_bind]
    rw[ziM h.1]
    simp only[Result.andThen_ok]
    rw[zc1 hm (by simp)]
    exact⟨_,_,rfl,⟨rfl,rfl,rfl⟩,h.2⟩
   ·rename_i hf
    rw[zcQ hk hf]
    simp only[Result.andThen_ok,Sem.run_bind,zan hz]
    rw[zc1 hm (by simp)]
    exact⟨_,_,rfl,⟨rfl,rfl,rfl⟩,h⟩
   ·exact h.elim
  ·exact h.elim
 ·exact h.elim
theorem zqF {t:TypeId}{m s v:Value}(h:zsN m s v w.heap K):∃w',(Instr.entryStore t m s v).run P w=.ok () w'∧Same w w'∧K undef w'.heap:=by
 unfold zsN at h
 split at h
 ·rename_i r k n
  split at h
  ·rename_i es c hm
   split at h
   ·rename_i i hf
    simp only[Instr.entryStore,Sem.run_bind,zc2 hm,Result.andThen_ok,asInt,asIntOf,Sem.run_pure]
    simp only[hf]
    exact⟨_,zc1 hm (by simp),⟨rfl,rfl,rfl⟩,h⟩
   ·exact h.elim
  ·exact h.elim
 ·exact h.elim
theorem zsx {t kt et:TypeId}{ty:TypeId}{kd:TypeDesc}{m k:Value}{ts:Array TypeId}(h0:ts[0]? =some t)(ht:P.underlying t=some (.map kt et))(hk:zei P kt=some kd)(h:zgb kd m k w.heap K):
  ∃v w',(Builtin.delete_ ts ty #[m,k]).run P w=.ok v w'∧Same w w'∧K v w'.heap:=by
 have h10:(10000:Nat)=9999+1:=rfl
 unfold zgb at h
 split at h
 ·refine⟨.tuple #[],w,?_,Same.refl w,h⟩
  simp[Builtin.delete_,h0,run_underlying ht]
  rw[h10,zdC hk]
  rfl
 ·rename_i r
  split at h
  ·rename_i es c hm
   simp only[Builtin.delete_,h0]
   simp[run_underlying ht,zc2 hm]
   rw[h10,zdC hk]
   simp only[Result.andThen_ok]
   split at h
   ·rename_i i u hf
    rw[zcQ hk hf]
    simp only[Result.andThen_ok]
    rw[Sem.run_map,zc1 hm (by simp)]
    exact⟨_,_,rfl,⟨rfl,rfl,rfl⟩,h⟩
   ·rename_i hf
    rw[zcQ hk hf]
    simp only[Result.andThen_ok]
    rw[Sem.run_map,zc1 hm (by simp)]
    exact⟨_,_,rfl,⟨rfl,rfl,rfl⟩,h⟩
   ·exact h.elim
  ·exact h.elim
 ·exact h.elim
theorem zo6 {t kt et:TypeId}{m:Value}(ht:P.underlying t=some (.map kt et))(h:zo7 m w.heap K):∃v w',(Instr.range t m).run P w=.ok v w'∧Same w w'∧K v w'.heap:=by
 unfold zo7 at h
 split at h
 ·simp only[Instr.range,Sem.run_bind,run_underlying ht,Result.andThen_ok,Sem.run_pure,zbN]
  exact⟨_,_,rfl,⟨rfl,rfl,rfl⟩,h⟩
 ·rename_i r
  split at h
  ·rename_i es c hm
   simp only[Instr.range,Sem.run_bind,run_underlying ht,Result.andThen_ok,Sem.run_pure,zc2 hm,zbN]
   exact⟨_,_,rfl,⟨rfl,rfl,rfl⟩,h⟩
  ·exact h.elim
 ·exact h.elim
theorem zo5 {t:TypeId}{s:Value}(ht:P.underlying t=some .string)(h:zmd s w.heap K):∃v w',(Instr.range t s).run P w=.ok v w'∧Same w w'∧K v w'.heap:=by
 unfold zmd at h
 split at h
 ·simp only[Instr.range,Sem.run_bind,run_underlying ht,Result.andThen_ok,Sem.run_pure,zbN]
  exact⟨_,_,rfl,⟨rfl,rfl,rfl⟩,h⟩
 ·exact h.elim
theorem zjX {r:Nat}{o:Obj}(h:w.heap[r]? =some o)(hn:∀c e f,o≠ .cells c e f):(getObj r).run P w=.ok o w:=by
 simp only[getObj,Sem.run,h]
theorem zqD {t:TypeId}{it:Value}(h:zoB it w.heap K):∃v w',(Instr.next it true t).run P w=.ok v w'∧Same w w'∧K v w'.heap:=by
 unfold zoB at h
 split at h
 ·rename_i r sp
  split at h
  ·rename_i s pos hm
   simp only[Instr.next,Sem.run_bind,zjX hm (by simp),Result.andThen_ok]
   split at h
   ·rename_i hp
    simp only[hp,if_true,Sem.run_bind,zc1 hm (by simp),Result.andThen_ok,Sem.run_pure]
    exact⟨_,_,rfl,⟨rfl,rfl,rfl⟩,h⟩
   ·rename_i hp
    simp only[hp,if_false,Sem.run_pure]
    exact⟨_,_,rfl,Same.refl w,h⟩
  ·exact h.elim
 ·exact h.elim
theorem zqE {t:TypeId} {it:Value} (h:zsq it w.heap K):∃v w',(Instr.next it false t).run P w=.ok v w'∧Same w w'∧K v w'.heap:=by
 unfold zsq at h
 split at h
 ·rename_i r sp
  split at h
  ·rename_i hm
   simp only[Instr.next,Sem.run_bind,zjX hm (by simp),Result.andThen_ok,Sem.run_pure]
   exact⟨_,_,rfl,Same.refl w,h⟩
  ·rename_i m since seen last hm
   split at h
   ·rename_i es clock hes
    obtain⟨h0,h1,h2⟩:=h
    simp only[Instr.next,Sem.run_bind,zjX hm (by simp),zc2 hes,Result.andThen_ok]
    rw[if_neg (by rw[h0];simp)]
    simp only[Sem.run_bind,run_choose]
    generalize hL:(es.filter fun e=> !seen.contains e.born)=left
    generalize hO:left.filter (fun e=>decide (e.born<since))=old
    generalize hN:left.filter (fun e=>decide (e.born≥since))=new
    generalize hC:(if old.isEmpty=true then #[none]else #[])++(old++new).map some=cand
    have key:∀(j:Nat) (w1:World),j<cand.size→Same w w1→w1.heap=w.heap→
      ∃ v w',(Sem.run P (match cand[j]? with
       |some (some e)=>do
        setObj r (.mapIter (some m) since (seen.push e.born) clock)
        pure (.tuple #[.bool true,e.key,e.val])
       |some none=>pure (.tuple #[.bool false])
       |none=>stuck "Next: no such candidate") w1)=.ok v w'∧Same w w'∧K v w'.heap:=by
     intro j w1 hj hs hh
     rw[Array.getElem?_eq_getElem hj]
     have hmem:cand[j]∈cand:=Array.getElem_mem hj
     generalize cand[j]=x at hmem ⊢
     rw[←hC,Array.mem_append]at hmem
     cases x with
     | none=>
      refine⟨_,_,rfl,hs,?_⟩
      rw[hh]
      refine h2 fun e he hns=>?_
      have hold:old=#[]:=by
       rcases hmem with hmem|hmem
       ·by_cases ho:old.isEmpty=true
        ·simpa using ho
        ·simp[ho]at hmem
       ·simp at hmem
      rcases Nat.lt_or_ge e.born since with hlt|hge
      ·exfalso
       have:e∈old:=by
        rw[←hO,←hL]
        simp only[Array.mem_filter]
        exact⟨⟨he,by simpa using hns⟩,by simpa using hlt⟩
       rw[hold]at this
       simp at this
      ·exact hge
     | some e=>
      have hin:e∈es∧seen.contains e.born=false:=by
       have:e∈left:=by
        rcases hmem with hmem|hmem
        ·split at hmem<;>simp at hmem
        ·simp only[Array.mem_map,Option.some.injEq]at hmem
         obtain⟨e',he',rfl⟩:=hmem
         rw[Array.mem_append]at he'
         rcases he' with he'|he'
         ·rw[←hO]at he';exact(Array.mem_filter.1 he').1
         ·rw[←hN]at he';exact(Array.mem_filter.1 he').1
       rw[←hL]at this
       have:=Array.mem_filter.1 this
       exact⟨this.1,by simpa using this.2⟩
      simp only[Sem.run_bind]
      rw[zc1 (w:=w1) (by rw[hh];exact hm) (by simp)]
      refine⟨_,_,rfl,hs,?_⟩
      simp only[hh]
      exact h1 e hin.1 hin.2
    have hpos:0<cand.size:=by
     rw[←hC]
     by_cases ho:old.isEmpty=true
     ·simp[ho];omega
     ·have:0<old.size:=by
       rcases Nat.eq_zero_or_pos old.size with h0|h0
       ·exact absurd (by simpa using h0) ho
       ·exact h0
      simp[ho];omega
    split
    ·exact key _ _ hpos (Same.refl w) rfl
    ·exact key _ _ (by simp only[Question.cut];exact Nat.mod_lt _ hpos) ⟨rfl,rfl,rfl⟩ rfl
   ·exact h.elim
  ·exact h.elim
 ·exact h.elim
theorem entryK_sound {it:Value}(h:entryK it w.heap K):∃v w',(Instr.entry it).run P w=.ok v w'∧Same w w'∧K v w'.heap:=by
 unfold entryK at h
 split at h
 ·rename_i r sp
  split at h
  ·rename_i m _ seen stepped hm
   split at h
   ·rename_i es clock hes
    split at h
    ·exact h.elim
    ·rename_i hc
     split at h
     ·rename_i stamp hb
      split at h
      ·rename_i e he
       simp only[Instr.entry,Sem.run_bind,zjX hm (by simp),zc2 hes,Result.andThen_ok,hb]
       rw[if_neg (by simpa using hc)]
       simp only[he,Sem.run_pure]
       exact⟨_,_,rfl,Same.refl w,h⟩
      ·exact h.elim
     ·exact h.elim
   ·exact h.elim
  ·exact h.elim
 ·exact h.elim
theorem zpH {e:TypeId}{z:Value}{size bytes:Nat}(h:(P.info? e).bind (fun i=>i.zero.map fun z=>(z,i.size,i.bytes))=some (z,size,bytes)):
  ∃i,P.info? e=some i∧i.zero=some z∧i.size=size∧i.bytes=bytes:=by
 cases hi:P.info? e with
 |none=>simp[hi]at h
 |some i=>
  cases hz:i.zero with
  |none=>simp[hi,hz]at h
  |some z'=>simp[hi,hz]at h;exact⟨i,rfl,by rw[hz,h.1],h.2.1,h.2.2⟩
theorem range0 (f:Nat→Value):(Array.range 0).map f=#[]:=by simp
theorem mkK_sound {t e:TypeId}{z:Value}{size bytes:Nat}{l c:Value}(ht:P.underlying t=some (.slice e))
  (hi:(P.info? e).bind (fun i=>i.zero.map fun z=>(z,i.size,i.bytes))=some (z,size,bytes)) (h:mkK z e size bytes l c w.heap K):
  ∃v w',(Instr.makeSlice t l c).run P w=.ok v w'∧Same w w'∧K v w'.heap:=by
 obtain⟨i,hj,hz,rfl,rfl⟩:=zpH hi
 clear hi
 unfold mkK at h
 split at h
 ·rename_i k l k' c
  obtain⟨h1,h2,h3,hK⟩:=h
  simp only[Instr.makeSlice,Sem.run_bind,run_underlying ht,Result.andThen_ok,asInt,asIntOf,Sem.run_pure,typeInfo,run_program,hj]
  rw[if_neg (by simp;omega)]
  simp only[Sem.run_bind,run_askRoom,Result.andThen_ok,sizeOf,typeInfo,run_program,hj,Sem.run_pure]
  by_cases h0:(IntKind.i64.wrap c).toNat*i.size=0
  ·simp only[h0,if_true,Sem.run_pure,Result.andThen_ok,newRow,Sem.run_bind,zbN]
   refine⟨_,_,rfl,⟨rfl,rfl,rfl⟩,?_⟩
   rw[zg7,h0,range0]at hK
   rw[range0]
   exact hK
  ·simp only[h0,if_false,Sem.run_bind,zeroValue,typeInfo,run_program,hj,hz,Sem.run_pure,Result.andThen_ok,newRow,zbN]
   exact⟨_,_,rfl,⟨rfl,rfl,rfl⟩,hK⟩
 ·exact h.elim
theorem rowK_sound {t e:TypeId}{s len:Nat}{z:Value}{parts:Array (Nat×Operand)}{l:List (Nat×Nat×Value)}(ht:P.underlying t=some (.slice e))(hs:zbV P e=some s)(hz:zkj P e=some z)
  (hsmall:¬len*s>2^24) (hl:zn9 (fun i=>some (i*s,s)) ρ parts.toList=some l) (h:rowK (zg7 z (len*s)) e len l w.heap K):
  ∃v w',(Instr.buildSlice t len (parts.map fun(i,x)=>(i,ev ρ x))).run P w=.ok v w'∧Same w w'∧K v w'.heap:=by
 unfold rowK at h
 cases hf:fillL (zg7 z (len*s)) l with
 |none=>simp[hf]at h
 | some c=>
  simp only[hf]at h
  have hfill:=fill_eq _ _ _ _ hl hf
  rw[←Array.toList_map]at hfill
  simp only[Instr.buildSlice,Sem.run_bind,run_underlying ht,Result.andThen_ok,zao hs,hsmall,if_false]
  by_cases h0:len*s=0
  ·simp only[h0,if_true,Sem.run_bind,Sem.run_pure,Result.andThen_ok]
   have e:zg7 z (len*s)=#[]:=by simp[zg7,h0]
   rw[e]at hfill
   rw[range0,hfill]
   simp only[newRow,Sem.run_bind,zbN,Result.andThen_ok,Sem.run_pure]
   exact⟨_,_,rfl,⟨rfl,rfl,rfl⟩,h⟩
  ·simp only[h0,if_false,Sem.run_bind,zan hz,Result.andThen_ok,Sem.run_pure]
   unfold zg7 at hfill
   rw[hfill]
   simp only[newRow,Sem.run_bind,zbN,Result.andThen_ok,Sem.run_pure]
   exact⟨_,_,rfl,⟨rfl,rfl,rfl⟩,h⟩
theorem zru {t u e ty:TypeId}{z:Value}{size bytes:Nat}{s x:Value}{ts:Array TypeId}(hts:ts.toList=[t,u])(ht:P.underlying t=some (.slice e))(hu:∃d,P.underlying u=some d∧∀k,d≠ .int k)
  (hi:(P.info? e).bind (fun i=>i.zero.map fun z=>(z,i.size,i.bytes))=some (z,size,bytes)) (h:appK z e size bytes s x w.heap K):
  ∃v w',(Builtin.append_ ts ty #[s,x]).run P w=.ok v w'∧Same w w'∧K v w'.heap:=by
 obtain⟨i,hj,hz,rfl,rfl⟩:=zpH hi
 clear hi
 obtain⟨d,hu,hd⟩:=hu
 obtain rfl:ts=#[t,u]:=by apply Array.ext';simpa using hts
 unfold appK at h
 split at h
 ·rename_i base sLen sCap n hn
  simp only[Builtin.append_,List.getElem?_toArray,List.getElem?_cons_zero,List.getElem?_cons_succ,Sem.run_bind,run_underlying ht,run_underlying hu,Result.andThen_ok,Sem.run_pure,sizeOf,typeInfo,run_program,hj]
  rw[if_neg (by simp)]
  simp only[Sem.run_bind,run_lenN hn,Result.andThen_ok]
  simp only[Bool.not_false,if_true]
  split at h
  ·rename_i hroom
   simp only[hroom,if_true]
   split at h
   ·rename_i news hsrc
    simp only[Sem.run_bind,zl8 hsrc,Result.andThen_ok]
    split at h
    ·rename_i a
     split at h
     ·rename_i h' hst
      obtain⟨w',hr,hs,hh⟩:=zgP (P:=P) _ _ 0 w h' hst
      simp only[Sem.run_bind,hr,Result.andThen_ok,Sem.run_pure]
      exact⟨_,_,rfl,hs,hh▸h⟩
     ·exact h.elim
    ·simp only[Sem.run_pure]
     exact⟨_,_,rfl,Same.refl w,h⟩
   ·exact h.elim
  ·rename_i hroom
   obtain⟨hlen,hcap,h⟩:=h
   simp only[hroom,if_false]
   split at h
   ·rename_i olds news ho hn'
    simp only[Sem.run_bind,run_program,Result.andThen_ok,hj,Sem.run_pure]
    rw[if_neg (by omega)]
    simp only[Sem.run_bind,run_program,Result.andThen_ok,hj,Sem.run_pure]
    rw[if_neg (by omega)]
    simp only[Sem.run_bind,run_program,Result.andThen_ok,hj,Sem.run_pure,run_choose,Question.forced,Bool.false_eq_true,if_false,run_askRoom]
    have hH:∀m l,srcOf i.size w.heap m l=srcOf i.size ({w with drawn:=w.drawn+1}:World).heap m l:=fun _ _=>rfl
    rw[hH]at ho hn'
    rw[zl8 ho]
    simp only[Sem.run_bind,Result.andThen_ok]
    rw[zl8 hn']
    simp only[Sem.run_bind,Result.andThen_ok,newRow,zbN,Sem.run_pure,zeroValue,typeInfo,run_program,hj,hz]
    refine⟨_,_,rfl,⟨rfl,rfl,rfl⟩,?_⟩
    refine h _ ?_ ?_
    ·simp only[Question.cut];omega
    ·simp only[Question.cut]
     have h63:((sLen+n:Nat):Int)≤2^63-1:=by simpa[IntKind.max,IntKind.signed,IntKind.bits]using hlen
     have:=Nat.mod_lt (w.tape w.drawn (.appendCap (sLen+n) sCap e)) (show 0<2^63-(sLen+n)by omega)
     omega
   ·exact h.elim
 ·exact h.elim
theorem cpyK_sound {t e ty:TypeId}{size:Nat}{d x:Value}{ts:Array TypeId}(h0:ts[0]? =some t)(ht:P.underlying t=some (.slice e))(hs:zbV P e=some size)(h:cpyK size d x w.heap K):
  ∃v w',(Builtin.copy_ ts ty #[d,x]).run P w=.ok v w'∧Same w w'∧K v w'.heap:=by
 unfold cpyK at h
 split at h
 ·rename_i base dLen dCap _ n hn
  simp only[Builtin.copy_,h0]
  simp only[List.getElem?_toArray,List.getElem?_cons_zero,List.getElem?_cons_succ,Sem.run_bind,run_underlying ht,Result.andThen_ok,run_lenN hn,zao hs]
  split at h
  ·rename_i news hsrc
   rw[zl8 hsrc]
   simp only[Result.andThen_ok]
   split at h
   ·rename_i a
    split at h
    ·rename_i h' hst
     obtain⟨w',hr,hs,hh⟩:=zgP (P:=P) _ _ 0 w h' hst
     simp only[Sem.run_bind,hr,Result.andThen_ok,Sem.run_pure]
     exact⟨_,_,rfl,hs,hh▸h⟩
    ·exact h.elim
   ·simp only[Sem.run_pure]
    exact⟨_,_,rfl,Same.refl w,h⟩
  ·exact h.elim
 ·exact h.elim
theorem Done.of {s:Sem Value}(h:∃v w',s.run P w=.ok v w'∧Same w w'∧K v w'.heap):Done P K w ((do pure (.value (←s)):Sem Next).run P w):=by
 obtain⟨v,w',h1,h2,h3⟩:=h
 exact Done.value h1 h2 h3
theorem Done.ofU {s:Sem Unit}(h:∃w',s.run P w=.ok () w'∧Same w w'∧K undef w'.heap):Done P K w ((do s;pure .skip:Sem Next).run P w):=by
 obtain⟨w',h1,h2,h3⟩:=h
 exact Done.unit h1 h2 h3
theorem zji {f:FuncId}{args:Array Value}(h:zgS P f=true):(callFunc f args).run P w=.ok (.enter f args) w:=by
 unfold zgS at h
 cases hf:P.funcs[f]? with
 |none=>simp[hf]at h
 |some fn=>
  simp only[hf,Bool.and_eq_true,Bool.not_eq_true']at h
  simp only[callFunc,Sem.run_bind,run_program,Result.andThen_ok,hf]
  rw[if_neg (by rw[h.1];simp)]
  have hb:fn.body.isNone=false:=by cases hb:fn.body<;>simp_all
  rw[if_neg (by rw[hb];simp)]
  rfl
theorem FCall.done {f:FuncId}{args:Array Value}(h:FCall P f args w.heap K):Done P K w ((callFunc f args).run P w):=by
 rcases h with h|h
 ·rw[zji h.1]
  exact⟨rfl,h⟩
 ·obtain⟨v,w',h1,h2,h3⟩:=h w rfl
  rw[h1]
  exact⟨h2,h3⟩
theorem FCall.calls {f:FuncId}{args:Array Value}{h:Heap}(hok:zgS P f=true)(H:FCall P f args h K)(w:World)(hw:w.heap=h):Calls P f args w fun e w'=>∃v,e=.returned v∧Same w w'∧K v w'.heap:=by
 rcases H with H|H
 ·exact H.2 w hw
 ·obtain⟨v,w',h1,_⟩:=H w hw
  rw[zji hok]at h1
  cases h1
theorem clK_sound {x:Value}{args:Array Value}(h:clK P x args w.heap K):Done P K w ((do let d←Deferred.ofValue x args;invoke d.target d.args:Sem Next).run P w):=by
 unfold clK at h
 split at h
 ·simp only[Deferred.ofValue,Sem.run_bind,Sem.run_pure,Result.andThen_ok,invoke]
  exact h.done
 ·exact h.elim
theorem effB_sound {b:Builtin}{args:List Value}{ts:Array TypeId}{ty:TypeId}{cs:Array Bool}(h:effB P b args ts.toList w.heap K):Done P K w ((builtin b ts ty cs args.toArray).run P w):=by
 unfold effB at h
 split at h
 ·split at h
  ·rename_i s x t u hts
   split at h
   ·rename_i e d ht hu
    split at h
    ·rename_i z size bytes hi
     exact Done.of (zru hts ht ⟨_,hu,by simp⟩ hi h)
    ·exact h.elim
   ·rename_i e ht hu
    split at h
    ·rename_i z size bytes hi
     exact Done.of (zru hts ht ⟨_,hu,by simp⟩ hi h)
    ·exact h.elim
   ·exact h.elim
  ·exact h.elim
 ·split at h
  ·rename_i d x t rest hts
   have h0:ts[0]? =some t:=by rw[←Array.getElem?_toList,hts];rfl
   split at h
   ·rename_i e ht
    split at h
    ·rename_i size hs
     exact Done.of (cpyK_sound h0 ht hs h)
    ·exact h.elim
   ·exact h.elim
  ·exact h.elim
 ·split at h
  ·rename_i m k t rest hts
   have h0:ts[0]? =some t:=by rw[←Array.getElem?_toList,hts];rfl
   split at h
   ·rename_i kt et ht
    split at h
    ·rename_i kd hk
     exact Done.of (zsx h0 ht hk h)
    ·exact h.elim
   ·exact h.elim
  ·exact h.elim
 ·exact h.elim
theorem zrr (f:Value→ByteArray→Sem (ForInStep ByteArray))(hf:∀n s,f (.int .u8 n) s=pure (.yield (s.push (UInt8.ofNat n.toNat)))):
  ∀(l:List Value) (b:List UInt8) (s:ByteArray),bytesL l=some b→(forIn l s f).run P w=.ok ⟨s.data++b.toArray⟩ w
 | [],b,s,h=>by
  simp only[bytesL,Option.some.injEq]at h
  subst h
  simp
 | v::r,b,s,h=>by
  unfold bytesL at h
  split at h
  ·rename_i n
   split at h
   ·rename_i l hl
    simp only[Option.some.injEq]at h
    subst h
    have:=zrr f hf r l (s.push (UInt8.ofNat n.toNat)) hl
    simp only[List.forIn_cons,hf,Sem.run_bind,Sem.run_pure,Result.andThen_ok,this]
    congr 1
    apply ByteArray.ext
    apply Array.ext'
    show(s.data.push (UInt8.ofNat n.toNat)++l.toArray).toList=_
    simp
   ·cases h
  ·cases h
theorem bsK_sound {x:Value}(h:bsK x w.heap K):∃v w',(Conv.bytesToString x).run P w=.ok v w'∧Same w w'∧K v w'.heap:=by
 unfold bsK at h
 split at h
 ·exact⟨_,w,rfl,Same.refl w,h⟩
 ·rename_i a n c
  split at h
  ·rename_i l hl
   split at h
   ·rename_i b hb
    refine⟨_,w,?_,Same.refl w,h⟩
    have h1:=zhW (P:=P) a _ 0 #[] l hl
    simp only[Conv.bytesToString,loadCells,Sem.run_bind,h1,Result.andThen_ok,Array.empty_append,List.forIn_toArray]
    rw[zrr _ (fun n s=>rfl) l b ByteArray.empty hb]
    simp
   ·exact h.elim
  ·exact h.elim
 ·exact h.elim
theorem zra {op:Op}(o:Oper)(ho:o.op=op)(h:effK P ρ op w.heap K):Done P K w ((execOp (ev ρ) o).run P w):=by
 unfold effK at h
 split at h
 case h_1 t=>
  split at h
  ·rename_i z hz
   simp only[execOp,ho]
   refine Done.of ⟨.pointer (some ⟨w.heap.size,0,none⟩),{w with heap:=w.heap.push (.cells z.cells t)},?_,⟨rfl,rfl,rfl⟩,h⟩
   simp only[Instr.alloc,Sem.run_bind,zan hz,Result.andThen_ok,newVar,newRow,zbN,Sem.run_pure]
  ·exact h.elim
 case h_2 t x=>
  simp only[execOp,ho]
  refine Done.of ⟨.pointer (some ⟨w.heap.size,0,none⟩),{w with heap:=w.heap.push (.cells (ev ρ x).cells t)},?_,⟨rfl,rfl,rfl⟩,h⟩
  simp only[Instr.box,Sem.run_bind,Result.andThen_ok,newVar,newRow,zbN,Sem.run_pure]
 case h_3 t len parts=>
  split at h
  ·rename_i e ht
   split at h
   ·rename_i s z hs hz
    split at h
    ·exact h.elim
    ·rename_i hsmall
     split at h
     ·rename_i l hl
      simp only[execOp,ho]
      exact Done.of (rowK_sound ht hs hz hsmall hl h)
     ·exact h.elim
   ·exact h.elim
  ·exact h.elim
 case h_4 t a x=>
  split at h
  ·rename_i n hn
   simp only[execOp,ho]
   exact Done.ofU (stK_sound hn h)
  ·exact h.elim
 case h_5 t l c=>
  split at h
  ·rename_i e ht
   split at h
   ·rename_i z size bytes hi
    simp only[execOp,ho]
    exact Done.of (mkK_sound ht hi h)
   ·exact h.elim
  ·exact h.elim
 case h_6 t=>
  simp only[execOp,ho]
  refine Done.of ⟨.map (some w.heap.size),{w with heap:=w.heap.push (.map #[] 0)},?_,⟨rfl,rfl,rfl⟩,h⟩
  simp only[Instr.makeMap,Option.map_none,Sem.run_bind,zbN,Result.andThen_ok,Sem.run_pure]
 case h_7 t m k x|h_8 t m k x=>
  split at h
  ·rename_i kt et ht
   split at h
   ·rename_i kd hk
    simp only[execOp,ho]
    exact Done.ofU (zsv ht hk h)
   ·exact h.elim
  ·exact h.elim
 case h_9 t m k=>
  split at h
  ·rename_i kt et ht
   split at h
   ·rename_i kd z hk hz
    simp only[execOp,ho]
    exact Done.of (zpu ht hk hz h)
   ·exact h.elim
  ·exact h.elim
 case h_10 t m s x=>
  simp only[execOp,ho]
  exact Done.ofU (zqF h)
 case h_11 t x=>
  split at h
  ·rename_i kt et ht
   simp only[execOp,ho]
   exact Done.of (zo6 ht h)
  ·rename_i ht
   simp only[execOp,ho]
   exact Done.of (zo5 ht h)
  ·exact h.elim
 case h_12 it s=>
  simp only[execOp,ho]
  cases s
  ·exact Done.of (zqE h)
  ·exact Done.of (zqD h)
 case h_13 it=>
  simp only[execOp,ho]
  exact Done.of (entryK_sound h)
 case h_14 c=>
  split at h
  ·rename_i b hb
   have:=effB_sound (P:=P) (w:=w) (ty:=o.type) (cs:=c.args.map fun| .const _=>true|_=>false) h
   rw[Array.toArray_toList]at this
   simp only[execOp,ho,resolve,hb,Sem.run_bind,Sem.run_pure,Result.andThen_ok,invoke]
   exact this
  ·rename_i f hb
   simp only[execOp,ho,resolve,hb,ev,Deferred.ofValue,Sem.run_bind,Sem.run_pure,Result.andThen_ok,invoke]
   simp only[Array.empty_append,Array.append_empty]
   exact h.done
  ·rename_i x _ hb
   simp only[execOp,ho,resolve,hb]
   exact clK_sound h
  ·exact h.elim
 case h_15 s d x=>
  split at h
  ·rename_i e h1 h2
   split at h
   ·rename_i h3
    simp only[execOp,ho]
    refine Done.of ?_
    obtain⟨v,w',h4,h5,h6⟩:=bsK_sound (P:=P) h
    refine⟨v,w',?_,h5,h6⟩
    simp only[convert,Sem.run_bind,run_underlying h1,run_underlying h2,run_underlying h3,Result.andThen_ok]
    generalize ev ρ x=y at h h4 ⊢
    cases y<;>first|exact h4|(simp only[Sem.run_bind,run_underlying h3,Result.andThen_ok];exact h4)|exact h.elim
   ·exact h.elim
  ·exact h.elim
 case h_16=>exact h.elim
end
end
end Go.Crisp
namespace Go.Crisp
section
def gV (g:Value)(want:Bool)(r:Option Value):Option Value:=
 match g with
 | .bool b=>bif b==want then r else some undef
 |_=>some undef
def gK (g:Value)(want:Bool)(m:(Value→Heap→Prop)→Prop)(h:Heap)(K:Value→Heap→Prop):Prop:=
 match g with
 | .bool b=>bif b==want then m K else K undef h
 |_=>K undef h
def gOf (all:Array Oper)(ρ:Env)(j:Nat):Value:=
 match(all[j]?).bind (·.dst)with
 |some t=>ρ t
 |none=>undef
def roG (P:Program)(all:Array Oper)(ρ:Env)(o:Oper)(h:Heap):Option (Option Value):=
 match roV P ρ o.op h with
 |some r=>match o.guard with
  |none=>some r
  |some (j,want)=>some (gV (gOf all ρ j) want r)
 |none=>none
def effG (P:Program)(all:Array Oper)(ρ:Env)(o:Oper)(h:Heap)(K:Value→Heap→Prop):Prop:=
 match o.guard with
 |none=>effK P ρ o.op h K
 |some (j,want)=>gK (gOf all ρ j) want (fun K=>effK P ρ o.op h K) h K
def cOp0 (P:Program)(all:Array Oper)(ρ:Env)(o:Oper)(h:Heap)(K:Value→Heap→Prop):Prop:=
 match roG P all ρ o h with
 |some r=>vK r fun v=>K v h
 |none=>effG P all ρ o h K
def valG (P:Program)(ρ:Env)(o:Oper):Option Value:=
 match o.guard with
 |some _=>none
 | none=>match o.op with
  | .move x=>some (ev ρ x)
  | .assign x=>some (ev ρ x)
  | .makeInterface t x=>match P.underlying t with
   |some (.interface _)=>none
   |some _=>some (.iface t (ev ρ x))
   |none=>none
  | .makeFunc fn first captured=>some (.func fn (first.map (ev ρ)) (captured.map (ev ρ)))
  |_=>none
theorem valG_ro {P:Program}{all:Array Oper}{ρ:Env}{o:Oper}{v:Value}(h:valG P ρ o=some v)(hp:Heap):roG P all ρ o hp=some (some v):=by
 unfold valG at h
 split at h
 ·cases h
 ·rename_i hg
  unfold roG
  split at h
  ·rename_i x ho
   simp only[ho,roV,hg,h]
  ·rename_i x ho
   simp only[ho,roV,hg,h]
  ·rename_i t x ho
   simp only[ho,roV,hg]
   cases hu:P.underlying t with
   |none=>simp[hu]at h
   |some d=>cases d<;>simp_all
  ·rename_i ho
   simp only[ho,roV,hg,h]
  ·cases h
def cOp (P:Program)(all:Array Oper)(ρ:Env)(o:Oper)(h:Heap)(K:Value→Heap→Prop):Prop:=
 match valG P ρ o with
 |some v=>K v h
 |none=>cOp0 P all ρ o h K
theorem cOp_cOp0 {P:Program}{all:Array Oper}{ρ:Env}{o:Oper}{h:Heap}{K:Value→Heap→Prop}(H:cOp P all ρ o h K):cOp0 P all ρ o h K:=by
 unfold cOp at H
 split at H
 ·rename_i v hv
  unfold cOp0
  rw[valG_ro hv h]
  exact H
 ·exact H
def roK (P:Program)(all:Array Oper)(ρ:Env)(o:Oper)(h:Heap)(K:Value→Prop):Prop:=
 match valG P ρ o with
 |some v=>K v
 |none=>match roG P all ρ o h with
  |some r=>vK r K
  |none=>False
theorem roK_ro {P:Program}{all:Array Oper}{ρ:Env}{o:Oper}{h:Heap}{K:Value→Prop}(H:roK P all ρ o h K):match roG P all ρ o h with|some r=>vK r K|none=>False:=by
 unfold roK at H
 split at H
 ·rename_i v hv
  rw[valG_ro hv h]
  exact H
 ·exact H
noncomputable def cOps (P:Program)(all:Array Oper)(l:List Oper):Env→Heap→(Env→Heap→Prop)→Prop:=
 List.rec (motive:=fun _=>Env→Heap→(Env→Heap→Prop)→Prop) (fun ρ h Q=>Q ρ h)
  (fun o _ ih ρ h Q=>cOp P all ρ o h fun v h=>ih (up ρ o.dst v) h Q) l
theorem cOps_cons {P:Program}{all:Array Oper}{o:Oper}{l:List Oper}{ρ:Env}{h:Heap}{Q:Env→Heap→Prop}:cOps P all (o::l) ρ h Q=cOp P all ρ o h fun v h=>cOps P all l (up ρ o.dst v) h Q:=rfl
noncomputable def cOpsR (P:Program)(all:Array Oper)(l:List Oper):Env→Heap→(Env→Heap→Prop)→Prop:=
 List.rec (motive:=fun _=>Env→Heap→(Env→Heap→Prop)→Prop) (fun ρ h Q=>Q ρ h)
  (fun o _ ih ρ h Q=>roK P all ρ o h fun v=>ih (up ρ o.dst v) h Q) l
def qK (S:Heap→Prop)(r:Heap→Option Value)(K:Value→Prop):Prop:=∃v,(∀h,S h→r h=some v)∧K v
def drawK (h:Heap)(body:(Heap→Prop)→Prop):Prop:=∃S:Heap→Prop,S h∧body S
def zmE (P:Program):Op→Bool
 | .load .. | .lookup .. | .call _=>false
 | .binOp _ t x y _=>match ekOf P t with
  | .p=>nilO x||nilO y
  |_=>true
 |_=>true
inductive PK where
 |e|r|f|n
inductive PT where
 |nil
 |op (i:Nat) (q:PK) (t:PT)
 |alt (x y:PT)
noncomputable def cDraw (P:Program)(all:Array Oper)(plan:PT):(Heap→Prop)→Env→Heap→(Env→Heap→Prop)→Prop:=
 PT.rec (motive:=fun _=>(Heap→Prop)→Env→Heap→(Env→Heap→Prop)→Prop) (fun _ ρ h Q=>Q ρ h)
  (fun i q _ ih S ρ h Q=>match all[i]? with
   |none=>False
   | some o=>match q with
    | .r=>match zmE P o.op with
     |true=>roK P all ρ o h (fun v=>ih S (up ρ o.dst v) h Q)
     |false=>qK S (fun h=>match roG P all ρ o h with|some r=>r|none=>none) (fun v=>ih S (up ρ o.dst v) h Q)
    | .e=>cOp P all ρ o h fun v h=>S h∧ih S (up ρ o.dst v) h Q
    | .f=>cOp P all ρ o h fun v h=>drawK h fun S=>ih S (up ρ o.dst v) h Q
    | .n=>cOp P all ρ o h fun v h=>ih (fun _=>True) (up ρ o.dst v) h Q)
  (fun _ _ ihx ihy S ρ h Q=>ihx S ρ h Q∧ihy S ρ h Q) plan
theorem cDraw_alt {P:Program}{all:Array Oper}{x y:PT}{S:Heap→Prop}{ρ:Env}{h:Heap}{Q:Env→Heap→Prop}:cDraw P all (.alt x y) S ρ h Q=(cDraw P all x S ρ h Q∧cDraw P all y S ρ h Q):=rfl
theorem cDraw_cons {P:Program}{all:Array Oper}{S:Heap→Prop}{i:Nat}{q:PK}{l:PT}{ρ:Env}{h:Heap}{Q:Env→Heap→Prop}:cDraw P all (.op i q l) S ρ h Q=match all[i]? with
  |none=>False
  | some o=>match q with
   | .r=>match zmE P o.op with
    |true=>roK P all ρ o h (fun v=>cDraw P all l S (up ρ o.dst v) h Q)
    |false=>qK S (fun h=>match roG P all ρ o h with|some r=>r|none=>none) (fun v=>cDraw P all l S (up ρ o.dst v) h Q)
   | .e=>cOp P all ρ o h fun v h=>S h∧cDraw P all l S (up ρ o.dst v) h Q
   | .f=>cOp P all ρ o h fun v h=>drawK h fun S=>cDraw P all l S (up ρ o.dst v) h Q
   | .n=>cOp P all ρ o h fun v h=>cDraw P all l (fun _=>True) (up ρ o.dst v) h Q:=by cases q<;>rfl
inductive Ex where
 |nx|br (n:Nat)|rt
inductive Ann where
 |z
 |s (x y:Ann)
 |j (ws:Nat) (cs:List Nat) (x y:Ann)
 |m (ws:Nat) (cs:List Nat) (x:Ann)
 |l (ws:Nat) (cs:List Nat) (x:Ann)
 |d (plan:PT)
def ix (xs:List Value)(i:Nat):Value:=xs.getD i undef
def posOf (t:Nat):Nat→List Nat→Option Nat
 |_,[]=>none
 |k,c::cs=>bif Nat.beq t c then some k else posOf t (k+1) cs
def zcH:Code→List Tmp
 | .region _ ops _=>ops.toList.filterMap (·.dst)
 | .seq x y=>zcH x++zcH y
 | .cond _ x y=>zcH x++zcH y
 | .block _ x=>zcH x
 | .loop x=>zcH x
 |_=>[]
def memN (t:Nat):List Nat→Bool
 | []=>false
 |c::cs=>bif Nat.beq t c then true else memN t cs
def bitOf (ws t:Nat):Bool:=Nat.beq (Nat.land (Nat.shiftRight ws t) 1) 1
def zmU (ws:Nat):List Nat→Bool
 | []=>true
 |c::cs=>bitOf ws c&&zmU ws cs
def havoc (ρ ρj:Env)(ws:Nat)(cs:List Nat)(xs:List Value):Env:=fun t=>
 match posOf t 0 cs with
 |some i=>ix xs i
 |none=>match bitOf ws t with
  |true=>ρj t
  |false=>ρ t
def joinK (body:(List Value→Heap→Prop)→Prop)(rest:List Value→Env→Heap→Prop):Prop:=
 ∃J:List Value→Heap→Prop,body J∧∀xs ρj h,J xs h→rest xs ρj h
def loopK (init:List Value)(h:Heap)(body:List Value→Env→Heap→(List Value→Heap→Prop)→Prop):Prop:=
 ∃(I:List Value→Heap→Prop) (m:List Value→Heap→Nat),I init h∧∀xs ρj h,I xs h→body xs ρj h fun ys h'=>I ys h'∧m ys h'<m xs h
def iteK (c:Value)(x y:Prop):Prop:=
 match c with
 | .bool b=>bif b then x else y
 |_=>False
abbrev CK:=Ann→Env→Heap→(Ex→Env→Heap→Prop)→Prop
def seqC (x y:CK):CK:=fun an ρ h Q=>match an with
 | .s a b=>x a ρ h fun e ρ h=>match e with
  | .nx=>y b ρ h Q
  |e=>Q e ρ h
 | .j ws cs a b=>joinK (fun J=>x a ρ h fun e ρ h=>match e with
   | .nx=>J (cs.map ρ) h
   |e=>Q e ρ h) fun xs ρj h=>y b (havoc ρ ρj ws cs xs) h Q
 |_=>False
def condC (c:Operand)(x y:CK):CK:=fun an ρ h Q=>match an with
 | .s a b=>iteK (ev ρ c) (x a ρ h Q) (y b ρ h Q)
 |_=>False
def blockC (id:Nat) (x:CK):CK:=fun an ρ h Q=>match an with
 | .m ws cs a=>joinK (fun J=>x a ρ h fun e ρ h=>match e with
   | .nx=>J (cs.map ρ) h
   | .br n=>match Nat.beq n id with
    |true=>J (cs.map ρ) h
    |false=>Q (.br n) ρ h
   | .rt=>Q .rt ρ h) fun xs ρj h=>Q .nx (havoc ρ ρj ws cs xs) h
 | a=>x a ρ h fun e ρ h=>match e with
  | .nx=>Q .nx ρ h
  | .br n=>match Nat.beq n id with
   |true=>Q .nx ρ h
   |false=>Q (.br n) ρ h
  | .rt=>Q .rt ρ h
def loopC (x:CK):CK:=fun an ρ h Q=>match an with
 | .l ws cs a=>loopK (cs.map ρ) h fun xs ρj h again=>x a (havoc ρ ρj ws cs xs) h fun e ρ h=>match e with
  | .nx=>again (cs.map ρ) h
  |e=>Q e ρ h
 |_=>False
noncomputable def regionC (P:Program)(ops:Array Oper)(draw:Bool):CK:=fun an ρ h Q=>match an with
 | .d plan=>drawK h fun S=>cDraw P ops plan S ρ h (Q .nx)
 |_=>match draw with
  |true=>cOpsR P ops ops.toList ρ h (Q .nx)
  |false=>cOps P ops ops.toList ρ h (Q .nx)
noncomputable def cCode (P:Program)(c:Code):CK:=
 Code.rec (motive:=fun _=>CK)
  (fun _ ρ h Q=>Q .nx ρ h)
  (fun _ ops draw=>regionC P ops draw)
  (fun _ _ ihx ihy=>seqC ihx ihy)
  (fun c _ _ ihx ihy=>condC c ihx ihy)
  (fun id _ ih=>blockC id ih)
  (fun _ ih=>loopC ih)
  (fun _ _ _ _ _ _=>fun _ _ _ _=>False)
  (fun id _ ρ h Q=>Q (.br id) ρ h)
  (fun _ _=>fun _ _ _ _=>False)
  (fun _=>fun _ _ _ _=>False)
  (fun _=>fun _ _ _ _=>False)
  (fun _ ρ h Q=>Q .rt ρ h)
  (fun _=>fun _ _ _ _=>False)
  c
def pathB (ops:Array Oper):Nat→Nat→Nat→Bool
 |0,_,_=>false
 |n+1,k,i=>match ops[k]? with
  |some o=>o.after.any fun e=>Region.binds .any e&&(e.on==i||pathB ops n e.on i)
  |none=>false
def edgeM:List Edge→Nat→Nat
 | [],m=>m
 |e::l,m=>edgeM l (match Region.binds .any e with|true=>Nat.lor m (Nat.pow 2 e.on)|false=>m)
def ancM (ops:Array Oper):Nat→Nat→Nat
 |0,m=>m
 | j+1,m=>ancM ops j (match bitOf m j with
  |true=>match ops[j]? with
   |some o=>edgeM o.after.toList m
   |none=>m
  |false=>m)
def pathM (ops:Array Oper)(k i:Nat):Bool:=bitOf (ancM ops ops.size (match ops[k]? with|some o=>edgeM o.after.toList 0|none=>0)) i
def zcS:PT→List Nat
 | .nil=>[]
 | .op i q t=>match q with
  | .f=>[i]
  | .n=>[i]
  |_=>zcS t
 | .alt x y=>zcS x++zcS y
def zjy:PT→List Nat
 | .nil=>[]
 | .op i _ _=>[i]
 | .alt x y=>zjy x++zjy y
def zkS:PT→Nat
 | .nil=>0
 | .op _ _ t=>zkS t+1
 | .alt x y=>Nat.max (zkS x) (zkS y)
def pureAt (P:Program)(ops:Array Oper)(i:Nat):Bool:=
 match ops[i]? with
 |some o=>zmE P o.op
 |none=>false
def zgQ (P:Program)(ops:Array Oper):PT→Bool→List Nat→Array Bool→Bool
 | .nil,root,_,listed=>root&&(Region.ready .any ops listed).isEmpty
 | .op i q t,root,fs,listed=>(match q with
   | .r=>root&&(Region.free .any ops listed i&&(Region.ready .any ops listed).contains i&&(zcS t).all fun k=> !(k==i)&&(pureAt P ops i||pathM ops k i))
   | .e=>(bif root then Region.ready .any ops listed==[i]else(Region.ready .any ops listed).contains i)&& !((bif root then zcS t else fs).contains i)
   |_=>bif root then Region.ready .any ops listed==[i]else(Region.ready .any ops listed).contains i)&&zgQ P ops t true [] (listed.setIfInBounds i true)
 | .alt x y,root,fs,listed=>(bif root then(Region.ready .any ops listed).all fun i=>(zjy x++zjy y).contains i else true)&&
   (zgQ P ops x false (bif root then zcS x++zcS y else fs) listed&&zgQ P ops y false (bif root then zcS x++zcS y else fs) listed)
def opsOk (n:Nat):List Oper→Bool
 | []=>true
 |o::l=>(match o.dst with|some d=>Nat.blt d n|none=>true)&&opsOk n l
def zcC (P:Program)(n:Nat):Code→Ann→Bool
 | .skip,_=>true
 | .region _ ops draw,an=>opsOk n ops.toList&&match an with
  | .d plan=>draw&&Region.noSelect ops&&Nat.ble (zkS plan) ops.size&&zgQ P ops plan true [] (Array.replicate ops.size false)
  |_=>bif draw then Region.lexB .any ops else true
 | .seq x y,an=>match an with
  | .s a b=>zcC P n x a&&zcC P n y b
  | .j ws _ a b=>zmU ws (zcH x)&&(zcC P n x a&&zcC P n y b)
  |_=>false
 | .cond _ x y,an=>match an with
  | .s a b=>zcC P n x a&&zcC P n y b
  |_=>false
 | .block _ x,an=>match an with
  | .m ws _ a=>zmU ws (zcH x)&&zcC P n x a
  |a=>zcC P n x a
 | .loop x,an=>match an with
  | .l ws _ a=>zmU ws (zcH x)&&zcC P n x a
  |_=>false
 | .exit _,_=>true
 | .ret,_=>true
 |_,_=>false
def Rel (n:Nat)(a:Act)(ρ:Env):Prop:=a.tmps.size=n∧a.defers=[]∧∀t,a.tmps.getD t undef=ρ t
theorem Rel.eval {n:Nat}{a:Act}{ρ:Env}(h:Rel n a ρ):a.eval=ev ρ:=by
 funext x
 cases x<;>simp only[Act.eval,ev]
 exact h.2.2 _
theorem Rel.put {n:Nat}{a:Act}{ρ:Env}(h:Rel n a ρ){d:Option Tmp}(hd:(match d with|some d=>Nat.blt d n|none=>true)=true)(v:Value):Rel n (a.put d v) (up ρ d v):=by
 cases d with
 |none=>exact h
 | some d=>
  refine⟨by simp[Act.put,h.1],h.2.1,fun t=>?_⟩
  have hd':d<a.tmps.size:=by rw[h.1];simpa[Nat.blt_eq]using hd
  simp only[Act.put,up]
  have:=h.2.2 t
  by_cases ht:t=d
  ·subst ht
   simp[hd']
  ·have hb:Nat.beq t d=false:=by rw[Bool.eq_false_iff];intro hb;exact ht (Nat.eq_of_beq_eq_true hb)
   simp only[hb]
   rw[←this]
   simp only[Array.getD_eq_getD_getElem?]
   rw[Array.getElem?_setIfInBounds_ne (Ne.symm ht)]
def Post (n:Nat)(ρ:Env)(ws:List Tmp)(w0:World)(Q:Ex→Env→Heap→Prop):Exit→Act→World→Prop:=fun e a w=>
 ∃ρ2,Rel n a ρ2∧(∀t,memN t ws=false→ρ2 t=ρ t)∧Same w0 w∧match e with
  | .normal=>Q .nx ρ2 w.heap
  | .exit id=>Q (.br id) ρ2 w.heap
  | .ret=>Q .rt ρ2 w.heap
  |_=>False
theorem zga (t:Nat):∀a b:List Nat,memN t (a++b)=(memN t a||memN t b)
 | [],b=>by simp[memN]
 |c::a,b=>by
  simp only[List.cons_append,memN,zga t a b]
  cases Nat.beq t c<;>simp
theorem zoy {n:Nat}{a:Act}{ρ:Env}(hr:Rel n a ρ){all:Array Oper}{j:Nat}{want:Bool}{o:Oper}(hg:o.guard=some (j,want)):
  Region.wanted o (yielded all a.tmps)=(match gOf all ρ j with| .bool b=>b==want|_=>false):=by
 unfold Region.wanted
 rw[hg]
 simp only
 unfold yielded gOf
 cases hd:(all[j]?).bind (·.dst)with
 |none=>rfl
 |some t=>
  have h2:=hr.2.2 t
  simp only[Option.bind_some]
  rw[←h2]
  simp only[Array.getD_eq_getD_getElem?]
  cases h3:a.tmps[t]? with
  |none=>rfl
  |some v=>cases v<;>simp
section
variable {P:Program}{ρ:Env}{w:World}{n:Nat}{a:Act}
theorem zjT {o:Oper}{K:Value→Heap→Prop}{next:Act→World→Prop}{Q:Exit→Act→World→Prop}(h:Done P K w ((execOp a.eval o).run P w))
  (hn:∀v w',Same w w'→K v w'.heap→next (a.put o.dst v) w'):o.wp P a w next Q:=by
 unfold Oper.wp
 generalize(execOp a.eval o).run P w=r at h
 unfold Done at h
 split at h
 ·exact hn _ _ h.1 h.2
 ·exact hn _ _ h.1 h.2
 ·obtain⟨rfl,hc⟩:=h
  refine(hc.2 _ rfl).mono ?_
  rintro e w' ⟨v,rfl,hs,hk⟩
  exact hn v w' hs hk
 ·exact h.elim
theorem cOp_sound [zeW P]{all:Array Oper}{o:Oper}{K:Value→Heap→Prop}{next:Act→World→Prop}{Q:Exit→Act→World→Prop}(hr:Rel n a ρ)(h:cOp P all ρ o w.heap K)
  (hn:∀v w',Same w w'→K v w'.heap→next (a.put o.dst v) w'):
  if Region.wanted o (yielded all a.tmps)then o.wp P a w next Q∨(o.asks P a w∧LetsOut Q)else next (a.put o.dst undef) w:=by
 have h:=cOp_cOp0 h
 unfold cOp0 at h
 cases hro:roV P ρ o.op w.heap with
 | some r=>
  simp only[roG,hro]at h
  cases hg:o.guard with
  | none=>
   simp only[hg]at h
   have hw:Region.wanted o (yielded all a.tmps)=true:=by simp[Region.wanted,hg]
   rw[if_pos hw]
   refine .inl ?_
   unfold vK at h
   split at h
   ·rename_i v
    refine zjT (K:=K) ?_ hn
    rw[hr.eval,zjj o rfl hro rfl]
    exact⟨Same.refl w,h⟩
   ·exact h.elim
  | some p=>
   obtain⟨j,want⟩:=p
   simp only[hg]at h
   rw[zoy hr hg]
   unfold gV at h
   split at h
   ·rename_i b hb
    by_cases hbw:(b==want)=true
    ·rw[hbw]at h
     simp only[cond_true]at h
     rw[if_pos hbw]
     refine .inl ?_
     unfold vK at h
     split at h
     ·rename_i v
      refine zjT (K:=K) ?_ hn
      rw[hr.eval,zjj o rfl hro rfl]
      exact⟨Same.refl w,h⟩
     ·exact h.elim
    ·have hbw':(b==want)=false:=by simpa using hbw
     rw[hbw']at h
     simp only[cond_false,vK]at h
     rw[if_neg hbw]
     exact hn _ _ (Same.refl w) h
   ·rename_i hb
    simp only[vK]at h
    rw[if_neg (by simp)]
    exact hn _ _ (Same.refl w) h
 | none=>
  simp only[roG,hro,effG]at h
  cases hg:o.guard with
  |none=>
   simp only[hg]at h
   have hw:Region.wanted o (yielded all a.tmps)=true:=by simp[Region.wanted,hg]
   rw[if_pos hw]
   refine .inl (zjT (K:=K) ?_ hn)
   rw[hr.eval]
   exact zra o rfl h
  | some p=>
   obtain⟨j,want⟩:=p
   simp only[hg]at h
   rw[zoy hr hg]
   unfold gK at h
   split at h
   ·rename_i b hb
    by_cases hbw:(b==want)=true
    ·rw[hbw]at h
     simp only[cond_true]at h
     rw[if_pos hbw]
     refine .inl (zjT (K:=K) ?_ hn)
     rw[hr.eval]
     exact zra o rfl h
    ·have hbw':(b==want)=false:=by simpa using hbw
     rw[hbw']at h
     simp only[cond_false]at h
     rw[if_neg hbw]
     exact hn _ _ (Same.refl w) h
   ·rename_i hb
    rw[if_neg (by simp)]
    exact hn _ _ (Same.refl w) h
theorem zm1 {o:Oper}{l:List Oper}(h:opsOk n (o::l)=true):(match o.dst with|some d=>Nat.blt d n|none=>true)=true∧opsOk n l=true:=by
 simpa[opsOk]using h
theorem up_keeps {d:Option Tmp}{v:Value}{t:Nat}{rest:List Tmp}(ht:memN t (match d with|some d=>d::rest|none=>rest)=false):up ρ d v t=ρ t∧memN t rest=false:=by
 cases d with
 |none=>exact⟨rfl,ht⟩
 |some d=>
  simp only[memN]at ht
  simp only[up]
  cases hb:Nat.beq t d with
  |true=>rw[hb]at ht;cases ht
  |false=>rw[hb]at ht;exact⟨rfl,ht⟩
theorem zrq [zeW P]{all:Array Oper}{Q:Ex→Env→Heap→Prop}{Q':Exit→Act→World→Prop}:∀(l:List Oper) (k:Nat) (ρ:Env) (a:Act) (w:World),all.toList.drop k=l→opsOk n l=true→Rel n a ρ→
  cOps P all l ρ w.heap (Q .nx)→(∀e a' w',Post n ρ (l.filterMap (·.dst)) w Q e a' w'→Q' e a' w')→wpOps P all Q' (List.range' k l.length) a w
 | [],k,ρ,a,w,_,_,hr,h,hQ=>by
  simp only[List.length_nil,List.range'_zero,wpOps]
  exact hQ _ _ _ ⟨ρ,hr,fun _ _=>rfl,Same.refl w,h⟩
 | o::l,k,ρ,a,w,hd,hok,hr,h,hQ=>by
  have hk:all[k]? =some o:=by
   rw[←Array.getElem?_toList]
   have:(all.toList.drop k)[0]? =some o:=by rw[hd];rfl
   simpa using this
  have hd':all.toList.drop (k+1)=l:=by
   have:(all.toList.drop k).drop 1=l:=by rw[hd];rfl
   simpa[List.drop_drop]using this
  obtain⟨h1,h2⟩:=zm1 hok
  simp only[List.length_cons,List.range'_succ,wpOps,hk]
  rw[cOps_cons]at h
  refine cOp_sound (n:=n) hr h fun v w' hs hK=>?_
  refine zrq l (k+1) (up ρ o.dst v) _ w' hd' h2 (hr.put h1 v) hK fun e a' w'' ⟨ρ2,g1,g2,g3,g4⟩=>hQ e a' w'' ⟨ρ2,g1,fun t ht=>?_,hs.trans g3,g4⟩
  have:=up_keeps (ρ:=ρ) (d:=o.dst) (v:=v) (t:=t) (rest:=l.filterMap (·.dst)) (by cases hdst:o.dst<;>simp[hdst]at ht ⊢ <;>exact ht)
  rw[g2 t this.2,this.1]
theorem wanted_quiet [zeW P]{all:Array Oper}{o:Oper}{C:World→Prop}{K:Act→Prop}{h:Heap}{K0:Value→Prop}(hr:Rel n a ρ)(hC:∀w,C w→w.heap=h)
  (hv:roK P all ρ o h K0) (hn:∀v,K0 v→K (a.put o.dst v)):
  if Region.wanted o (yielded all a.tmps)then o.quiet P a C K else K (a.put o.dst undef):=by
 have hv:=roK_ro hv
 unfold roG at hv
 cases hro:roV P ρ o.op h with
 |none=>simp[hro]at hv
 | some r=>
  simp only[hro]at hv
  have hq:∀v,r=some v→∀w,C w→o.quietAt P a C w v:=by
   intro v hrv w hw
   unfold Oper.quietAt
   rw[hr.eval,zjj (w:=w) o rfl (by rw[hC w hw];exact hro) hrv]
   exact⟨rfl,rfl⟩
  cases hg:o.guard with
  | none=>
   simp only[hg]at hv
   rw[if_pos (by simp[Region.wanted,hg])]
   unfold vK at hv
   split at hv
   ·rename_i v
    exact⟨v,hq v rfl,hn v hv⟩
   ·exact hv.elim
  | some p=>
   obtain⟨j,want⟩:=p
   simp only[hg]at hv
   rw[zoy hr hg]
   unfold gV at hv
   split at hv
   ·rename_i b hb
    by_cases hbw:(b==want)=true
    ·rw[hbw]at hv
     simp only[cond_true]at hv
     rw[if_pos hbw]
     unfold vK at hv
     split at hv
     ·rename_i v
      exact⟨v,hq v rfl,hn v hv⟩
     ·exact hv.elim
    ·have hbw':(b==want)=false:=by simpa using hbw
     rw[hbw']at hv
     simp only[cond_false,vK]at hv
     rw[if_neg hbw]
     exact hn _ hv
   ·rename_i hb
    simp only[vK]at hv
    rw[if_neg (by simp)]
    exact hn _ hv
theorem zpZ [zeW P]{all:Array Oper}{Q:Ex→Env→Heap→Prop}{C:World→Prop}{h:Heap}{Q':Act→Prop}(hC:∀w,C w→w.heap=h):∀(l:List Oper) (ρ:Env) (a:Act),opsOk n l=true→Rel n a ρ→
  cOpsR P all l ρ h (Q .nx)→(∀a' ρ2,Rel n a' ρ2→(∀t,memN t (l.filterMap (·.dst))=false→ρ2 t=ρ t)→Q .nx ρ2 h→Q' a')→wpQuiet P all C Q' l a
 | [],ρ,a,_,hr,hh,hQ=>hQ _ ρ hr (fun _ _=>rfl) hh
 |o::l,ρ,a,hok,hr,hh,hQ=>by
  obtain⟨h1,h2⟩:=zm1 hok
  simp only[wpQuiet]
  refine wanted_quiet (n:=n) (h:=h) hr hC (K0:=fun v=>cOpsR P all l (up ρ o.dst v) h (Q .nx)) hh fun v hK=>?_
  refine zpZ hC l (up ρ o.dst v) _ h2 (hr.put h1 v) hK fun a' ρ2 g1 g2 g3=>hQ a' ρ2 g1 (fun t ht=>?_) g3
  have:=up_keeps (ρ:=ρ) (d:=o.dst) (v:=v) (t:=t) (rest:=l.filterMap (·.dst)) (by cases hdst:o.dst<;>simp[hdst]at ht ⊢ <;>exact ht)
  rw[g2 t this.2,this.1]
theorem zqR (w:World):Same w {w with drawn:=w.drawn+1}:=⟨rfl,rfl,rfl⟩
theorem Region.wanted_eq {all:Array Oper}{o:Oper}(hr:Rel n a ρ):Region.wanted o (yielded all a.tmps)=match o.guard with
  |none=>true
  |some (j,want)=>match gOf all ρ j with| .bool b=>b==want|_=>false:=by
 cases hg:o.guard with
 |none=>simp[Region.wanted,hg]
 |some p=>obtain⟨j,want⟩:=p;exact zoy hr hg
theorem zoM [zeW P]{all:Array Oper}{o:Oper}{S:Heap→Prop}{v:Value}{h0:Heap}(hr:Rel n a ρ)(h0S:S h0)
  (hv:∀h,S h→(match roG P all ρ o h with|some r=>r|none=>none)=some v):YieldsIf P all (fun w=>S w.heap) o v a:=by
 unfold YieldsIf
 rw[Region.wanted_eq hr]
 have key:∀h,S h→∃r,roV P ρ o.op h=some r∧(match o.guard with|none=>r|some (j,want)=>gV (gOf all ρ j) want r)=some v:=by
  intro h hh
  have:=hv h hh
  unfold roG at this
  cases hro:roV P ρ o.op h with
  |none=>simp[hro]at this
  |some r=>
   simp only[hro]at this
   refine⟨r,rfl,?_⟩
   cases hg:o.guard with
   |none=>simpa[hg]using this
   |some p=>simpa[hg]using this
 cases hg:o.guard with
 |none=>
  refine .inl ⟨rfl,fun w hw=>?_⟩
  obtain⟨r,h1,h2⟩:=key _ hw
  simp only[hg]at h2
  rw[hr.eval]
  exact zjj o rfl h1 h2
 | some p=>
  obtain⟨j,want⟩:=p
  simp only[hg]at key
  cases hgo:gOf all ρ j with
  | bool b=>
   simp only[hgo,gV]at key
   cases hbw:(b==want)with
   |true=>
    refine .inl ⟨by simp only[hgo];exact hbw,fun w hw=>?_⟩
    obtain⟨r,h1,h2⟩:=key _ hw
    rw[hbw,cond_true]at h2
    rw[hr.eval]
    exact zjj o rfl h1 h2
   |false=>
    obtain⟨r,h1,h2⟩:=key _ h0S
    rw[hbw,cond_false]at h2
    exact .inr ⟨by simp only[hgo];exact hbw,(Option.some.inj h2).symm⟩
  |_=>
   obtain⟨r,h1,h2⟩:=key _ h0S
   simp only[hgo,gV]at h2
   exact .inr ⟨by simp only[hgo],(Option.some.inj h2).symm⟩
theorem zkT [zeW P]{all:Array Oper}{i:Nat}{o:Oper}{K:Value→Heap→Prop}{next:Act→World→Prop}{Q:Exit→Act→World→Prop}(hi:all[i]? =some o)(hr:Rel n a ρ)(h:cOp P all ρ o w.heap K)
  (hn:∀v w',Same w w'→K v w'.heap→next (a.put o.dst v) w'):wpOp P all Q i next a w:=by
 unfold wpOp
 simp only[hi]
 exact cOp_sound hr h hn
theorem opsOk_get {o:Oper}:∀(l:List Oper) (i:Nat),opsOk n l=true→l[i]? =some o→(match o.dst with|some d=>Nat.blt d n|none=>true)=true:=by
 intro l
 induction l with
 |nil=>intro i _ h;simp at h
 | cons o' l ih=>
  intro i h hi
  obtain⟨h1,h2⟩:=zm1 h
  cases i with
  |zero=>
   simp only[List.getElem?_cons_zero,Option.some.injEq]at hi
   subst hi
   exact h1
  |succ i=>
   simp only[List.getElem?_cons_succ]at hi
   exact ih i h2 hi
theorem zps:∀{t:Nat} {l:List Nat},t∈l→memN t l=true
 | t,c::l,h=>by
  simp only[memN]
  cases hb:Nat.beq t c with
  |true=>rfl
  |false=>
   rcases List.mem_cons.1 h with rfl|h
   ·simp at hb
   ·exact zps h
theorem roG_heapless {all:Array Oper}{o:Oper}(h:zmE P o.op=true)(h1 h2:Heap):roG P all ρ o h1=roG P all ρ o h2:=by
 have:roV P ρ o.op h1=roV P ρ o.op h2:=by
  cases ho:o.op with
  | binOp op t x y z=>
   rw[ho]at h
   have h:(match ekOf P t with| .p=>nilO x||nilO y|_=>true)=true:=h
   unfold roV
   cases he:ekOf P t with
   |p=>
    rw[he]at h
    have h:(nilO x||nilO y)=true:=h
    simp only[h]
   |_=>simp only[he]
  |_=>first|rfl|(rename_i m;cases m<;>rfl)|(exfalso;rw[ho]at h;cases h)
 unfold roG
 rw[this]
def zp6 (ops:Array Oper)(listed:Array Bool):Prop:=
 ∀k o,ops[k]? =some o→listed.getD k false=true→∀e∈o.after,Region.binds .any e=true→listed.getD e.on false=true
theorem zp6.step {ops:Array Oper}{listed:Array Bool}{j:Nat}(h:zp6 ops listed)(hj:j∈Region.ready .any ops listed):zp6 ops (listed.setIfInBounds j true):=by
 intro k o hk hl e he hb
 refine getD_set_true ?_
 by_cases hkj:k=j
 ·subst hkj
  obtain⟨_,o',ho',hall⟩:=mem_ready.1 hj
  rw[hk]at ho'
  cases ho'
  exact hall e he hb
 ·exact h k o hk (by rw[←getD_set_ne false (Ne.symm hkj)];exact hl) e he hb
theorem zpa {ops:Array Oper}{listed:Array Bool}(h:zp6 ops listed){i:Nat}:∀(n k:Nat),pathB ops n k i=true→(∀o,ops[k]? =some o→∀e∈o.after,Region.binds .any e=true→listed.getD e.on false=true)→listed.getD i false=true
 |0,k,hp,_=>by simp[pathB]at hp
 | n+1,k,hp,hk=>by
  unfold pathB at hp
  cases ho:ops[k]? with
  |none=>simp[ho]at hp
  |some o=>
   simp only[ho,Array.any_eq_true',Bool.and_eq_true,Bool.or_eq_true,beq_iff_eq]at hp
   obtain⟨e,he,hb,hp⟩:=hp
   have hl:=hk o ho e he hb
   rcases hp with rfl|hp
   ·exact hl
   ·exact zpa h n e.on hp fun o' ho' e' he' hb'=>h e.on o' ho' hl e' he' hb'
theorem bitOf_or (m e i:Nat):bitOf (Nat.lor m (Nat.pow 2 e)) i=true→bitOf m i=true∨i=e:=by
 have hb:∀m t,bitOf m t=m.testBit t:=by
  intro m t
  unfold bitOf
  have h1:Nat.land (Nat.shiftRight m t) 1=(m>>>t)%2:=Nat.and_one_is_mod _
  rw[h1,Nat.shiftRight_eq_div_pow,Nat.testBit_eq_decide_div_mod_eq]
  cases h:Nat.beq (m/2^t%2) 1 with
  |true=>simp[Nat.eq_of_beq_eq_true h]
  |false=>have:¬m/2^t%2=1:=Nat.ne_of_beq_eq_false h;simp[this]
 rw[hb,hb]
 intro h
 have h:(m|||2^e).testBit i=true:=h
 rw[Nat.testBit_or,Nat.testBit_two_pow,Bool.or_eq_true,decide_eq_true_eq]at h
 rcases h with h|h
 ·exact .inl h
 ·exact .inr h.symm
theorem zqW {ops:Array Oper}{j i:Nat}{o:Oper}(ho:ops[j]? =some o){e:Edge}(he:e∈o.after)(hb:Region.binds .any e=true)(hi:e.on=i):∀(n k:Nat),pathB ops n k j=true→∃n,pathB ops n k i=true
 |0,k,h=>by simp[pathB]at h
 | n+1,k,h=>by
  unfold pathB at h
  cases hk:ops[k]? with
  |none=>simp[hk]at h
  | some o'=>
   simp only[hk,Array.any_eq_true',Bool.and_eq_true,Bool.or_eq_true,beq_iff_eq]at h
   obtain⟨e',he',hb',h⟩:=h
   have fin:∀m,pathB ops m e'.on i=true→∃n,pathB ops n k i=true:=fun m hm=>⟨m+1,by
    unfold pathB
    simp only[hk,Array.any_eq_true',Bool.and_eq_true,Bool.or_eq_true,beq_iff_eq]
    exact⟨e',he',hb',.inr hm⟩⟩
   rcases h with h|h
   ·refine fin 1 ?_
    unfold pathB
    rw[h]
    simp only[ho,Array.any_eq_true',Bool.and_eq_true,Bool.or_eq_true,beq_iff_eq]
    exact⟨e,he,hb,.inl hi⟩
   ·obtain⟨m,hm⟩:=zqW ho he hb hi n e'.on h
    exact fin m hm
theorem zpM {i:Nat}:∀(l:List Edge) (m:Nat),bitOf (edgeM l m) i=true→bitOf m i=true∨∃e∈l,Region.binds .any e=true∧e.on=i
 | [],m,h=>.inl h
 | e::l,m,h=>by
  unfold edgeM at h
  rcases zpM l _ h with h1|⟨e',h1,h2⟩
  ·cases hb:Region.binds .any e with
   |true=>
    simp only[hb]at h1
    rcases bitOf_or _ _ _ h1 with h1|h1
    ·exact .inl h1
    ·exact .inr ⟨e,by simp,hb,h1.symm⟩
   |false=>
    simp only[hb]at h1
    exact .inl h1
  ·exact .inr ⟨e',by simp[h1],h2⟩
theorem ancM_mem {ops:Array Oper}{k:Nat}:∀(j m:Nat),(∀i,bitOf m i=true→∃n,pathB ops n k i=true)→∀i,bitOf (ancM ops j m) i=true→∃n,pathB ops n k i=true
 |0,m,H,i,h=>H i h
 | j +1,m,H,i,h=>by
  unfold ancM at h
  refine ancM_mem j _ ?_ i h
  intro i h
  cases hb:bitOf m j with
  |false=>simp only[hb]at h;exact H i h
  | true=>
   simp only[hb]at h
   cases ho:ops[j]? with
   |none=>simp only[ho]at h;exact H i h
   | some o=>
    simp only[ho]at h
    rcases zpM _ _ h with h|⟨e,h1,h2,h3⟩
    ·exact H i h
    ·obtain⟨n,hn⟩:=H j hb
     exact zqW ho (by simpa using h1) h2 h3 n k hn
theorem pathM_sound {ops:Array Oper}{k i:Nat}(h:pathM ops k i=true):∃n,pathB ops n k i=true:=by
 refine ancM_mem ops.size _ ?_ i h
 intro i h
 cases ho:ops[k]? with
 |none=>
  simp only[ho]at h
  simp[bitOf,Nat.shiftRight_eq_div_pow]at h
 | some o=>
  simp only[ho]at h
  rcases zpM _ _ h with h|⟨e,h1,h2,h3⟩
  ·have:Nat.land (Nat.shiftRight 0 i) 1=0:=by
    have h1:Nat.land (Nat.shiftRight 0 i) 1=(0>>>i)%2:=Nat.and_one_is_mod _
    rw[h1,Nat.shiftRight_eq_div_pow];simp
   unfold bitOf at h
   rw[this]at h
   cases h
  ·refine⟨1,?_⟩
   unfold pathB
   simp only[ho,Array.any_eq_true',Bool.and_eq_true,Bool.or_eq_true,beq_iff_eq]
   exact⟨e,by simpa using h1,h2,.inl h3⟩
def zhm (P:Program)(ops:Array Oper)(Q:Exit→Act→World→Prop)(S:World→Prop)(F:Nat→Bool):Nat→Array Bool→Act→World→Prop
 |0,listed,a,w=>Region.ready .any ops listed=[]∧Q .normal a w
 |fuel+1,listed,a,w=>
  (Region.ready .any ops listed=[]→Q .normal a w)∧
  ∀i∈Region.ready .any ops listed,wpOp P ops Q i (fun a' w'=>if F i=true then wpAny P .any ops Q fuel (listed.setIfInBounds i true) a' w' else S w'∧zhm P ops Q S F fuel (listed.setIfInBounds i true) a' w') a w
theorem zhl {P:Program}{ops:Array Oper}{Q:Exit→Act→World→Prop}{S:World→Prop}{F:Nat→Bool}:∀(fuel:Nat) (listed:Array Bool) (a:Act) (w:World),zhm P ops Q S F fuel listed a w→wpAny P .any ops Q fuel listed a w
 |0,_,_,_,h=>h
 | fuel+1,_,_,_,h=>⟨h.1,fun i hi=>wpOp_mono (fun a' w' h'=>by
   split at h'
   ·exact h'
   ·exact zhl fuel _ a' w' h'.2) (h.2 i hi)⟩
theorem wpAnyF_first {P:Program}{ops:Array Oper}{Q:Exit→Act→World→Prop}{S:World→Prop}{F:Nat→Bool}{i:Nat}{oi:Oper}{v:Value}(hi:ops[i]? =some oi)(hsel:∀(j:Nat) (o:Oper) cs b,ops[j]? =some o→o.op≠ .select cs b)
  (hQ:∀c a w,Q (.panic c) (a.put oi.dst v) w→Q (.panic c) a w) (hFi:F i=false) (hF:∀k,F k=true→∃n,pathB ops n k i=true):
  ∀(fuel:Nat) (listed:Array Bool) (a:Act) (w:World),
   (∀j oj,ops[j]? =some oj→j≠i→listed.getD j true=false→(∀e∈oj.after,Region.binds .any e=true→e.on≠i)→oi.apart ops oj=true)→
   zp6 ops listed→i∈Region.ready .any ops listed→YieldsIf P ops S oi v a→S w→
   zhm P ops Q S F fuel (listed.setIfInBounds i true) (a.put oi.dst v) w→zhm P ops Q S F (fuel+1) listed a w:=by
 have notF:∀{listed:Array Bool} {j:Nat},zp6 ops listed→i∈Region.ready .any ops listed→j∈Region.ready .any ops listed→¬F j=true:=by
  intro listed j hc hr hj hfj
  obtain⟨n,hn⟩:=hF j hfj
  obtain⟨_,oj,hoj,hall⟩:=mem_ready.1 hj
  have h1:=zpa hc n j hn fun o ho e he hb=>by rw[hoj]at ho;cases ho;exact hall e he hb
  have h0:=(mem_ready.1 hr).1
  rcases Nat.lt_or_ge i listed.size with h'|h'
  ·simp[h']at h0 h1;rw[h0]at h1;cases h1
  ·simp[Array.getElem?_eq_none h']at h1
 have hnF:¬F i=true:=by rw[hFi];simp
 intro fuel
 induction fuel with
 | zero=>
  intro listed a w _ hc hr hy hS H
  refine⟨fun h=>(by rw[h]at hr;cases hr),fun j hj=>?_⟩
  by_cases hji:j=i
  ·subst hji;exact hy.wpOp hi hS (by rw[if_neg hnF];exact⟨hS,H⟩)
  ·have:=ready_mono hj hji
   rw[H.1]at this
   cases this
 | succ fuel ih=>
  intro listed a w hfree hc hr hy hS H
  refine⟨fun h=>(by rw[h]at hr;cases hr),fun j hj=>?_⟩
  by_cases hji:j=i
  ·subst hji;exact hy.wpOp hi hS (by rw[if_neg hnF];exact⟨hS,H⟩)
  ·have h1:=H.2 j (ready_mono hj hji)
   have hnFj:=notF hc hr hj
   simp only[if_neg hnFj]at h1 ⊢
   obtain⟨hjun,oj,hoj,hall⟩:=mem_ready.1 hj
   have hnot:∀e∈oj.after,Region.binds .any e=true→e.on≠i:=fun e he hb heq=>by
    have h1:=hall e he hb
    have h0:=(mem_ready.1 hr).1
    rw[heq]at h1
    rcases Nat.lt_or_ge i listed.size with h'|h'
    ·simp[h']at h0 h1;rw[h0]at h1;cases h1
    ·simp[Array.getElem?_eq_none h']at h1
   have h2:=wpOp_putIf hoj (hfree j oj hoj hji hjun hnot) (fun cs b=>hsel i oi cs b hi) (fun cs b=>hsel j oj cs b hoj) hQ hy h1
   have hfree':∀k ok,ops[k]? =some ok→k≠i→(listed.setIfInBounds j true).getD k true=false→
     (∀e∈ok.after,Region.binds .any e=true→e.on≠i)→oi.apart ops ok=true:=fun k ok hk hki hun hno=>by
    refine hfree k ok hk hki ?_ hno
    by_cases hjk:j=k
    ·subst hjk;exact hjun
    ·rw[getD_set_ne true hjk]at hun;exact hun
   refine wpOp_mono (fun a' w' h3=>⟨h3.2.1,ih (listed.setIfInBounds j true) a' w' hfree' (hc.step hj) (ready_mono hr (Ne.symm hji)) h3.1 h3.2.1 ?_⟩) h2
   rw[Array.setIfInBounds_comm _ _ hji]
   exact h3.2.2
theorem zrz {P:Program}{ops:Array Oper}{Q:Exit→Act→World→Prop}{S:World→Prop}{F:Nat→Bool}{i:Nat}{oi:Oper}{v:Value}(hi:ops[i]? =some oi)(hsel:∀(j:Nat) (o:Oper) cs b,ops[j]? =some o→o.op≠ .select cs b)
  (hQ:∀c a w,Q (.panic c) (a.put oi.dst v) w→Q (.panic c) a w) (hFi:F i=false):
  ∀(fuel:Nat) (listed:Array Bool) (a:Act) (w:World),
   (∀j oj,ops[j]? =some oj→j≠i→listed.getD j true=false→(∀e∈oj.after,Region.binds .any e=true→e.on≠i)→oi.apart ops oj=true)→
   i∈Region.ready .any ops listed→Yields P ops oi v a→S w→
   zhm P ops Q S F fuel (listed.setIfInBounds i true) (a.put oi.dst v) w→zhm P ops Q S F (fuel+1) listed a w:=by
 have hnF:¬F i=true:=by rw[hFi];simp
 intro fuel
 induction fuel with
 | zero=>
  intro listed a w _ hr hy hS H
  refine⟨fun h=>(by rw[h]at hr;cases hr),fun j hj=>?_⟩
  by_cases hji:j=i
  ·subst hji;exact hy.wpOp hi (by rw[if_neg hnF];exact⟨hS,H⟩)
  ·have:=ready_mono hj hji
   rw[H.1]at this
   cases this
 | succ fuel ih=>
  intro listed a w hfree hr hy hS H
  refine⟨fun h=>(by rw[h]at hr;cases hr),fun j hj=>?_⟩
  by_cases hji:j=i
  ·subst hji;exact hy.wpOp hi (by rw[if_neg hnF];exact⟨hS,H⟩)
  ·have h1:=H.2 j (ready_mono hj hji)
   obtain⟨hjun,oj,hoj,hall⟩:=mem_ready.1 hj
   have hnot:∀e∈oj.after,Region.binds .any e=true→e.on≠i:=fun e he hb heq=>by
    have h1:=hall e he hb
    have h0:=(mem_ready.1 hr).1
    rw[heq]at h1
    rcases Nat.lt_or_ge i listed.size with h'|h'
    ·simp[h']at h0 h1;rw[h0]at h1;cases h1
    ·simp[Array.getElem?_eq_none h']at h1
   have h2:=wpOp_put hoj (hfree j oj hoj hji hjun hnot) (fun cs b=>hsel i oi cs b hi) (fun cs b=>hsel j oj cs b hoj) hQ hy h1
   have hfree':∀k ok,ops[k]? =some ok→k≠i→(listed.setIfInBounds j true).getD k true=false→
     (∀e∈ok.after,Region.binds .any e=true→e.on≠i)→oi.apart ops ok=true:=fun k ok hk hki hun hno=>by
    refine hfree k ok hk hki ?_ hno
    by_cases hjk:j=k
    ·subst hjk;exact hjun
    ·rw[getD_set_ne true hjk]at hun;exact hun
   refine wpOp_mono (fun a' w' h3=>?_) h2
   obtain⟨hy',h3⟩:=h3
   by_cases hF:F j=true
   ·rw[if_pos hF]at h3 ⊢
    rw[Array.setIfInBounds_comm _ _ (Ne.symm hji)]at h3
    exact wpAny_first hi hsel hQ fuel (listed.setIfInBounds j true) a' w' hfree' (ready_mono hr (Ne.symm hji)) hy' h3
   ·rw[if_neg hF]at h3 ⊢
    refine⟨h3.1,ih (listed.setIfInBounds j true) a' w' hfree' (ready_mono hr (Ne.symm hji)) hy' h3.1 ?_⟩
    rw[Array.setIfInBounds_comm _ _ hji]
    exact h3.2
theorem zoN {P:Program}{ops:Array Oper}{Q:Exit→Act→World→Prop}{S:World→Prop}{F F':Nat→Bool}(hF:∀k,F k=true→F' k=true):∀(fuel:Nat) (listed:Array Bool) (a:Act) (w:World),zhm P ops Q S F fuel listed a w→zhm P ops Q S F' fuel listed a w
 |0,_,_,_,h=>h
 | fuel+1,_,_,_,h=>⟨h.1,fun i hi=>wpOp_mono (fun a' w' h'=>by
   by_cases h1:F i=true
   ·rw[if_pos h1]at h'
    rw[if_pos (hF i h1)]
    exact h'
   ·rw[if_neg h1]at h'
    by_cases h2:F' i=true
    ·rw[if_pos h2]
     exact zhl fuel _ a' w' h'.2
    ·rw[if_neg h2]
     exact⟨h'.1,zoN hF fuel _ a' w' h'.2⟩) (h.2 i hi)⟩
theorem wpAnyF_done {P:Program}{ops:Array Oper}{Q:Exit→Act→World→Prop}{S:World→Prop}{F:Nat→Bool}{listed:Array Bool}{a:Act}{w:World}(h0:Region.ready .any ops listed=[])(hQ:Q .normal a w):∀fuel,zhm P ops Q S F fuel listed a w
 |0=>⟨h0,hQ⟩
 |fuel+1=>⟨fun _=>hQ,fun i hi=>by rw[h0]at hi;cases hi⟩
theorem zme {ops:Array Oper}{listed:Array Bool}:∀(t:PT) (gs:List Nat),zgQ P ops t false gs listed=true→Region.ready .any ops listed≠[]
 | .nil,gs,h=>by simp[zgQ]at h
 | .op i q t,gs,h=>by
  intro h0
  cases q<;>simp[zgQ,h0]at h
 | .alt x y,gs,h=>by
  simp only[zgQ,Bool.and_eq_true,cond_false]at h
  exact zme x gs h.2.1
theorem zcW [zeW P]{all:Array Oper}{Q:Ex→Env→Heap→Prop}{Q':Exit→Act→World→Prop}{ρ0:Env}{w0:World}(hns:Region.noSelect all=true)(hok:opsOk n all.toList=true)
  (hQp:∀c a w,¬Q' (.panic c) a w):∀(plan:PT) (root:Bool) (fs:List Nat) (S:Heap→Prop) (listed:Array Bool) (ρ:Env) (a:Act) (w:World) (fuel:Nat),zgQ P all plan root fs listed=true→zkS plan≤fuel→zp6 all listed→Rel n a ρ→(∀t,memN t (all.toList.filterMap (·.dst))=false→ρ t=ρ0 t)→Same w0 w→S w.heap→
  cDraw P all plan S ρ w.heap (Q .nx)→(∀e a' w',Post n ρ0 (all.toList.filterMap (·.dst)) w0 Q e a' w'→Q' e a' w')→
  (root=true→zhm P all Q' (fun w=>S w.heap) (fun j=>(zcS plan).contains j) fuel listed a w)∧
  (root=false→(∀k,(zcS plan).contains k=true→fs.contains k=true)→∀i∈Region.ready .any all listed,i∈zjy plan→∃fuel',fuel=fuel'+1∧
   wpOp P all Q' i (fun a' w'=>if fs.contains i=true then wpAny P .any all Q' fuel' (listed.setIfInBounds i true) a' w' else S w'.heap∧zhm P all Q' (fun w=>S w.heap) (fun j=>fs.contains j) fuel' (listed.setIfInBounds i true) a' w') a w)
 | .nil,root,fs,S,listed,ρ,a,w,fuel,hp,hf,hcl,hr,hρ,hs,hS,h,hQ=>by
  simp only[zgQ,Bool.and_eq_true]at hp
  refine⟨fun _=>wpAnyF_done (by simpa using hp.2) (hQ _ _ _ ⟨ρ,hr,hρ,hs,h⟩) fuel,fun h0=>?_⟩
  rw[h0]at hp
  cases hp.1
 | .alt x y,root,fs,S,listed,ρ,a,w,fuel,hp,hf,hcl,hr,hρ,hs,hS,h,hQ=>by
  simp only[zgQ,Bool.and_eq_true]at hp
  obtain⟨hp0,hp1,hp2⟩:=hp
  rw[cDraw_alt]at h
  have hfx:zkS x≤fuel:=Nat.le_trans (Nat.le_max_left _ _) hf
  have hfy:zkS y≤fuel:=Nat.le_trans (Nat.le_max_right _ _) hf
  have key:∀gs:List Nat,zgQ P all x false gs listed=true→zgQ P all y false gs listed=true→(∀k,(zcS x++zcS y).contains k=true→gs.contains k=true)→∀i∈Region.ready .any all listed,i∈zjy (.alt x y)→∃fuel',fuel=fuel'+1∧
    wpOp P all Q' i (fun a' w'=>if gs.contains i=true then wpAny P .any all Q' fuel' (listed.setIfInBounds i true) a' w' else S w'.heap∧zhm P all Q' (fun w=>S w.heap) (fun j=>gs.contains j) fuel' (listed.setIfInBounds i true) a' w') a w:=by
   intro gs g1 g2 g3 i hi hih
   rcases List.mem_append.1 hih with hih|hih
   ·exact(zcW hns hok hQp x false gs S listed ρ a w fuel g1 hfx hcl hr hρ hs hS h.1 hQ).2 rfl (fun k hk=>g3 k (by simp at hk ⊢;exact .inl hk)) i hi hih
   ·exact(zcW hns hok hQp y false gs S listed ρ a w fuel g2 hfy hcl hr hρ hs hS h.2 hQ).2 rfl (fun k hk=>g3 k (by simp at hk ⊢;exact .inr hk)) i hi hih
  refine⟨fun h0=>?_,fun h0 hk=>?_⟩
  ·subst h0
   simp only[cond_true]at hp0 hp1 hp2
   have k2:=key _ hp1 hp2 (fun k hk=>hk)
   have hne:=zme x _ hp1
   cases fuel with
   |zero=>
    obtain⟨i,hi⟩:=List.exists_mem_of_ne_nil _ hne
    have:=List.all_eq_true.1 hp0 i hi
    obtain⟨fuel',h1,_⟩:=k2 i hi (by simpa[zjy]using this)
    cases h1
   | succ fuel=>
    refine⟨fun hnone=>absurd hnone hne,fun i hi=>?_⟩
    ·have hih:=List.all_eq_true.1 hp0 i hi
     obtain⟨fuel',h1,h2⟩:=k2 i hi (by simpa[zjy]using hih)
     cases h1
     exact h2
  ·subst h0
   simp only[cond_false]at hp1 hp2
   exact key fs hp1 hp2 (fun k hk'=>hk k hk')
 | .op i q plan,root,fs,S,listed,ρ,a,w,fuel,hp,hf,hcl,hr,hρ,hs,hS,h,hQ=>by
  obtain⟨fuel,rfl⟩:∃f,fuel=f+1:=⟨fuel-1,by simp only[zkS]at hf;omega⟩
  have hf':zkS plan≤fuel:=by simp only[zkS]at hf;omega
  simp only[zgQ,Bool.and_eq_true]at hp
  obtain⟨hp1,hp2⟩:=hp
  rw[cDraw_cons]at h
  cases hi:all[i]? with
  |none=>simp[hi]at h
  | some o=>
   simp only[hi]at h
   have hd:=opsOk_get (o:=o) all.toList i hok (by simpa using hi)
   have hρ':∀v t,memN t (all.toList.filterMap (·.dst))=false→up ρ o.dst v t=ρ0 t:=by
    intro v t ht
    rw[←hρ t ht]
    cases hdst:o.dst with
    |none=>rfl
    | some d=>
     simp only[up]
     cases hb:Nat.beq t d with
     |false=>rfl
     |true=>
      have htd:=Nat.eq_of_beq_eq_true hb
      subst htd
      rw[zps (List.mem_filterMap.2 ⟨o,List.mem_of_getElem? (i:=i) (by simpa using hi),hdst⟩)]at ht
      cases ht
   cases q with
   | r =>
    simp only[Bool.and_eq_true]at hp1
    obtain⟨hroot,⟨hfree,hready⟩,hnext⟩:=hp1
    refine⟨fun _=>?_,fun h0=>by rw[hroot]at h0;cases h0⟩
    have hin:i∈Region.ready .any all listed:=by simpa using hready
    simp only at h
    have hall:∀k,(zcS plan).contains k=true→¬k=i∧(pureAt P all i=true∨pathM all k i=true):=by
     intro k hk
     have:=List.all_eq_true.1 hnext k (by simpa using hk)
     simpa using this
    have hFi:(zcS plan).contains i=false:=by
     rw[Bool.eq_false_iff]
     intro hc
     exact(hall i hc).1 rfl
    cases hl:zmE P o.op with
    |false=>
     simp only[hl]at h
     obtain⟨v,hv,hK⟩:=h
     have ih:=(zcW hns hok hQp plan true [] S _ _ _ w fuel hp2 hf' (hcl.step hin) (hr.put hd v) (hρ' v) hs hS hK hQ).1 rfl
     refine wpAnyF_first (F:=fun j=>(zcS plan).contains j) hi (Region.noSelect_spec hns) (fun c a w hq=>absurd hq (hQp _ _ _)) hFi ?_ fuel listed a w (Region.free_spec hi hfree) hcl hin (zoM hr hS hv) hS ih
     intro k hk
     rcases(hall k hk).2 with h1|h1
     ·simp[pureAt,hi,hl]at h1
     ·exact pathM_sound h1
    | true=>
     simp only[hl]at h
     have h:=roK_ro h
     cases hg:roG P all ρ o w.heap with
     |none=>rw[hg]at h;exact h.elim
     | some r=>
      rw[hg]at h
      simp only[vK]at h
      split at h
      ·rename_i v
       have ih:=(zcW hns hok hQp plan true [] S _ _ _ w fuel hp2 hf' (hcl.step hin) (hr.put hd v) (hρ' v) hs hS h hQ).1 rfl
       have hyI:=zoM (all:=all) (S:=fun _=>True) (v:=v) (h0:=w.heap) hr trivial (fun h' _=>by rw[roG_heapless hl h' w.heap,hg])
       have hy:Yields P all o v a:=hyI.imp (fun⟨g1,g2⟩=>⟨g1,fun w=>g2 w trivial⟩) id
       exact zrz (F:=fun j=>(zcS plan).contains j) hi (Region.noSelect_spec hns) (fun c a w hq=>absurd hq (hQp _ _ _)) hFi fuel listed a w (Region.free_spec hi hfree) hin hy hS ih
      ·exact h.elim
   | e=>
    simp only[Bool.and_eq_true,Bool.not_eq_true']at hp1
    obtain⟨hready,hnext⟩:=hp1
    have step:∀gs:List Nat,gs.contains i=false→(∀k,(zcS plan).contains k=true→gs.contains k=true)→i∈Region.ready .any all listed→
      wpOp P all Q' i (fun a' w'=>if gs.contains i=true then wpAny P .any all Q' fuel (listed.setIfInBounds i true) a' w' else S w'.heap∧zhm P all Q' (fun w=>S w.heap) (fun j=>gs.contains j) fuel (listed.setIfInBounds i true) a' w') a w:=by
     intro gs hg hsub hin
     refine zkT hi hr h fun v w' hs' hK=>?_
     refine Eq.mpr (if_neg (by rw[hg];exact Bool.false_ne_true)) ?_
     exact⟨hK.1,zoN hsub _ _ _ _ ((zcW hns hok hQp plan true [] S _ _ _ w' fuel hp2 hf' (hcl.step hin) (hr.put hd v) (hρ' v) (hs.trans hs') hK.1 hK.2 hQ).1 rfl)⟩
    refine⟨fun h0=>?_,fun h0 hsub j hj hjh=>?_⟩
    ·subst h0
     simp only[cond_true]at hready hnext
     have hready:Region.ready .any all listed=[i]:=by simpa using hready
     refine⟨fun h0=>(by rw[h0]at hready;cases hready),fun j hj=>?_⟩
     obtain rfl:j=i:=by rw[hready]at hj;simpa using hj
     exact step (zcS plan) hnext (fun k hk=>hk) hj
    ·subst h0
     obtain rfl:j=i:=by simpa[zjy]using hjh
     simp only[cond_false]at hnext
     exact⟨fuel,rfl,step fs hnext hsub hj⟩
   | f=>
    have step:i∈Region.ready .any all listed→wpOp P all Q' i (fun a' w'=>wpAny P .any all Q' fuel (listed.setIfInBounds i true) a' w') a w:=by
     intro hin
     refine zkT hi hr h fun v w' hs' hK=>?_
     obtain⟨S',hS',hK⟩:=hK
     exact zhl _ _ _ _ ((zcW hns hok hQp plan true [] S' _ _ _ w' fuel hp2 hf' (hcl.step hin) (hr.put hd v) (hρ' v) (hs.trans hs') hS' hK hQ).1 rfl)
    refine⟨fun h0=>?_,fun h0 hsub j hj hjh=>?_⟩
    ·subst h0
     have hready:Region.ready .any all listed=[i]:=by simpa using hp1
     refine⟨fun h0=>(by rw[h0]at hready;cases hready),fun j hj=>?_⟩
     obtain rfl:j=i:=by rw[hready]at hj;simpa using hj
     exact wpOp_mono (fun a' w' h'=>Eq.mpr (if_pos (by simp[zcS])) h') (step hj)
    ·obtain rfl:j=i:=by simpa[zjy]using hjh
     exact⟨fuel,rfl,wpOp_mono (fun a' w' h'=>Eq.mpr (if_pos (hsub j (by simp[zcS]))) h') (step hj)⟩
   | n=>
    have step:i∈Region.ready .any all listed→wpOp P all Q' i (fun a' w'=>wpAny P .any all Q' fuel (listed.setIfInBounds i true) a' w') a w:=by
     intro hin
     refine zkT hi hr h fun v w' hs' hK=>?_
     exact zhl _ _ _ _ ((zcW hns hok hQp plan true [] (fun _=>True) _ _ _ w' fuel hp2 hf' (hcl.step hin) (hr.put hd v) (hρ' v) (hs.trans hs') trivial hK hQ).1 rfl)
    refine⟨fun h0=>?_,fun h0 hsub j hj hjh=>?_⟩
    ·subst h0
     have hready:Region.ready .any all listed=[i]:=by simpa using hp1
     refine⟨fun h0=>(by rw[h0]at hready;cases hready),fun j hj=>?_⟩
     obtain rfl:j=i:=by rw[hready]at hj;simpa using hj
     exact wpOp_mono (fun a' w' h'=>Eq.mpr (if_pos (by simp[zcS])) h') (step hj)
    ·obtain rfl:j=i:=by simpa[zjy]using hjh
     exact⟨fuel,rfl,wpOp_mono (fun a' w' h'=>Eq.mpr (if_pos (hsub j (by simp[zcS]))) h') (step hj)⟩
theorem zhS {ws:Nat}:∀{l:List Nat},zmU ws l=true→∀{t:Nat},bitOf ws t=false→memN t l=false
 | [],_,_,_=>rfl
 | c::l,h,t,ht=>by
  simp only[zmU,Bool.and_eq_true]at h
  simp only[memN]
  cases hb:Nat.beq t c with
  |true=>
   have:=Nat.eq_of_beq_eq_true hb
   subst this
   rw[h.1]at ht
   cases ht
  |false=>exact zhS h.2 ht
theorem zno {ρ ρ':Env}{ws:Nat}{cs:List Nat}(h:∀t,bitOf ws t=false→ρ' t=ρ t):havoc ρ ρ' ws cs (cs.map ρ')=ρ':=by
 funext t
 have key:∀(cs:List Nat) (k:Nat),match posOf t k cs with|some i=>k≤i∧cs[i-k]? =some t|none=>True:=by
  intro cs
  induction cs with
  |nil=>intro k;simp[posOf]
  | cons c cs ih=>
   intro k
   simp only[posOf]
   cases hb:Nat.beq t c with
   |true=>have:=Nat.eq_of_beq_eq_true hb;subst this;simp
   | false=>
    simp only[cond_false]
    have:=ih (k+1)
    split
    ·rename_i i hi
     rw[hi]at this
     refine⟨by omega,?_⟩
     rw[show i-k=(i-(k+1))+1 from by omega]
     simpa using this.2
    ·trivial
 have k0:=key cs 0
 unfold havoc
 cases hp:posOf t 0 cs with
 |some i=>
  rw[hp]at k0
  simp only
  have:cs[i]? =some t:=by simpa using k0.2
  unfold ix
  rw[List.getD_eq_getElem?_getD,List.getElem?_map,this]
  rfl
 |none=>
  simp only
  cases hm:bitOf ws t with
  |true=>rfl
  |false=>exact(h t hm).symm
theorem cCode_sound [zeW P](hm:P.follows .mixedOrders=true):∀(c:Code) (an:Ann) (ρ:Env) (a:Act) (w:World) (Q:Ex→Env→Heap→Prop),zcC P n c an=true→Rel n a ρ→cCode P c an ρ w.heap Q→
  c.wp P (Post n ρ (zcH c) w Q) a w:=by
 intro c
 induction c with
 |skip=>intro an ρ a w Q _ hr h;exact wp_skip ⟨ρ,hr,fun _ _=>rfl,Same.refl w,h⟩
 |exit id=>intro an ρ a w Q _ hr h;exact wp_exit ⟨ρ,hr,fun _ _=>rfl,Same.refl w,h⟩
 |ret=>intro an ρ a w Q _ hr h;exact wp_ret ⟨ρ,hr,fun _ _=>rfl,Same.refl w,h⟩
 | region id ops draw=>
  intro an ρ a w Q hok hr h
  have hops:opsOk n ops.toList=true:=by simp only[zcC,Bool.and_eq_true]at hok;exact hok.1
  have seqCase:cOps P ops ops.toList ρ w.heap (Q .nx)→(Code.region id ops false).wp P (Post n ρ (zcH (.region id ops false)) w Q) a w:=by
   intro h
   refine wp_region ?_
   have:=zrq (Q:=Q) (Q':=Post n ρ (ops.toList.filterMap (·.dst)) w Q) ops.toList 0 ρ a w (by simp) hops hr h (fun _ _ _ h=>h)
   rw[List.range_eq_range']
   have e:wpOps P ops (Post n ρ (ops.toList.filterMap (·.dst)) w Q) (List.range' 0 ops.size) a w:=by simpa using this
   exact e
  have roCase:Region.lexB .any ops=true→cOpsR P ops ops.toList ρ w.heap (Q .nx)→(Code.region id ops true).wp P (Post n ρ (zcH (.region id ops true)) w Q) a w:=by
   intro hl h
   refine wp_region_quiet (C:=fun w'=>Same w w'∧w'.heap=w.heap) hm hl ⟨zqR w,rfl⟩ ?_
   refine zpZ (C:=fun w'=>Same w w'∧w'.heap=w.heap) (fun w' h=>h.2) ops.toList ρ a hops hr h fun a' ρ2 g1 g2 g3 w' hw'=>?_
   exact⟨ρ2,g1,g2,hw'.1,by simp only[hw'.2];exact g3⟩
  have other:(∀plan,an≠ .d plan)→(Code.region id ops draw).wp P (Post n ρ (zcH (.region id ops draw)) w Q) a w:=by
   intro hne
   cases draw with
   |false=>cases an<;>first|exact absurd rfl (hne _)|exact seqCase h
   |true=>cases an<;>first|exact absurd rfl (hne _)|exact roCase (by simp only[zcC,Bool.and_eq_true]at hok;exact hok.2) h
  by_cases hd:∃plan,an=.d plan
  ·obtain⟨plan,rfl⟩:=hd
   simp only[zcC,Bool.and_eq_true]at hok
   obtain⟨_,⟨⟨h1,h2⟩,h3⟩,h4⟩:=hok
   subst h1
   obtain⟨S,hS,h⟩:=h
   refine wp_region_any hm ?_
   have:=zcW (P:=P) (Q:=Q) (Q':=Post n ρ (ops.toList.filterMap (·.dst)) w Q) (ρ0:=ρ) (w0:=w) h2 hops (fun c a w hq=>by obtain⟨_,_,_,_,hf⟩:=hq;exact hf)
    plan true [] S (Array.replicate ops.size false) ρ a {w with drawn:=w.drawn+1} ops.size h4 (Nat.le_of_ble_eq_true h3) (fun k o hk hl=>by simp[Array.getElem?_replicate]at hl;split at hl<;>simp at hl) hr (fun _ _=>rfl) (zqR w) hS h (fun _ _ _ h=>h)
   exact zhl _ _ _ _ (this.1 rfl)
  ·exact other (fun plan he=>hd ⟨plan,he⟩)
 | seq x y ihx ihy=>
  intro an ρ a w Q hok hr h
  have lift:∀{ρ1:Env} {w1:World} (_:∀t,memN t (zcH x)=false→ρ1 t=ρ t) (_:Same w w1) (e:Exit) (a2:Act) (w2:World),Post n ρ1 (zcH y) w1 Q e a2 w2→Post n ρ (zcH (.seq x y)) w Q e a2 w2:=by
   intro ρ1 w1 h1 h2 e a2 w2 ⟨ρ2,g1,g2,g3,g4⟩
   refine⟨ρ2,g1,fun t ht=>?_,h2.trans g3,g4⟩
   simp only[zcH,zga,Bool.or_eq_false_iff]at ht
   rw[g2 t ht.2,h1 t ht.1]
  have liftx:∀(e:Exit) (a2:Act) (w2:World),Post n ρ (zcH x) w Q e a2 w2→Post n ρ (zcH (.seq x y)) w Q e a2 w2:=by
   intro e a2 w2 ⟨ρ2,g1,g2,g3,g4⟩
   refine⟨ρ2,g1,fun t ht=>?_,g3,g4⟩
   simp only[zcH,zga,Bool.or_eq_false_iff]at ht
   exact g2 t ht.1
  cases an with
  |s p q=>
   simp only[zcC,Bool.and_eq_true]at hok
   refine wp_seq (wp_mono (ihx p ρ a w _ hok.1 hr h) ?_)
   intro e a1 w1 ⟨ρ1,g1,g2,g3,g4⟩
   cases e with
   |normal=>exact wp_mono (ihy q ρ1 a1 w1 Q hok.2 g1 g4) (lift g2 g3)
   |exit id=>exact liftx (.exit id) a1 w1 ⟨ρ1,g1,g2,g3,g4⟩
   |ret=>exact liftx .ret a1 w1 ⟨ρ1,g1,g2,g3,g4⟩
   |_=>exact g4.elim
  | j ws cs p q=>
   simp only[zcC,Bool.and_eq_true]at hok
   obtain⟨hws,hok⟩:=hok
   obtain⟨J,h1,h2⟩:=h
   refine wp_seq (wp_mono (ihx p ρ a w _ hok.1 hr h1) ?_)
   intro e a1 w1 ⟨ρ1,g1,g2,g3,g4⟩
   cases e with
   |normal=>
    have this:cCode P y q (havoc ρ ρ1 ws cs (cs.map ρ1)) w1.heap Q:=h2 (cs.map ρ1) ρ1 w1.heap g4
    rw[zno (fun t ht=>g2 t (zhS hws ht))]at this
    exact wp_mono (ihy q ρ1 a1 w1 Q hok.2 g1 this) (lift g2 g3)
   |exit id=>exact liftx (.exit id) a1 w1 ⟨ρ1,g1,g2,g3,g4⟩
   |ret=>exact liftx .ret a1 w1 ⟨ρ1,g1,g2,g3,g4⟩
   |_=>exact g4.elim
  |_=>simp[zcC]at hok
 | cond c x y ihx ihy=>
  intro an ρ a w Q hok hr h
  cases an with
  | s p q=>
   simp only[zcC,Bool.and_eq_true]at hok
   have h:iteK (ev ρ c) (cCode P x p ρ w.heap Q) (cCode P y q ρ w.heap Q):=h
   unfold iteK at h
   split at h
   ·rename_i b hb
    refine wp_cond (t:=b) (by rw[hr.eval];exact hb) ?_
    cases b with
    |true=>
     refine wp_mono (ihx p ρ a w Q hok.1 hr h) ?_
     intro e a2 w2 ⟨ρ2,g1,g2,g3,g4⟩
     refine⟨ρ2,g1,fun t ht=>?_,g3,g4⟩
     simp only[zcH,zga,Bool.or_eq_false_iff]at ht
     exact g2 t ht.1
    |false=>
     refine wp_mono (ihy q ρ a w Q hok.2 hr h) ?_
     intro e a2 w2 ⟨ρ2,g1,g2,g3,g4⟩
     refine⟨ρ2,g1,fun t ht=>?_,g3,g4⟩
     simp only[zcH,zga,Bool.or_eq_false_iff]at ht
     exact g2 t ht.2
   ·exact h.elim
  |_=>simp[zcC]at hok
 | block id x ih=>
  intro an ρ a w Q hok hr h
  have plain:∀an',zcC P n x an'=true→cCode P x an' ρ w.heap (fun e ρ h=>match e with
   | .nx=>Q .nx ρ h
   | .br n=>bif Nat.beq n id then Q .nx ρ h else Q (.br n) ρ h
   | .rt=>Q .rt ρ h)→(Code.block id x).wp P (Post n ρ (zcH (.block id x)) w Q) a w:=by
   intro an' hok h
   refine wp_block (wp_mono (ih an' ρ a w _ hok hr h) ?_)
   intro e a1 w1 ⟨ρ1,g1,g2,g3,g4⟩
   cases e with
   |normal=>exact⟨ρ1,g1,g2,g3,g4⟩
   | exit id'=>
    simp only[Exit.inBlock]
    simp only at g4
    by_cases hid:id'=id
    ·subst hid
     rw[if_pos rfl]
     simp only[Nat.beq_refl]at g4
     exact⟨ρ1,g1,g2,g3,g4⟩
    ·rw[if_neg hid]
     have hb:Nat.beq id' id=false:=by rw[Bool.eq_false_iff];intro hb;exact hid (Nat.eq_of_beq_eq_true hb)
     simp only[hb]at g4
     exact⟨ρ1,g1,g2,g3,g4⟩
   |ret=>exact⟨ρ1,g1,g2,g3,g4⟩
   |_=>exact g4.elim
  cases an with
  | m ws cs p=>
   simp only[zcC,Bool.and_eq_true]at hok
   obtain⟨hws,hok⟩:=hok
   obtain⟨J,h1,h2⟩:=h
   refine wp_block (wp_mono (ih p ρ a w _ hok hr h1) ?_)
   intro e a1 w1 ⟨ρ1,g1,g2,g3,g4⟩
   have meet:J (cs.map ρ1) w1.heap→Q .nx ρ1 w1.heap:=by
    intro hJ
    have this:Q .nx (havoc ρ ρ1 ws cs (cs.map ρ1)) w1.heap:=h2 (cs.map ρ1) ρ1 w1.heap hJ
    rwa [zno (fun t ht=>g2 t (zhS hws ht))]at this
   cases e with
   |normal=>exact⟨ρ1,g1,g2,g3,meet g4⟩
   | exit id'=>
    simp only[Exit.inBlock]
    simp only at g4
    by_cases hid:id'=id
    ·subst hid
     rw[if_pos rfl]
     simp only[Nat.beq_refl]at g4
     exact⟨ρ1,g1,g2,g3,meet g4⟩
    ·rw[if_neg hid]
     have hb:Nat.beq id' id=false:=by rw[Bool.eq_false_iff];intro hb;exact hid (Nat.eq_of_beq_eq_true hb)
     simp only[hb]at g4
     exact⟨ρ1,g1,g2,g3,g4⟩
   |ret=>exact⟨ρ1,g1,g2,g3,g4⟩
   |_=>exact g4.elim
  |_=>exact plain _ hok h
 | loop x ih=>
  intro an ρ a w Q hok hr h
  cases an with
  | l ws cs p=>
   simp only[zcC,Bool.and_eq_true]at hok
   obtain⟨hws,hok⟩:=hok
   obtain⟨I,m,h0,h1⟩:=h
   let val:Act→Nat→Value:=fun a t=>a.tmps.getD t undef
   refine wp_loop (fun a' w'=>Rel n a' (val a')∧(∀t,memN t (zcH x)=false→val a' t=ρ t)∧Same w w'∧I (cs.map (val a')) w'.heap) (fun a' w'=>m (cs.map (val a')) w'.heap) ?_ ?_
   ·have e:val a=ρ:=funext hr.2.2
    rw[e]
    exact⟨hr,fun _ _=>rfl,Same.refl w,h0⟩
   ·intro a' w' ⟨i1,i2,i3,i4⟩
    have hb:=h1 (cs.map (val a')) (val a') w'.heap i4
    simp only at hb
    rw[zno (fun t ht=>i2 t (zhS hws ht))]at hb
    refine wp_mono (ih p (val a') a' w' _ hok i1 hb) ?_
    intro e a2 w2 ⟨ρ2,g1,g2,g3,g4⟩
    have e2:val a2=ρ2:=funext g1.2.2
    cases e with
    |normal=>
     simp only[Exit.then]
     rw[e2]
     exact⟨⟨g1,fun t ht=>by rw[g2 t ht,i2 t ht],i3.trans g3,g4.1⟩,g4.2⟩
    |exit id=>exact⟨ρ2,g1,fun t ht=>by rw[g2 t ht,i2 t ht],i3.trans g3,g4⟩
    |ret=>exact⟨ρ2,g1,fun t ht=>by rw[g2 t ht,i2 t ht],i3.trans g3,g4⟩
    |_=>exact g4.elim
  |_=>simp[zcC]at hok
 |_=>intro an ρ a w Q hok hr h;simp[zcC]at hok
end
noncomputable def retK (P:Program)(rs:List ResultVar):List Value→Env→Heap→(Value→Heap→Prop)→Prop:=
 List.rec (motive:=fun _=>List Value→Env→Heap→(Value→Heap→Prop)→Prop)
  (fun acc _ h R=>R (match acc with| [v]=>v|l=>.tuple l.reverse.toArray) h)
  (fun r _ ih acc ρ h R=>match r with
   | .tmp t=>ih (ρ t::acc) ρ h R
   | .cell a t=>match tyAgg P t with
    |some false=>vK (ldV h (ρ a)) fun v=>ih (v::acc) ρ h R
    |some true=>match zbV P t with
     |some n=>vK (ldsV n h (ρ a)) fun v=>ih (v::acc) ρ h R
     |none=>False
    |none=>False) rs
theorem retK_nil {P:Program}{acc:List Value}{ρ:Env}{h:Heap}{R:Value→Heap→Prop}:retK P [] acc ρ h R=R (match acc with| [v]=>v|l=>.tuple l.reverse.toArray) h:=rfl
theorem retK_tmp {P:Program}{t:Tmp}{rs:List ResultVar}{acc:List Value}{ρ:Env}{h:Heap}{R:Value→Heap→Prop}:retK P (.tmp t::rs) acc ρ h R=retK P rs (ρ t::acc) ρ h R:=rfl
theorem retK_cell {P:Program}{a:Tmp}{t:TypeId}{rs:List ResultVar}{acc:List Value}{ρ:Env}{h:Heap}{R:Value→Heap→Prop}:retK P (.cell a t::rs) acc ρ h R=match tyAgg P t with
  |some false=>vK (ldV h (ρ a)) fun v=>retK P rs (v::acc) ρ h R
  |some true=>match zbV P t with
   |some n=>vK (ldsV n h (ρ a)) fun v=>retK P rs (v::acc) ρ h R
   |none=>False
  |none=>False:=rfl
def envOf (args:List Value):Env:=fun t=>args.getD t undef
noncomputable def cFunc (P:Program)(c:Code)(an:Ann)(rs:List ResultVar)(args:List Value)(h:Heap)(R:Value→Heap→Prop):Prop:=
 cCode P c an (envOf args) h fun e ρ h=>match e with
  | .nx=>retK P rs [] ρ h R
  | .rt=>retK P rs [] ρ h R
  | .br _=>False
theorem zkX {P:Program} {w:World} {R:Value→Heap→Prop} {tmps:Array Value}:∀(rs:List ResultVar) (acc:List Value),retK P rs acc (fun t=>tmps.getD t undef) w.heap R→
  ∃l,(rs.mapM (fun| .tmp t=>pure (tmps.getD t undef)| .cell a t=>do loadVar t (←asAddr (tmps.getD a undef)):ResultVar→Sem Value)).run P w=.ok l w∧R (match l.reverse++acc with| [v]=>v|l=>.tuple l.reverse.toArray) w.heap
 | [],acc,h=>⟨[],rfl,by rw[retK_nil]at h;simpa using h⟩
 | .tmp t::rs,acc,h=>by
  rw[retK_tmp]at h
  obtain⟨l,h1,h2⟩:=zkX rs (tmps.getD t undef::acc) h
  refine⟨tmps.getD t undef::l,?_,by simpa using h2⟩
  simp only[List.mapM_cons,Sem.run_bind,Sem.run_pure,Result.andThen_ok,h1]
 | .cell a t::rs,acc,h=>by
  rw[retK_cell]at h
  cases hta:tyAgg P t with
  |none=>simp[hta]at h
  | some b=>
   simp only[hta]at h
   have key:∀v,(∃ad,tmps.getD a undef=.pointer (some ad)∧(loadVar t ad).run P w=.ok v w)→retK P rs (v::acc) (fun t=>tmps.getD t undef) w.heap R→∃l,((ResultVar.cell a t::rs).mapM (fun| .tmp t=>pure (tmps.getD t undef)| .cell a t=>do loadVar t (←asAddr (tmps.getD a undef)):ResultVar→Sem Value)).run P w=.ok l w∧R (match l.reverse++acc with| [v]=>v|l=>.tuple l.reverse.toArray) w.heap:=by
    intro v ⟨ad,hp,hl⟩ h
    obtain⟨l,h1,h2⟩:=zkX rs (v::acc) h
    refine⟨v::l,?_,by simpa using h2⟩
    have has:(asAddr (tmps.getD a undef)).run P w=.ok ad w:=by rw[hp];rfl
    simp only[List.mapM_cons,Sem.run_bind,Sem.run_pure,Result.andThen_ok,has,hl,h1]
   cases b with
   | false=>
    simp only at h
    unfold vK at h
    split at h
    ·rename_i v hv
     refine key v ?_ h
     unfold ldV at hv
     split at hv
     ·rename_i ad hp
      exact⟨ad,hp,zjg hta hv⟩
     ·cases hv
    ·exact h.elim
   | true=>
    simp only at h
    cases hs:zbV P t with
    |none=>simp[hs]at h
    | some n=>
     simp only[hs]at h
     unfold vK at h
     split at h
     ·rename_i v hv
      refine key v ?_ h
      unfold ldsV at hv
      split at hv
      ·rename_i ad hp
       cases hl:zbu w.heap ad 0 n with
       |none=>simp[hl]at hv
       |some l=>
        simp only[hl,Option.map_some,Option.some.injEq]at hv
        subst hv
        exact⟨ad,hp,zjh hta hs hl⟩
      ·cases hv
     ·exact h.elim
theorem results_of {P:Program}{ρ:Env}{w:World}{R:Value→Heap→Prop}{fn:Func}{tmps:Array Value}(ht:∀t,tmps.getD t undef=ρ t)(h:retK P fn.results.toList [] ρ w.heap R):
  ∃v,(results fn tmps).run P w=.ok v w∧R v w.heap:=by
 obtain rfl:ρ=fun t=>tmps.getD t undef:=funext fun t=>(ht t).symm
 obtain⟨l,h1,h2⟩:=zkX _ [] h
 have e:(fn.results.mapM (fun| .tmp t=>pure (tmps.getD t undef)| .cell a t=>do loadVar t (←asAddr (tmps.getD a undef)):ResultVar→Sem Value)).run P w=.ok l.toArray w:=by
  rw[Array.mapM_eq_mapM_toList,Sem.run_map,h1];rfl
 have hres:results fn tmps=(do
  let vs←fn.results.mapM (fun| .tmp t=>pure (tmps.getD t undef)| .cell a t=>do loadVar t (←asAddr (tmps.getD a undef)):ResultVar→Sem Value)
  pure (if h:vs.size=1 then vs[0]else .tuple vs)):=rfl
 rw[hres]
 simp only[Sem.run_bind]
 rw[e]
 simp only[Result.andThen_ok,Sem.run_pure]
 refine⟨_,rfl,?_⟩
 cases l with
 |nil=>simpa using h2
 | cons v l=>
  cases l with
  |nil=>simpa using h2
  | cons u l=>
   have:¬((v::u::l).toArray.size=1):=by simp
   rw[dif_neg this]
   simp only[List.append_nil]at h2
   split at h2
   ·rename_i hh
    have:=congrArg List.length hh
    simp at this
   ·simpa using h2
theorem fcall_of {P:Program}[zeW P](hm:P.follows .mixedOrders=true){f:FuncId}{fn:Func}{c:Code}{an:Ann}(hf:P.funcs[f]? =some fn)(hb:fn.body=some c)(hc:zgS P f=true)
  (hok:zcC P fn.ntmps c an=true) {args:Array Value} (ha:Nat.ble args.size fn.ntmps=true) {h:Heap} {R:Value→Heap→Prop} (H:cFunc P c an fn.results.toList args.toList h R):FCall P f args h R:=by
 refine FCall.ofCalls hc fun w hw=>?_
 subst hw
 have ha':args.size≤fn.ntmps:=by simpa using ha
 have hr:Rel fn.ntmps {tmps:=args++Array.replicate (fn.ntmps-args.size) undef,defers:=[]} (envOf args.toList):=by
  refine⟨by simp;omega,rfl,fun t=>?_⟩
  simp only[envOf,Array.getD_eq_getD_getElem?,List.getD_eq_getElem?_getD,Array.getElem?_append,Array.getElem?_toList]
  split
  ·rfl
  ·rw[Array.getElem?_replicate,Array.getElem?_eq_none (by omega)]
   split<;>rfl
 refine calls_of_wp hf hb (wp_mono (cCode_sound hm c an _ _ w _ hok hr H) ?_)
 intro e a' w' ⟨ρ2,g1,_,g3,g4⟩
 have fin:retK P fn.results.toList [] ρ2 w'.heap R→a'.defers=[]∧∃v,(results fn a'.tmps).run P w'=.ok v w'∧∃u,Ending.returned v=.returned u∧Same w w'∧R u w'.heap:=by
  intro hret
  obtain⟨v,h1,h2⟩:=results_of g1.2.2 hret
  exact⟨g1.2.1,v,h1,v,rfl,g3,h2⟩
 cases e with
 |normal=>exact fin g4
 |ret=>exact fin g4
 |exit id=>exact g4.elim
 |_=>exact g4.elim
def fkB (P:Program)(f:FuncId)(fn:Func)(an:Ann)(n:Nat):Bool:=P.follows .mixedOrders&&(fn.body.isSome&&(zgS P f&&(zcC P fn.ntmps (fn.body.getD .skip) an&&Nat.ble n fn.ntmps)))
theorem fk {P:Program}[zeW P](fn:Func)(an:Ann){f:FuncId}{args:Array Value}{h:Heap}{R:Value→Heap→Prop}{X:Prop}(H:X)
  (hf:P.funcs[f]? =some fn:=by kernel_rfl) (hb:fkB P f fn an args.size=true:=by kernel_rfl) (e:X=cFunc P (fn.body.getD .skip) an fn.results.toList args.toList h R:=by kernel_rfl):FCall P f args h R:=by
 unfold fkB at hb
 simp only[Bool.and_eq_true]at hb
 obtain⟨h1,h2,h3,h4,h5⟩:=hb
 obtain⟨c,hc⟩:=Option.isSome_iff_exists.1 h2
 rw[hc,Option.getD_some]at h4 e
 exact fcall_of h1 hf hc h3 h4 h5 (e.mp H)
end
end Go.Crisp
namespace Go.Crisp
open Go
theorem zaa (v:Value)(K:Value→Prop):vK (some v) K=K v:=Eq.trans rfl rfl
theorem vK_map (r:Option (Array Value))(c:Array Value)(h:r=some c)(K:Value→Prop):vK (r.map .agg) K=K (.agg c):=by rw[h];rfl
theorem zcU (x y:Prop):iteK (.bool true) x y=x:=Eq.trans rfl rfl
theorem zbo (x y:Prop):iteK (.bool false) x y=y:=Eq.trans rfl rfl
theorem zc3 {b:Bool}{x y:Prop}(h1:b=true→x)(h2:b=false→y):iteK (.bool b) x y:=by
 cases b
 ·exact h2 rfl
 ·exact h1 rfl
theorem zac {p:Prop}[Decidable p]{x y:Prop}(h1:p→x)(h2:¬p→y):iteK (.bool (decide p)) x y:=
 zc3 (fun h=>h1 (of_decide_eq_true h)) (fun h=>h2 (of_decide_eq_false h))
theorem gV_true (r:Option Value):gV (.bool true) true r=r:=Eq.trans rfl rfl
theorem gV_false (r:Option Value):gV (.bool false) false r=r:=Eq.trans rfl rfl
theorem gV_tf (r:Option Value):gV (.bool true) false r=some undef:=Eq.trans rfl rfl
theorem gV_ft (r:Option Value):gV (.bool false) true r=some undef:=Eq.trans rfl rfl
theorem gV_und (w:Bool)(r:Option Value):gV undef w r=some undef:=Eq.trans rfl rfl
theorem gK_true (m:(Value→Heap→Prop)→Prop)(h:Heap)(K:Value→Heap→Prop):gK (.bool true) true m h K=m K:=Eq.trans rfl rfl
theorem gK_false (m:(Value→Heap→Prop)→Prop)(h:Heap)(K:Value→Heap→Prop):gK (.bool false) false m h K=m K:=Eq.trans rfl rfl
theorem gK_tf (m:(Value→Heap→Prop)→Prop)(h:Heap)(K:Value→Heap→Prop):gK (.bool true) false m h K=K undef h:=Eq.trans rfl rfl
theorem gK_ft (m:(Value→Heap→Prop)→Prop)(h:Heap)(K:Value→Heap→Prop):gK (.bool false) true m h K=K undef h:=Eq.trans rfl rfl
theorem gK_und (w:Bool)(m:(Value→Heap→Prop)→Prop)(h:Heap)(K:Value→Heap→Prop):gK undef w m h K=K undef h:=Eq.trans rfl rfl
theorem pickV_true (x y:Value):pickV (.bool true) x y=some x:=Eq.trans rfl rfl
theorem pickV_false (x y:Value):pickV (.bool false) x y=some y:=Eq.trans rfl rfl
theorem ix_0 (a:Value)(l:List Value):ix (a::l) 0=a:=Eq.trans rfl rfl
theorem ix_1 (a b:Value)(l:List Value):ix (a::b::l) 1=b:=Eq.trans rfl rfl
theorem ix_2 (a b c:Value)(l:List Value):ix (a::b::c::l) 2=c:=Eq.trans rfl rfl
theorem ix_3 (a b c d:Value)(l:List Value):ix (a::b::c::d::l) 3=d:=Eq.trans rfl rfl
theorem ix_4 (a b c d e:Value)(l:List Value):ix (a::b::c::d::e::l) 4=e:=Eq.trans rfl rfl
theorem ix_5 (a b c d e f:Value)(l:List Value):ix (a::b::c::d::e::f::l) 5=f:=Eq.trans rfl rfl
theorem za6 (e:EK)(k:IntKind)(a b:Int):binV e .add (.int k a) (.int k b)=some (.int k (k.wrap (a+b))):=by simp[binV,intV]
theorem zcx (e:EK)(k:IntKind)(a b:Int):binV e .sub (.int k a) (.int k b)=some (.int k (k.wrap (a-b))):=by simp[binV,intV]
theorem zeA (e:EK)(k:IntKind)(a b:Int):binV e .mul (.int k a) (.int k b)=some (.int k (k.wrap (a*b))):=by simp[binV,intV]
theorem zez (e:EK)(k:IntKind)(a b:Int)(h:b≠0):binV e .quo (.int k a) (.int k b)=some (.int k (k.wrap (a.tdiv b))):=by simp[binV,intV,h]
theorem zbd (e:EK)(k:IntKind)(a b:Int)(h:b≠0):binV e .rem (.int k a) (.int k b)=some (.int k (a.tmod b)):=by simp[binV,intV,h]
theorem zbp (e:EK)(k:IntKind)(a b:Int):binV e .lss (.int k a) (.int k b)=some (.bool (decide (a<b))):=by simp[binV,intV]
theorem zsV (e:EK)(k:IntKind)(a b:Int):binV e .leq (.int k a) (.int k b)=some (.bool (decide (a≤b))):=by simp[binV,intV]
theorem zjZ (e:EK)(k:IntKind)(a b:Int):binV e .gtr (.int k a) (.int k b)=some (.bool (decide (b<a))):=by simp[binV,intV]
theorem zsW (e:EK)(k:IntKind)(a b:Int):binV e .geq (.int k a) (.int k b)=some (.bool (decide (b≤a))):=by simp[binV,intV]
theorem zeB (e:EK)(k:IntKind)(a b:Int):binV e .eql (.int k a) (.int k b)=some (.bool (decide (a=b))):=by
 simp[binV,intV];rw[Bool.eq_iff_iff];simp
theorem zh8 (e:EK)(k:IntKind)(a b:Int):binV e .neq (.int k a) (.int k b)=some (.bool (!decide (a=b))):=by
 simp[binV,intV];rw[Bool.eq_iff_iff];simp
theorem binV_beq (a b:Bool):binV .b .eql (.bool a) (.bool b)=some (.bool (a==b)):=Eq.trans rfl rfl
theorem binV_bne (a b:Bool):binV .b .neq (.bool a) (.bool b)=some (.bool !(a==b)):=Eq.trans rfl rfl
theorem unV_not (b:Bool):unV .not (.bool b)=some (.bool !b):=Eq.trans rfl rfl
theorem unV_neg (k:IntKind)(a:Int):unV .neg (.int k a)=some (.int k (k.wrap (0-a))):=Eq.trans rfl rfl
theorem zoI (k k':IntKind)(a:Int):cviV k (.int k' a)=some (.int k (k.wrap a)):=Eq.trans rfl rfl
theorem zsu (k:IntKind)(a b:Int):maxV (.int k a) (.int k b)=some (.int k (max a b)):=by
 simp only[maxV,Option.some.injEq,Value.int.injEq,true_and];split<;>omega
theorem zss (k:IntKind)(a b:Int):minV (.int k a) (.int k b)=some (.int k (min a b)):=by
 simp only[minV,Option.some.injEq,Value.int.injEq,true_and];split<;>omega
theorem w64 {n:Int}(h1: -9223372036854775808≤n)(h2:n≤9223372036854775807):IntKind.i64.wrap n=n:=by
 show(if(true&&decide (n%(2^64:Int)≥(2^63:Int)))=true then n%(2^64:Int)-(2^64:Int)else n%(2^64:Int))=n
 split
 ·rename_i hh
  simp only[Bool.true_and,decide_eq_true_eq]at hh
  omega
 ·rename_i hh
  simp only[Bool.true_and,decide_eq_true_eq]at hh
  omega
theorem wu16 {n:Int}(h1:0≤n)(h2:n≤65535):IntKind.u16.wrap n=n:=by
 simp only[IntKind.wrap,IntKind.bits,IntKind.signed]
 simp;omega
theorem wu64 {n:Int}(h1:0≤n)(h2:n≤18446744073709551615):IntKind.u64.wrap n=n:=by
 simp only[IntKind.wrap,IntKind.bits,IntKind.signed]
 simp;omega
theorem zpz (a:Option Addr)(n c:Nat):zaf (.slice a n c)=some (.int .i64 n):=Eq.trans rfl rfl
theorem lenstV_st (s:ByteArray):zq1 (.string s)=some (.int .i64 s.size):=Eq.trans rfl rfl
theorem extV_0 (a:Value)(l:List Value):extV (.tuple ⟨a::l⟩) 0=some a:=Eq.trans rfl rfl
theorem extV_1 (a b:Value)(l:List Value):extV (.tuple ⟨a::b::l⟩) 1=some b:=Eq.trans rfl rfl
theorem extV_2 (a b c:Value)(l:List Value):extV (.tuple ⟨a::b::c::l⟩) 2=some c:=Eq.trans rfl rfl
theorem extV_3 (a b c d:Value)(l:List Value):extV (.tuple ⟨a::b::c::d::l⟩) 3=some d:=Eq.trans rfl rfl
theorem nilV_ptr (a:Addr):nilV (.pointer (some a))=some (.pointer (some a)):=Eq.trans rfl rfl
theorem fldV_0 (b o:Nat):fldV 0 (.pointer (some ⟨b,o,none⟩))=some (.pointer (some ⟨b,o,none⟩)):=Eq.trans rfl rfl
theorem zgg (b o n:Nat):(⟨b,o,none⟩:Addr).add n=⟨b,o+n,none⟩:=by
 unfold Addr.add;split<;>simp_all
theorem fldV_ptr (n b o:Nat):fldV n (.pointer (some ⟨b,o,none⟩))=some (.pointer (some ⟨b,o+n,none⟩)):=by
 show some (Value.pointer (some ((⟨b,o,none⟩:Addr).add n)))=_
 rw[zgg]
theorem znk (h:Heap)(a:Addr):ldV h (.pointer (some a))=zah h a:=Eq.trans rfl rfl
theorem zgW {s b o len cap:Nat}{k:IntKind}{i:Nat}(hi:i<len):idxV s (.slice (some ⟨b,o,none⟩) len cap) (.int k (i:Int))=some (.pointer (some ⟨b,o+i*s,none⟩)):=by
 show(if 0≤(i:Int)∧(i:Int)<(len:Int)then some (Value.pointer (some ((⟨b,o,none⟩:Addr).add ((i:Int).toNat*s))))else none)=_
 rw[if_pos (by omega),zgg,Int.toNat_natCast]
theorem zab {h:Heap}{b o:Nat}{c:Array Value}{t:TypeId}{f:Nat×Nat}(hb:h[b]? =some (.cells c t f)):zah h ⟨b,o,none⟩=c[o]? :=by
 unfold zah;simp[hb]
theorem push_old {h:Heap}{o:Obj}{b:Nat}(hb:b<h.size):(h.push o)[b]? =h[b]? :=by
 rw[Array.getElem?_push,if_neg (by omega)]
theorem zjU {h:Heap}{o:Obj}:(h.push o)[h.size]? =some o:=by simp
def Ext (h h':Heap):Prop:=h.size≤h'.size∧∀b,b<h.size→h'[b]? =h[b]?
theorem Ext.refl (h:Heap):Ext h h:=⟨Nat.le_refl _,fun _ _=>rfl⟩
theorem Ext.trans {a b c:Heap}(h:Ext a b)(k:Ext b c):Ext a c:=⟨Nat.le_trans h.1 k.1,fun i hi=>(k.2 i (Nat.lt_of_lt_of_le hi h.1)).trans (h.2 i hi)⟩
theorem Ext.push (h:Heap)(o:Obj):Ext h (h.push o):=⟨by simp,fun b hb=>push_old hb⟩
theorem Ext.cell {h h':Heap}(e:Ext h h'){a:Addr}{v:Value}(hc:zah h a=some v):zah h' a=some v:=by
 unfold zah at*
 rcases Nat.lt_or_ge a.block h.size with hb|hb
 ·rw[e.2 _ hb];exact hc
 ·rw[Array.getElem?_eq_none hb]at hc;cases hc
theorem vK_congr {r r':Option Value}{K:Value→Prop}(h:r=r'):vK r K=vK r' K:=by rw[h]
theorem iteK_congr {c c':Value}{x y:Prop}(h:c=c'):iteK c x y=iteK c' x y:=by rw[h]
theorem FCall_congr {P:Program}{f:FuncId}{args args':Array Value}{h h':Heap}{K:Value→Heap→Prop}(ha:args=args')(hh:h=h'):FCall P f args h K=FCall P f args' h' K:=by rw[ha,hh]
theorem loopK_congr {a a':List Value}{h h':Heap}{body:List Value→Env→Heap→(List Value→Heap→Prop)→Prop}(ha:a=a')(hh:h=h'):loopK a h body=loopK a' h' body:=by rw[ha,hh]
theorem gK_congr {g g':Value}{w:Bool}{m:(Value→Heap→Prop)→Prop}{h:Heap}{K:Value→Heap→Prop}(hg:g=g'):gK g w m h K=gK g' w m h K:=by rw[hg]
theorem newK_congr {c c':Array Value}{t:TypeId}{h:Heap}{K:Value→Heap→Prop}(hc:c=c'):newK c t h K=newK c' t h K:=by rw[hc]
theorem stK_congr {n:Nat}{x x' v v':Value}{h:Heap}{K:Value→Heap→Prop}(hx:x=x')(hv:v=v'):stK n x v h K=stK n x' v' h K:=by rw[hx,hv]
theorem rowK_congr {c:Array Value}{e:TypeId}{n:Nat}{l l':List (Nat×Nat×Value)}{h:Heap}{K:Value→Heap→Prop}(hl:l=l'):rowK c e n l h K=rowK c e n l' h K:=by rw[hl]
theorem mkK_congr {z:Value}{e:TypeId}{s b:Nat}{l l' c c':Value}{h:Heap}{K:Value→Heap→Prop}(hl:l=l')(hc:c=c'):mkK z e s b l c h K=mkK z e s b l' c' h K:=by rw[hl,hc]
theorem appK_congr {z:Value}{e:TypeId}{s b:Nat}{l l' c c':Value}{h:Heap}{K:Value→Heap→Prop}(hl:l=l')(hc:c=c'):appK z e s b l c h K=appK z e s b l' c' h K:=by rw[hl,hc]
theorem cpyK_congr {s:Nat}{l l' c c':Value}{h:Heap}{K:Value→Heap→Prop}(hl:l=l')(hc:c=c'):cpyK s l c h K=cpyK s l' c' h K:=by rw[hl,hc]
theorem drawK_congr {h h':Heap}{b:(Heap→Prop)→Prop}(hh:h=h'):drawK h b=drawK h' b:=by rw[hh]
theorem qK_congr {S:Heap→Prop}{r r':Heap→Option Value}{K:Value→Prop}(hr:r=r'):qK S r K=qK S r' K:=by rw[hr]
theorem zsw {d:TypeDesc}{m m' k k' v v':Value}{h:Heap}{K:Value→Heap→Prop}(h1:m=m')(h2:k=k')(h3:v=v'):zh1 d m k v h K=zh1 d m' k' v' h K:=by rw[h1,h2,h3]
theorem zsy {d:TypeDesc}{m m' k k':Value}{h:Heap}{K:Value→Heap→Prop}(h1:m=m')(h2:k=k'):zgb d m k h K=zgb d m' k' h K:=by rw[h1,h2]
attribute [congr] vK_congr iteK_congr FCall_congr loopK_congr gK_congr newK_congr stK_congr rowK_congr mkK_congr appK_congr cpyK_congr drawK_congr qK_congr zsw zsy
theorem zag {c:Array Value}{t:TypeId}{h:Heap}{K:Value→Heap→Prop}(H:∀b h',h'[b]? =some (.cells c t (0,0))→Ext h h'→h.size≤b→K (.pointer (some ⟨b,0,none⟩)) h'):newK c t h K:=
 H h.size (h.push (.cells c t)) zjU (Ext.push h _) (Nat.le_refl _)
theorem Ext.row {h h':Heap}(e:Ext h h'){b:Nat}{o:Obj}(hb:h[b]? =some o):h'[b]? =some o:=by
 rw[e.2 b (Array.getElem?_eq_some_iff.1 hb).1];exact hb
theorem zaB (c:Array Value):Value.cells (.agg c)=c:=Eq.trans rfl rfl
theorem loads_cons (h:Heap)(b o i n:Nat):zbu h ⟨b,o,none⟩ i (n+1)=match zah h ⟨b,o+i,none⟩with
  |some v=>match zbu h ⟨b,o,none⟩ (i+1) n with
   |some l=>some (v::l)
   |none=>none
  |none=>none:=by
 have e:zbu h ⟨b,o,none⟩ i (n+1)=match zah h ((⟨b,o,none⟩:Addr).add i)with
  |some v=>match zbu h ⟨b,o,none⟩ (i+1) n with
   |some l=>some (v::l)
   |none=>none
  |none=>none:=rfl
 rw[e,zgg]
theorem ldsV_ptr (n:Nat)(h:Heap)(a:Addr):ldsV n h (.pointer (some a))=(zbu h a 0 n).map fun l=>.agg l.toArray:=Eq.trans rfl rfl
theorem zmC {h:Heap}{b o:Nat}:∀(l:List Value) (i:Nat),(∀j (hj:j<l.length),zah h ⟨b,o+i+j,none⟩=some l[j])→zbu h ⟨b,o,none⟩ i l.length=some l
 | [],_,_=>rfl
 | v::l,i,H=>by
  rw[List.length_cons,loads_cons]
  have h0:=H 0 (by simp)
  simp only[Nat.add_zero,List.getElem_cons_zero]at h0
  rw[h0]
  have:=zmC l (i+1) fun j hj=>by
   have:=H (j+1) (by simpa using hj)
   simpa[Nat.add_assoc,Nat.add_comm 1 j]using this
  simp only[this]
theorem zoE {h:Heap}{b o:Nat}(l:List Value)(n:Nat)(hn:l.length=n)(H:∀j (hj:j<l.length),zah h ⟨b,o+j,none⟩=some l[j]):ldsV n h (.pointer (some ⟨b,o,none⟩))=some (.agg l.toArray):=by
 subst hn
 rw[ldsV_ptr,zmC l 0 (by simpa using H)]
 rfl
theorem zap {h:Heap}{b:Nat}{l:List Value}{t:TypeId}{f:Nat×Nat}(hb:h[b]? =some (.cells l.toArray t f))(n:Nat)(hn:l.length=n):ldsV n h (.pointer (some ⟨b,0,none⟩))=some (.agg l.toArray):=
 zoE l n hn fun j hj=>by rw[Nat.zero_add,zab hb];simp
theorem Ext.loads {h h':Heap}(e:Ext h h'){a:Addr}:∀{n i:Nat} {l:List Value},zbu h a i n=some l→zbu h' a i n=some l
 |0,_,_,H=>H
 | n+1,i,l,H=>by
  unfold zbu at H ⊢
  cases hc:zah h (a.add i)with
  |none=>simp[hc]at H
  | some v=>
   simp only[hc]at H
   rw[e.cell hc]
   cases hl:zbu h a (i+1) n with
   |none=>simp[hl]at H
   |some l'=>
    simp only[hl]at H
    simp only[e.loads hl]
    exact H
theorem Ext.lds {h h':Heap}(e:Ext h h'){n:Nat}{x v:Value}(H:ldsV n h x=some v):ldsV n h' x=some v:=by
 unfold ldsV at*
 split at H
 ·rename_i a
  cases hl:zbu h a 0 n with
  |none=>simp[hl]at H
  |some l=>
   simp only[hl]at H
   simp only[e.loads hl]
   exact H
 ·cases H
theorem zhG (h:Heap)(b k:Nat)(o:Obj):(zbM h b o)[k]? =if k=b then(if b<h.size then some o else none)else h[k]? :=by
 unfold zbM
 rw[Array.getElem?_setIfInBounds]
 by_cases hk:k=b
 ·subst hk;simp
 ·rw[if_neg (Ne.symm hk),if_neg hk]
theorem zhU (h:Heap)(b:Nat)(o:Obj):(zbM h b o).size=h.size:=by simp[zbM]
theorem setObj_push (h:Heap)(x y:Obj):zbM (h.push x) h.size y=h.push y:=by
 unfold zbM
 apply Array.ext'
 simp
theorem setCell_row {h:Heap}{b o:Nat}{cur:Array Value}{t:TypeId}{f:Nat×Nat}{v:Value}(hb:h[b]? =some (.cells cur t f)):zrG h ⟨b,o,none⟩ v=zbM h b (.cells (cur.setIfInBounds o v) t f):=by
 have hlt:b<h.size:=(Array.getElem?_eq_some_iff.1 hb).1
 unfold zrG
 apply Array.ext
 ·simp[zhU]
 ·intro i h1 h2
  apply Option.some.inj
  rw[←Array.getElem?_eq_getElem,←Array.getElem?_eq_getElem,zhG,Array.getElem?_modify]
  by_cases hi:i=b
  ·subst hi
   have e:h[i]=.cells cur t f:=by rw[Array.getElem?_eq_getElem hlt]at hb;exact Option.some.inj hb
   simp[hlt,e]
  ·rw[if_neg (Ne.symm hi),if_neg hi]
def wrL (cur:Array Value):Nat→List Value→Array Value
 |_,[]=>cur
 |o,v::l=>wrL (cur.setIfInBounds o v) (o+1) l
theorem zbl:∀(l:List Value) (cur:Array Value) (o:Nat),(wrL cur o l).size=cur.size
 | [],_,_=>rfl
 |v::l,cur,o=>by simp[wrL,zbl l]
theorem wrL_get:∀(l:List Value) (cur:Array Value) (o k:Nat),o+l.length≤cur.size→(wrL cur o l)[k]? =if o≤k∧k<o+l.length then l[k-o]? else cur[k]?
 | [],cur,o,k,_=>by simp only[wrL,List.length_nil];rw[if_neg (by omega)]
 | v::l,cur,o,k,h=>by
  simp only[List.length_cons]at h
  simp only[wrL]
  rw[wrL_get l _ (o+1) k (by simp;omega)]
  by_cases hk:k=o
  ·subst hk
   rw[if_neg (by omega),if_pos (by simp)]
   rw[Array.getElem?_setIfInBounds]
   simp;omega
  ·by_cases h2:o+1≤k∧k<o+1+l.length
   ·rw[if_pos h2,if_pos (by simp only[List.length_cons];omega)]
    rw[show k-o=(k-(o+1))+1 from by omega]
    simp
   ·rw[if_neg h2,if_neg (by simp only[List.length_cons];omega)]
    rw[Array.getElem?_setIfInBounds_ne (Ne.symm hk)]
theorem wrL_all (l:List Value)(cur:Array Value)(h:l.length=cur.size):wrL cur 0 l=l.toArray:=by
 apply Array.ext
 ·simp[zbl,h]
 ·intro i h1 h2
  apply Option.some.inj
  rw[←Array.getElem?_eq_getElem,←Array.getElem?_eq_getElem,wrL_get l cur 0 i (by omega)]
  simp only[zbl]at h1
  rw[if_pos (by omega)]
  simp
theorem zfJ {t:TypeId}{b o:Nat}:∀(l:List Value) (i:Nat) (h:Heap) (cur:Array Value),h[b]? =some (.cells cur t (0,0))→o+i+l.length≤cur.size→(∀v∈l,zam v=true)→
  zdo h ⟨b,o,none⟩ i l=some (zbM h b (.cells (wrL cur (o+i) l) t (0,0)))
 | [],i,h,cur,hb,_,_=>by
  simp only[zdo,wrL,Option.some.injEq]
  have hlt:b<h.size:=(Array.getElem?_eq_some_iff.1 hb).1
  apply Array.ext
  ·simp[zhU]
  ·intro k h1 h2
   apply Option.some.inj
   rw[←Array.getElem?_eq_getElem,←Array.getElem?_eq_getElem,zhG]
   split
   ·rename_i hk;subst hk;first|rw[if_pos hlt,hb]|exact hb
   ·rfl
 |v::l,i,h,cur,hb,hs,h1=>by
  simp only[List.length_cons]at hs
  have hlt:b<h.size:=(Array.getElem?_eq_some_iff.1 hb).1
  have hc:zah h ⟨b,o+i,none⟩=some cur[o+i]:=by rw[zab hb,Array.getElem?_eq_getElem (by omega)]
  have hf:zh5 h ⟨b,o+i,none⟩=false:=by unfold zh5;simp[hb]
  unfold zdo
  rw[zgg]
  simp only[hc,hf,h1 v (by simp),Bool.not_false,Bool.and_self,cond_true]
  rw[setCell_row hb]
  rw[zfJ l (i+1) _ (cur.setIfInBounds (o+i) v) (by rw[zhG,if_pos rfl,if_pos hlt]) (by simp;omega) (fun u hu=>h1 u (by simp[hu]))]
  simp only[wrL,Nat.add_assoc,Option.some.injEq]
  unfold zbM
  simp
theorem stN {t:TypeId}{b o n:Nat}{h:Heap}{cur:Array Value}{l:List Value}{K:Value→Heap→Prop}(hb:h[b]? =some (.cells cur t (0,0)))(hs:o+l.length≤cur.size)(h1:∀v∈l,zam v=true)(hn:l.length=n)
  (hK:K undef (zbM h b (.cells (wrL cur o l) t (0,0)))):stK n (.pointer (some ⟨b,o,none⟩)) (.agg l.toArray) h K:=by
 unfold stK
 have:=zfJ (t:=t) (b:=b) (o:=o) l 0 h cur hb (by simpa using hs) h1
 simp only[Value.cells,List.size_toArray,hn,if_true,this]
 exact hK
theorem zaK {v:Value}(h:zam v=true):v.cells=#[v]:=by cases v<;>first|rfl|cases h
theorem st1 {t:TypeId}{b o:Nat}{h:Heap}{cur:Array Value}{v:Value}{K:Value→Heap→Prop}(hb:h[b]? =some (.cells cur t (0,0)))(hs:o<cur.size)(h1:zam v=true)
  (hK:K undef (zbM h b (.cells (cur.setIfInBounds o v) t (0,0)))):stK 1 (.pointer (some ⟨b,o,none⟩)) v h K:=by
 unfold stK
 have:=zfJ (t:=t) (b:=b) (o:=o) [v] 0 h cur hb (by simp;omega) (by simpa using h1)
 simp only[zaK h1,List.size_toArray,List.length_cons,List.length_nil,if_true,this]
 exact hK
theorem st_new {t:TypeId}{n:Nat}{h:Heap}{old:Array Value}{l:List Value}{K:Value→Heap→Prop}(hs:l.length=old.size)(h1:∀v∈l,zam v=true)(hn:l.length=n)
  (hK:K undef (h.push (.cells l.toArray t))):stK n (.pointer (some ⟨h.size,0,none⟩)) (.agg l.toArray) (h.push (.cells old t)) K:=by
 refine stN (cur:=old) (t:=t) (by simp) (by omega) h1 hn ?_
 rw[setObj_push,wrL_all l old hs]
 exact hK
def Upd (b:Nat)(h h':Heap):Prop:=h'.size=h.size∧∀k,k≠b→h'[k]? =h[k]?
theorem Upd.row {b k:Nat}{h h':Heap}(u:Upd b h h')(hk:k≠b){o:Obj}(r:h[k]? =some o):h'[k]? =some o:=by rw[u.2 k hk];exact r
theorem Upd.set {b:Nat}{h:Heap}{o:Obj}:Upd b h (zbM h b o):=⟨zhU h b o,fun k hk=>by rw[zhG,if_neg hk]⟩
theorem Ext.upd {h h1 h2:Heap}{b:Nat}(e:Ext h h1)(hb:h.size≤b)(u:Upd b h1 h2):Ext h h2:=
 ⟨by rw[u.1];exact e.1,fun k hk=>by rw[u.2 k (by omega)];exact e.2 k hk⟩
theorem zf2 {h:Heap}{b:Nat}{o o':Obj}(r:h[b]? =some o):(zbM h b o')[b]? =some o':=by
 rw[zhG,if_pos rfl,if_pos (Array.getElem?_eq_some_iff.1 r).1]
theorem zbA {t:TypeId}{b n:Nat}{h:Heap}{old:Array Value}{l:List Value}{K:Value→Heap→Prop}(r:h[b]? =some (.cells old t (0,0)))(hs:l.length=old.size)(h1:∀v∈l,zam v=true)(hn:l.length=n)
  (hK:∀h',h'[b]? =some (.cells l.toArray t (0,0))→Upd b h h'→K undef h'):stK n (.pointer (some ⟨b,0,none⟩)) (.agg l.toArray) h K:=by
 refine stN r (by omega) h1 hn ?_
 rw[wrL_all l old hs]
 exact hK _ (zf2 r) Upd.set
theorem zaH {t:TypeId}{b o:Nat}{h:Heap}{cur:Array Value}{v:Value}{K:Value→Heap→Prop}(r:h[b]? =some (.cells cur t (0,0)))(hs:o<cur.size)(h1:zam v=true)
  (hK:∀h',h'[b]? =some (.cells (cur.setIfInBounds o v) t (0,0))→Upd b h h'→K undef h'):stK 1 (.pointer (some ⟨b,o,none⟩)) v h K:=
 st1 r hs h1 (hK _ (zf2 r) Upd.set)
theorem zbn {c c':Array Value}{e:TypeId}{n:Nat}{l:List (Nat×Nat×Value)}{h:Heap}{K:Value→Heap→Prop}(hf:fillL c l=some c')
  (H:∀b h',h'[b]? =some (.cells c' e (0,0))→Ext h h'→h.size≤b→K (.slice (some ⟨b,0,none⟩) n n) h'):rowK c e n l h K:=by
 unfold rowK
 rw[hf]
 exact H h.size (h.push (.cells c' e)) zjU (Ext.push h _) (Nat.le_refl _)
theorem least {p:Nat→Prop}:∀(n:Nat),p n→∃m,p m∧∀k,p k→m≤k:=by
 intro n
 induction n using Nat.strongRecOn with
 | _ n ih=>
  intro hn
  by_cases hx:∃k,k<n∧p k
  ·obtain⟨k,hk,hp⟩:=hx
   exact ih k hk hp
  ·exact⟨n,hn,fun k hk=>Nat.le_of_not_lt fun hlt=>hx ⟨k,hlt,hk⟩⟩
theorem za1 {init:List Value}{h:Heap}{body:List Value→Env→Heap→(List Value→Heap→Prop)→Prop}(I:Nat→List Value→Heap→Prop)(d0:Nat)(h0:I d0 init h)
  (step:∀d xs ρj h again,I d xs h→(∀ys h' d',d'<d→I d' ys h'→again ys h')→body xs ρj h again):loopK init h body:=by
 have hex:∀xs h,∃m:Nat,(∃d,I d xs h)→I m xs h∧∀k,I k xs h→m≤k:=by
  intro xs h
  by_cases hx:∃d,I d xs h
  ·obtain⟨d,hd⟩:=hx
   obtain⟨m,hm,hl⟩:=least (p:=fun d=>I d xs h) d hd
   exact⟨m,fun _=>⟨hm,hl⟩⟩
  ·exact⟨0,fun h=>absurd h hx⟩
 let m:List Value→Heap→Nat:=fun xs h=>Classical.choose (hex xs h)
 have hm:∀xs h,(∃d,I d xs h)→I (m xs h) xs h∧∀k,I k xs h→m xs h≤k:=fun xs h=>Classical.choose_spec (hex xs h)
 refine⟨fun xs h=>∃d,I d xs h,m,⟨d0,h0⟩,?_⟩
 intro xs ρj h hI
 refine step (m xs h) xs ρj h _ (hm xs h hI).1 ?_
 intro ys h' d' hd hI'
 exact⟨⟨d',hI'⟩,Nat.lt_of_le_of_lt ((hm ys h' ⟨d',hI'⟩).2 d' hI') hd⟩
theorem zar {body:(List Value→Heap→Prop)→Prop}{rest:List Value→Env→Heap→Prop}(J:List Value→Heap→Prop)(h1:body J)(h2:∀xs ρj h,J xs h→rest xs ρj h):joinK body rest:=⟨J,h1,h2⟩
theorem drawK_ext {h:Heap}{body:(Heap→Prop)→Prop}(H:body (Ext h)):drawK h body:=⟨Ext h,Ext.refl h,H⟩
theorem zae {S:Heap→Prop}{r:Heap→Option Value}{K:Value→Prop}(v:Value)(h:∀h,S h→r h=some v)(hK:K v):qK S r K:=⟨v,h,hK⟩
attribute [go_sem] gV_und gK_und zaa zcU zbo gV_true gV_false gV_tf gV_ft gK_true gK_false gK_tf gK_ft pickV_true pickV_false ix_0 ix_1 ix_2 ix_3 ix_4 ix_5 za6 zcx zeA zbp zsV zjZ zsW zeB zh8 binV_beq binV_bne unV_not unV_neg zoI zsu zss zaB zpz lenstV_st List.getElem?_toArray List.getElem?_cons_zero List.getElem?_cons_succ Nat.zero_add decide_true decide_false Bool.not_true Bool.not_false Bool.and_true Bool.and_false Bool.or_true Bool.or_false Bool.true_and Bool.false_and Bool.true_or Bool.false_or not_true_eq_false not_false_eq_true extV_0 extV_1 extV_2 extV_3 nilV_ptr fldV_0 fldV_ptr znk
def Fr (M:Nat→Prop)(h h':Heap):Prop:=h.size≤h'.size∧∀b,b<h.size→¬M b→h'[b]? =h[b]?
theorem Fr.refl (M:Nat→Prop)(h:Heap):Fr M h h:=⟨Nat.le_refl _,fun _ _ _=>rfl⟩
theorem Fr.trans {M:Nat→Prop}{a b c:Heap}(h:Fr M a b)(k:Fr M b c):Fr M a c:=
 ⟨Nat.le_trans h.1 k.1,fun i hi hm=>(k.2 i (Nat.lt_of_lt_of_le hi h.1) hm).trans (h.2 i hi hm)⟩
theorem Fr.mono {M M':Nat→Prop}{a b:Heap}(h:Fr M a b)(k:∀i,i<a.size→M i→M' i):Fr M' a b:=⟨h.1,fun i hi hm=>h.2 i hi fun x=>hm (k i hi x)⟩
theorem Ext.fr {M:Nat→Prop}{a b:Heap}(h:Ext a b):Fr M a b:=⟨h.1,fun i hi _=>h.2 i hi⟩
theorem Ext.then_fr {M:Nat→Prop}{a b c:Heap}(h:Ext a b)(k:Fr M b c)(n:∀i,M i→a.size≤i):Ext a c:=
 ⟨Nat.le_trans h.1 k.1,fun i hi=>(k.2 i (Nat.lt_of_lt_of_le hi h.1) fun m=>Nat.not_le.2 hi (n i m)).trans (h.2 i hi)⟩
theorem Fr.row {M:Nat→Prop}{h h':Heap}(e:Fr M h h'){b:Nat}{o:Obj}(hb:h[b]? =some o)(hm:¬M b):h'[b]? =some o:=by
 rw[e.2 b (Array.getElem?_eq_some_iff.1 hb).1 hm];exact hb
theorem Fr.cell {M:Nat→Prop}{h h':Heap}(e:Fr M h h'){a:Addr}{v:Value}(hc:zah h a=some v)(hm:¬M a.block):zah h' a=some v:=by
 unfold zah at*
 rcases Nat.lt_or_ge a.block h.size with hb|hb
 ·rw[e.2 _ hb hm];exact hc
 ·rw[Array.getElem?_eq_none hb]at hc;cases hc
theorem cell_lt {h:Heap}{a:Addr}{v:Value}(hc:zah h a=some v):a.block<h.size:=by
 unfold zah at hc
 rcases Nat.lt_or_ge a.block h.size with hb|hb
 ·exact hb
 ·rw[Array.getElem?_eq_none hb]at hc;cases hc
def blk:Value→Nat→Prop
 | .slice (some a) _ _,b=>b=a.block
 | .pointer (some a),b=>b=a.block
 |_,_=>False
def SlC (w:Nat)(h:Heap)(v:Value)(n:Nat)(cs:List Value):Prop:=
 cs.length=n*w∧∃a cap,v=.slice a n cap∧(cs=[]∨∃b o,a=some ⟨b,o,none⟩∧∀j (hj:j<cs.length),zah h ⟨b,o+j,none⟩=some cs[j])
def Own (w:Nat)(h:Heap)(v:Value)(n:Nat)(cs:List Value):Prop:=
 (v=.slice none 0 0∧n=0∧cs=[])∨∃b cap r e,v=.slice (some ⟨b,0,none⟩) n cap∧n≤cap∧cs.length=n*w∧(cs++r).length=cap*w∧h[b]? =some (.cells (cs++r).toArray e (0,0))
theorem SlC.fr {w:Nat}{M:Nat→Prop}{h h':Heap}{v:Value}{n:Nat}{cs:List Value}(H:SlC w h v n cs)(e:Fr M h h')(hm:∀b,b<h.size→blk v b→¬M b):SlC w h' v n cs:=by
 obtain⟨hl,a,cap,rfl,H⟩:=H
 refine⟨hl,a,cap,rfl,?_⟩
 rcases H with H|⟨b,o,rfl,H⟩
 ·exact .inl H
 ·exact .inr ⟨b,o,rfl,fun j hj=>e.cell (H j hj) (hm b (cell_lt (H j hj)) rfl)⟩
theorem SlC.ext {w:Nat}{h h':Heap}{v:Value}{n:Nat}{cs:List Value}(H:SlC w h v n cs)(e:Ext h h'):SlC w h' v n cs:=H.fr (M:=fun _=>False) e.fr fun _ _ _=>id
theorem Own.sl {w:Nat}{h:Heap}{v:Value}{n:Nat}{cs:List Value}(H:Own w h v n cs):SlC w h v n cs:=by
 rcases H with⟨rfl,rfl,rfl⟩|⟨b,cap,r,e,rfl,hc,hl,_,hb⟩
 ·exact⟨by simp,none,0,rfl,.inl rfl⟩
 ·refine⟨hl,_,cap,rfl,.inr ⟨b,0,rfl,fun j hj=>?_⟩⟩
  rw[Nat.zero_add,zab hb]
  simp[List.getElem?_append_left hj,hj]
theorem Own.fr {w:Nat}{M:Nat→Prop}{h h':Heap}{v:Value}{n:Nat}{cs:List Value}(H:Own w h v n cs)(f:Fr M h h')(hm:∀b,blk v b→¬M b):Own w h' v n cs:=by
 rcases H with⟨rfl,rfl,rfl⟩|⟨b,cap,r,e,rfl,hc,hl,hr,hb⟩
 ·exact .inl ⟨rfl,rfl,rfl⟩
 ·exact .inr ⟨b,cap,r,e,rfl,hc,hl,hr,f.row hb (hm b rfl)⟩
theorem Own.lt {w:Nat}{h:Heap}{v:Value}{n:Nat}{cs:List Value}(H:Own w h v n cs){b:Nat}(hb:blk v b):b<h.size:=by
 rcases H with⟨rfl,rfl,rfl⟩|⟨b',cap,r,e,rfl,hc,hl,hr,h'⟩
 ·cases hb
 ·rw[show b=b' from hb];exact(Array.getElem?_eq_some_iff.1 h').1
theorem SlC.loads {w:Nat}{h:Heap}{v:Value}{n:Nat}{cs:List Value}(H:SlC w h v n cs):srcOf w h n v=some cs:=by
 obtain⟨hl,a,cap,rfl,H⟩:=H
 cases a with
 |none=>
  rcases H with rfl|⟨b,o,h1,_⟩
  ·rfl
  ·cases h1
 | some a=>
  show zbu h a 0 (n*w)=_
  rcases H with rfl|⟨b,o,h1,H⟩
  ·rw[←hl];rfl
  ·cases h1
   rw[←hl]
   exact zmC cs 0 (by simpa using H)
theorem zry:∀(ds cs r:List Value),ds.length≤r.length→wrL (cs++r).toArray cs.length ds=(cs++ds++r.drop ds.length).toArray
 | [],cs,r,_=>by simp[wrL]
 | v::ds,cs,r,h=>by
  cases r with
  |nil=>simp at h
  |cons x r=>
   have e:((cs++x::r).toArray).setIfInBounds cs.length v=((cs++[v])++r).toArray:=by simp
   rw[wrL,e]
   have:=zry ds (cs++[v]) r (by simpa using h)
   rw[List.length_append,List.length_singleton]at this
   rw[this]
   simp
theorem Upd.fr {b:Nat}{h h':Heap}(u:Upd b h h'):Fr (fun k=>k=b) h h':=⟨Nat.le_of_eq u.1.symm,fun k _ hk=>u.2 k hk⟩
theorem size_zc (z:Array Value)(n:Nat):(Builtin.zeroCells z n).size=n*z.size:=by simp[Builtin.zeroCells]
theorem zj1 {z:Value}{e:TypeId}{w bytes n m:Nat}{s x:Value}{h:Heap}{cs ds:List Value}{K:Value→Heap→Prop}
  (hs:Own w h s n cs) (hx:SlC w h x m ds) (ho:∀v∈ds,zam v=true) (hz:z.cells.size=w) (hb:(n+m)*bytes≤140737488355328) (hn:n+m≤9223372036854775807)
  (H:∀s' h',Own w h' s' (n+m) (cs++ds)→Fr (blk s) h h'→(∀b,blk s' b→blk s b∨h.size≤b)→K s' h'):appK z e w bytes s x h K:=by
 have hsl:=hs.sl.loads
 have hxl:=hx.loads
 obtain⟨hdl,a',cap',rfl,hx'⟩:=hx
 rcases hs with⟨rfl,rfl,rfl⟩|⟨b,cap,r,e0,rfl,hc,hl,hr,hbk⟩
 ·unfold appK
  simp only[lenN]
  split
  ·rename_i h0
   have:m=0:=by omega
   subst this
   rw[hxl]
   have:ds=[]:=List.eq_nil_of_length_eq_zero (by simpa using hdl)
   subst this
   exact H _ _ (.inl ⟨rfl,rfl,rfl⟩) (Fr.refl _ _) (fun b hb=>hb.elim)
  ·rename_i h0
   rw[hsl,hxl]
   refine⟨by simp only[IntKind.max];simp only[IntKind.signed,IntKind.bits];omega,Nat.le_trans (growslice_fits (by omega) hb) (by decide),fun newCap h1 h2=>?_⟩
   refine H _ _ (.inr ⟨h.size,newCap,(Builtin.zeroCells z.cells (newCap-(0+m))).toList,e,rfl,h1,?_,?_,?_⟩) (Ext.push h _).fr (fun b hb=>.inr (by rw[show b=h.size from hb];exact Nat.le_refl _))
   ·simp[hdl]
   ·simp[hdl,size_zc,hz];rw[←Nat.add_mul];congr 1;omega
   ·rw[zjU];simp
 ·unfold appK
  simp only[lenN]
  split
  ·rename_i h0
   rw[hxl]
   have hrl:ds.length≤r.length:=by
    rw[List.length_append]at hr
    rw[hdl]
    have:(n+m)*w≤cap*w:=Nat.mul_le_mul_right w h0
    rw[Nat.add_mul]at this
    omega
   have hst:=zfJ (o:=n*w) ds 0 h _ hbk (by simp;omega) ho
   simp only[zgg,Nat.zero_add,hst]
   rw[Nat.add_zero,←hl,zry ds cs r hrl]
   refine H _ _ (.inr ⟨b,cap,r.drop ds.length,e0,rfl,h0,?_,?_,zf2 hbk⟩) (Upd.set.fr) (fun k hk=>.inl hk)
   ·simp[hl,hdl,Nat.add_mul]
   ·rw[←hr];simp;omega
  ·rename_i h0
   rw[hsl,hxl]
   refine⟨by simp only[IntKind.max];simp only[IntKind.signed,IntKind.bits];omega,Nat.le_trans (growslice_fits (by omega) hb) (by decide),fun newCap h1 h2=>?_⟩
   refine H _ _ (.inr ⟨h.size,newCap,(Builtin.zeroCells z.cells (newCap-(n+m))).toList,e,rfl,h1,?_,?_,?_⟩) (Ext.push h _).fr (fun b hb=>.inr (by rw[show b=h.size from hb];exact Nat.le_refl _))
   ·simp[hl,hdl,Nat.add_mul]
   ·simp[hl,hdl,size_zc,hz];rw[←Nat.add_mul,←Nat.add_mul];congr 1;omega
   ·rw[zjU];simp
theorem SlC.at1 {h:Heap}{v:Value}{n:Nat}{cs:List Value}(H:SlC 1 h v n cs){k:IntKind}{i:Nat}(hi:i<n):∃p,idxV 1 v (.int k (i:Int))=some p∧ldV h p=some (cs[i]'(by rw[H.1];omega)):=by
 have hl:=H.1
 obtain⟨_,a,cap,rfl,H⟩:=H
 rcases H with rfl|⟨b,o,rfl,H⟩
 ·simp at hl;omega
 ·refine⟨_,zgW hi,?_⟩
  rw[znk,Nat.mul_one]
  exact H i (by omega)
theorem SlC.atw {w:Nat}{h:Heap}{v:Value}{n:Nat}{cs:List Value}(H:SlC w h v n cs)(hw:0<w){k:IntKind}{i:Nat}(hi:i<n):
  ∃p,idxV w v (.int k (i:Int))=some p∧ldsV w h p=some (.agg ((cs.drop (i*w)).take w).toArray):=by
 have hl:=H.1
 obtain⟨_,a,cap,rfl,H⟩:=H
 have hiw:i*w+w≤cs.length:=by rw[hl,←Nat.succ_mul];exact Nat.mul_le_mul_right w hi
 rcases H with rfl|⟨b,o,rfl,H⟩
 ·simp at hiw;omega
 ·refine⟨_,zgW hi,?_⟩
  refine zoE _ w (by simp;omega) fun j hj=>?_
  simp at hj
  have:=H (i*w+j) (by omega)
  rw[←Nat.add_assoc]at this
  rw[this]
  simp
theorem Own.at1 {h:Heap}{v:Value}{n:Nat}{cs:List Value}(H:Own 1 h v n cs){k:IntKind}{i:Nat}(hi:i<n):
  ∃p,idxV 1 v (.int k (i:Int))=some p∧ldV h p=some (cs[i]'(by rw[H.sl.1];omega))∧∀(x:Value) (K:Value→Heap→Prop),zam x=true→
   (∀h',Own 1 h' v n (cs.set i x)→Fr (blk v) h h'→h'.size=h.size→K undef h')→stK 1 p x h K:=by
 have hl:=H.sl.1
 rcases H with⟨rfl,rfl,rfl⟩|⟨b,cap,r,e,rfl,hc,_,hr,hb⟩
 ·omega
 ·refine⟨_,zgW hi,?_,fun x K hx HK=>?_⟩
  ·rw[znk,Nat.mul_one,zab hb]
   have hi':i<cs.length:=by omega
   simp only[Nat.zero_add,List.getElem?_toArray]
   rw[List.getElem?_append_left hi',List.getElem?_eq_getElem hi']
  ·refine zaH hb (by simp;omega) hx fun h' r' u=>?_
   refine HK h' (.inr ⟨b,cap,r,e,rfl,hc,by simpa using hl,by simpa using hr,?_⟩) (u.fr.mono fun k _ hk=>hk) u.1
   rw[r']
   congr 2
   simp[List.set_append_left,show i<cs.length by omega]
theorem zeros_one {z:Value}(hz:z.cells=#[z])(n:Nat):zg7 z n=(List.replicate n z).toArray:=by
 unfold zg7
 rw[hz]
 apply Array.ext
 ·simp
 ·intro i h1 h2
  simp[Nat.mod_one]
theorem zha {z:Value}{e:TypeId}{bytes n:Nat}{k k':IntKind}{h:Heap}{K:Value→Heap→Prop}(hz:z.cells=#[z])(hb:bytes*n≤281474976710656)(hn:n≤9223372036854775807)
  (H:∀v h',Own 1 h' v n (List.replicate n z)→Ext h h'→(∀b,blk v b→h.size≤b)→K v h'):mkK z e 1 bytes (.int k n) (.int k' n) h K:=by
 unfold mkK
 have hw:IntKind.i64.wrap (n:Int)=n:=w64 (by omega) (by omega)
 simp only[hw]
 refine⟨by omega,by omega,by exact_mod_cast hb,?_⟩
 rw[Int.toNat_natCast,Nat.mul_one,zeros_one hz]
 refine H _ _ (.inr ⟨h.size,n,[],e,rfl,Nat.le_refl _,by simp,by simp,?_⟩) (Ext.push h _) (fun b hb=>by rw[show b=h.size from hb];exact Nat.le_refl _)
 rw[zjU];simp
theorem SlC.load_some {w:Nat}{h:Heap}{v:Value}{n:Nat}{cs:List Value}(H:SlC w h v n cs){k:Nat}(hk:k≤n):srcOf w h k v=some (cs.take (k*w)):=by
 obtain⟨hl,a,cap,rfl,H⟩:=H
 have hkw:k*w≤n*w:=Nat.mul_le_mul_right w hk
 have hlen:(cs.take (k*w)).length=k*w:=by rw[List.length_take];omega
 cases a with
 |none=>
  rcases H with rfl|⟨b,o,h1,_⟩
  ·simp[srcOf]
  ·cases h1
 | some a=>
  show zbu h a 0 (k*w)=_
  rcases H with rfl|⟨b,o,h1,H⟩
  ·simp at hlen
   rw[←hlen];simp[zbu]
  ·cases h1
   have:=zmC (h:=h) (b:=b) (o:=o) (cs.take (k*w)) 0 (fun j hj=>by
    have hj':j<cs.length:=by rw[List.length_take]at hj;omega
    simpa using H j hj')
   rw[hlen]at this
   exact this
theorem zoJ {n m:Nat}{d x:Value}{h:Heap}{cs ds:List Value}{K:Value→Heap→Prop}(hd:Own 1 h d n cs)(hx:SlC 1 h x m ds)(ho:∀v∈ds,zam v=true)
  (H:∀h',Own 1 h' d n (ds.take n++cs.drop m)→Fr (blk d) h h'→h'.size=h.size→K (.int .i64 (Nat.min m n:Nat)) h'):cpyK 1 d x h K:=by
 have hxl:=hx.load_some (k:=Nat.min m n) (Nat.min_le_left ..)
 obtain⟨hdl,a',cap',rfl,hx'⟩:=hx
 unfold cpyK
 rcases hd with⟨rfl,rfl,rfl⟩|⟨b,cap,r,e,rfl,hc,hl,hr,hb⟩
 ·simp only[lenN]
  rw[hxl]
  refine H _ (.inl ⟨rfl,rfl,by simp⟩) (Fr.refl _ _) rfl
 ·simp only[lenN]
  rw[hxl]
  have hte:ds.take (Nat.min m n*1)=ds.take n:=by
   rw[Nat.mul_one]
   rcases Nat.le_total m n with h1|h1
   ·rw[show Nat.min m n=m from Nat.min_eq_left h1,List.take_of_length_le (by omega),List.take_of_length_le (by omega)]
   ·rw[show Nat.min m n=n from Nat.min_eq_right h1]
  rw[hte]
  have hle:(ds.take n).length≤(cs++r).length:=by simp;omega
  have hst:=zfJ (o:=0) (ds.take n) 0 h _ hb (by simp;omega) (fun v hv=>ho v (List.mem_of_mem_take hv))
  simp only[hst]
  have hw:=zry (ds.take n) [] (cs++r) hle
  simp only[List.nil_append,List.length_nil]at hw
  rw[show(0+0:Nat)=0 from rfl,hw]
  refine H _ (.inr ⟨b,cap,r,e,rfl,hc,?_,?_,?_⟩) Upd.set.fr (zhU ..)
  ·simp;omega
  ·simp at hr ⊢;omega
  ·rw[zf2 hb]
   congr 3
   rw[List.append_assoc]
   congr 1
   rcases Nat.le_total m n with h1|h1
   ·rw[List.length_take,List.drop_append_of_le_length (by omega)]
    congr 2;omega
   ·rw[List.length_take,Nat.min_eq_left (by omega), @List.drop_eq_nil_of_le _ cs _ (by omega),List.nil_append]
    rw[show n=cs.length by omega,List.drop_left]
theorem loop_from {h:Heap}{body:List Value→Env→Heap→(List Value→Heap→Prop)→Prop}(n i0:Nat)(I:Nat→Heap→Prop)(h0:I i0 h)
  (step:∀k h again ρj,i0≤k→I k h→(∀h',k<n→I (k+1) h'→again [.int .i64 ((k:Int)+1)] h')→body [.int .i64 (k:Int)] ρj h again):loopK [.int .i64 (i0:Int)] h body:=by
 refine za1 (fun d xs h=>∃k,i0≤k∧d=n-k∧xs=[.int .i64 (k:Int)]∧I k h) (n-i0) ⟨i0,Nat.le_refl _,rfl,rfl,h0⟩ ?_
 rintro d _ ρj h1 again ⟨k,hk0,hd,rfl,hI⟩ hag
 exact step k h1 again ρj hk0 hI fun h' hk hI'=>hag _ _ (n-(k+1)) (by omega) ⟨k+1,by omega,rfl,by simp,hI'⟩
theorem znj {h:Heap}{body:List Value→Env→Heap→(List Value→Heap→Prop)→Prop}(n:Nat)(I:Nat→Heap→Prop)(h0:I 0 h)
  (step:∀k h again ρj,I k h→(∀h',k<n→I (k+1) h'→again [.int .i64 ((k:Int)+1)] h')→body [.int .i64 (k:Int)] ρj h again):loopK [.int .i64 0] h body:=
 loop_from n 0 I h0 fun k h again ρj _=>step k h again ρj
structure Rp (α:Type) where
 w:Nat
 R:(Nat→Prop)→Heap→List Value→α→Prop
 len:∀{Z:Nat→Prop} {h:Heap} {cs:List Value} {x:α},R Z h cs x→cs.length=w
 one:∀{Z:Nat→Prop} {h:Heap} {cs:List Value} {x:α},R Z h cs x→∀v∈cs,zam v=true
 fr:∀{Z M:Nat→Prop} {h h':Heap} {cs:List Value} {x:α},R Z h cs x→Fr M h h'→(∀b,b<h.size→Z b→¬M b)→R Z h' cs x
 mono:∀{Z Z':Nat→Prop} {h:Heap} {cs:List Value} {x:α},R Z h cs x→(∀b,b<h.size→Z b→Z' b)→R Z' h cs x
theorem Rp.ext {α:Type}(e:Rp α){Z:Nat→Prop}{h h':Heap}{cs:List Value}{x:α}(H:e.R Z h cs x)(k:Ext h h'):e.R Z h' cs x:=e.fr (M:=fun _=>False) H k.fr fun _ _ _=>id
theorem SlC.nil {w:Nat}{h h':Heap}{v:Value}{n:Nat}(H:SlC w h v n []):SlC w h' v n []:=by
 obtain⟨hl,a,cap,rfl,H⟩:=H
 exact⟨hl,a,cap,rfl,.inl rfl⟩
theorem SlC.isSl {w:Nat}{h:Heap}{v:Value}{n:Nat}{cs:List Value}(H:SlC w h v n cs):∃a cap,v=.slice a n cap:=by
 obtain⟨_,a,cap,rfl,_⟩:=H
 exact⟨a,cap,rfl⟩
theorem Own.isSl {w:Nat}{h:Heap}{v:Value}{n:Nat}{cs:List Value}(H:Own w h v n cs):∃a cap,v=.slice a n cap:=H.sl.isSl
theorem SlC.lt {w:Nat}{h:Heap}{v:Value}{n:Nat}{cs:List Value}(H:SlC w h v n cs)(h0:cs≠[]){b:Nat}(hb:blk v b):b<h.size:=by
 obtain⟨hl,a,cap,rfl,H⟩:=H
 rcases H with rfl|⟨b',o,rfl,H⟩
 ·exact absurd rfl h0
 ·have:=cell_lt (H 0 (List.length_pos_iff.2 h0))
  rw[show b=b' from hb];exact this
namespace Rp
def int (k:IntKind):Rp Int where
 w:=1
 R:=fun _ _ cs n=>cs=[.int k n]
 len:=by rintro _ _ _ _ rfl;rfl
 one:=by rintro _ _ _ _ rfl;simp[zam]
 fr:=fun H _ _=>H
 mono:=fun H _=>H
def bool:Rp Bool where
 w:=1
 R:=fun _ _ cs n=>cs=[.bool n]
 len:=by rintro _ _ _ _ rfl;rfl
 one:=by rintro _ _ _ _ rfl;simp[zam]
 fr:=fun H _ _=>H
 mono:=fun H _=>H
def str:Rp ByteArray where
 w:=1
 R:=fun _ _ cs n=>cs=[.string n]
 len:=by rintro _ _ _ _ rfl;rfl
 one:=by rintro _ _ _ _ rfl;simp[zam]
 fr:=fun H _ _=>H
 mono:=fun H _=>H
abbrev el (w:Nat)(ds:List Value)(i:Nat):List Value:=(ds.drop (i*w)).take w
def Sl {α:Type}(e:Rp α)(Z:Nat→Prop)(h:Heap)(v:Value)(l:List α):Prop:=
 ∃ds,SlC e.w h v l.length ds∧(ds≠[]→∀b,blk v b→Z b)∧∀i (hi:i<l.length),e.R Z h (el e.w ds i) l[i]
theorem Sl.fr {α:Type}{e:Rp α}{Z M:Nat→Prop}{h h':Heap}{v:Value}{l:List α}(H:Sl e Z h v l)(f:Fr M h h')(q:∀b,b<h.size→Z b→¬M b):Sl e Z h' v l:=by
 obtain⟨ds,hs,hz,he⟩:=H
 refine⟨ds,?_,hz,fun i hi=>e.fr (he i hi) f q⟩
 by_cases h0:ds=[]
 ·subst h0;exact hs.nil
 ·exact hs.fr f fun b hb hbl=>q b hb (hz h0 b hbl)
theorem Sl.ext {α:Type}{e:Rp α}{Z:Nat→Prop}{h h':Heap}{v:Value}{l:List α}(H:Sl e Z h v l)(k:Ext h h'):Sl e Z h' v l:=H.fr (M:=fun _=>False) k.fr fun _ _ _=>id
theorem Sl.mono {α:Type}{e:Rp α}{Z Z':Nat→Prop}{h:Heap}{v:Value}{l:List α}(H:Sl e Z h v l)(q:∀b,b<h.size→Z b→Z' b):Sl e Z' h v l:=by
 obtain⟨ds,hs,hz,he⟩:=H
 exact⟨ds,hs,fun h0 b hb=>q b (hs.lt h0 hb) (hz h0 b hb),fun i hi=>e.mono (he i hi) q⟩
theorem Sl.isSl {α:Type}{e:Rp α}{Z:Nat→Prop}{h:Heap}{v:Value}{l:List α}(H:Sl e Z h v l):∃a cap,v=.slice a l.length cap:=by
 obtain⟨ds,hs,_⟩:=H
 exact hs.isSl
theorem Sl.one {α:Type}{e:Rp α}{Z:Nat→Prop}{h:Heap}{v:Value}{l:List α}(H:Sl e Z h v l):zam v=true:=by
 obtain⟨a,cap,rfl⟩:=H.isSl;rfl
theorem Sl.nil {α:Type}{e:Rp α}{Z:Nat→Prop}{h:Heap}:Sl e Z h (.slice none 0 0) []:=⟨[],⟨by simp,none,0,rfl,.inl rfl⟩,fun h=>absurd rfl h,fun i hi=>absurd hi (by simp)⟩
def sl {α:Type}(e:Rp α):Rp (List α) where
 w:=1
 R:=fun Z h cs l=>∃v,cs=[v]∧Sl e Z h v l
 len:=by rintro _ _ _ _ ⟨v,rfl,_⟩;rfl
 one:=by
  rintro _ _ _ _ ⟨v,rfl,H⟩ u hu
  rw[List.mem_singleton.1 hu];exact H.one
 fr:=by rintro _ _ _ _ _ _ ⟨v,rfl,H⟩ f q;exact⟨v,rfl,H.fr f q⟩
 mono:=by rintro _ _ _ _ _ ⟨v,rfl,H⟩ q;exact⟨v,rfl,H.mono q⟩
def Pt {α:Type}(e:Rp α)(Z:Nat→Prop)(h:Heap)(v:Value)(x:α):Prop:=
 ∃b ds t,v=.pointer (some ⟨b,0,none⟩)∧h[b]? =some (.cells (List.toArray ds) t (0,0))∧Z b∧e.R Z h ds x
theorem Pt.fr {α:Type}{e:Rp α}{Z M:Nat→Prop}{h h':Heap}{v:Value}{x:α}(H:Pt e Z h v x)(f:Fr M h h')(q:∀b,b<h.size→Z b→¬M b):Pt e Z h' v x:=by
 obtain⟨b,ds,t,rfl,r,hz,he⟩:=H
 exact⟨b,ds,t,rfl,f.row r (q b (Array.getElem?_eq_some_iff.1 r).1 hz),hz,e.fr he f q⟩
theorem Pt.ext {α:Type}{e:Rp α}{Z:Nat→Prop}{h h':Heap}{v:Value}{x:α}(H:Pt e Z h v x)(k:Ext h h'):Pt e Z h' v x:=H.fr (M:=fun _=>False) k.fr fun _ _ _=>id
theorem Pt.mono {α:Type}{e:Rp α}{Z Z':Nat→Prop}{h:Heap}{v:Value}{x:α}(H:Pt e Z h v x)(q:∀b,b<h.size→Z b→Z' b):Pt e Z' h v x:=by
 obtain⟨b,ds,t,rfl,r,hz,he⟩:=H
 exact⟨b,ds,t,rfl,r,q b (Array.getElem?_eq_some_iff.1 r).1 hz,e.mono he q⟩
def pt {α:Type}(e:Rp α):Rp α where
 w:=1
 R:=fun Z h cs x=>∃v,cs=[v]∧Pt e Z h v x
 len:=by rintro _ _ _ _ ⟨v,rfl,_⟩;rfl
 one:=by
  rintro _ _ _ _ ⟨v,rfl,b,ds,t,rfl,_⟩ u hu
  rw[List.mem_singleton.1 hu];rfl
 fr:=by rintro _ _ _ _ _ _ ⟨v,rfl,H⟩ f q;exact⟨v,rfl,H.fr f q⟩
 mono:=by rintro _ _ _ _ _ ⟨v,rfl,H⟩ q;exact⟨v,rfl,H.mono q⟩
theorem el_len {w:Nat}{ds:List Value}{n i:Nat}(hl:ds.length=n*w)(hi:i<n):(el w ds i).length=w:=by
 have:i*w+w≤n*w:=by rw[←Nat.succ_mul];exact Nat.mul_le_mul_right w hi
 show((ds.drop (i*w)).take w).length=w
 rw[List.length_take,List.length_drop];omega
theorem el_one {ds:List Value}{i:Nat}(hi:i<ds.length):el 1 ds i=[ds[i]]:=by
 show(ds.drop (i*1)).take 1=[ds[i]]
 rw[Nat.mul_one,List.drop_eq_getElem_cons hi];rfl
theorem el_app_old {w:Nat}{ds cs:List Value}{n i:Nat}(hl:ds.length=n*w)(hi:i<n):el w (ds++cs) i=el w ds i:=by
 have:i*w+w≤n*w:=by rw[←Nat.succ_mul];exact Nat.mul_le_mul_right w hi
 show((ds++cs).drop (i*w)).take w=(ds.drop (i*w)).take w
 rw[List.drop_append_of_le_length (by omega),List.take_append_of_le_length (by rw[List.length_drop];omega)]
theorem el_app_new {w:Nat}{ds cs:List Value}{n i:Nat}(hl:ds.length=n*w)(hi:n≤i):el w (ds++cs) i=el w cs (i-n):=by
 have:n*w≤i*w:=Nat.mul_le_mul_right w hi
 show((ds++cs).drop (i*w)).take w=(cs.drop ((i-n)*w)).take w
 rw[List.drop_append, @List.drop_eq_nil_of_le _ ds _ (by omega),List.nil_append,hl,Nat.sub_mul]
theorem el_self {w:Nat}{cs:List Value}(hl:cs.length=w):el w cs 0=cs:=by
 show(cs.drop (0*w)).take w=cs
 rw[Nat.zero_mul,List.drop_zero];exact List.take_of_length_le (by omega)
theorem Sl.atw {α:Type}{e:Rp α}{Z:Nat→Prop}{h:Heap}{v:Value}{l:List α}(H:Sl e Z h v l)(hw:0<e.w){k:IntKind}{i:Nat}(hi:i<l.length):
  ∃p cs,idxV e.w v (.int k (i:Int))=some p∧ldsV e.w h p=some (.agg (List.toArray cs))∧e.R Z h cs l[i]:=by
 obtain⟨ds,hs,hz,he⟩:=H
 obtain⟨p,hp,hq⟩:=hs.atw hw (k:=k) hi
 exact⟨p,_,hp,hq,he i hi⟩
theorem Sl.atp {α:Type}{e:Rp α}{Z:Nat→Prop}{h:Heap}{v:Value}{l:List α}(H:Sl e Z h v l)(hw:0<e.w){k:IntKind}{i:Nat}(hi:i<l.length):
  ∃b o cs,idxV e.w v (.int k (i:Int))=some (.pointer (some ⟨b,o,none⟩))∧cs.length=e.w∧(∀j (hj:j<cs.length),zah h ⟨b,o+j,none⟩=some cs[j])∧e.R Z h cs l[i]∧Z b:=by
 obtain⟨ds,⟨hl,a,cap,rfl,hs⟩,hz,he⟩:=H
 have hiw:i*e.w+e.w≤ds.length:=by rw[hl,←Nat.succ_mul];exact Nat.mul_le_mul_right e.w hi
 have hne:ds≠[]:=fun h0=>by rw[h0]at hiw;simp at hiw;omega
 rcases hs with h0|⟨b,o,rfl,hs⟩
 ·exact absurd h0 hne
 ·refine⟨b,o+i*e.w,el e.w ds i,zgW hi,el_len hl hi,fun j hj=>?_,he i hi,hz hne b rfl⟩
  have hj':j<e.w:=by rw[el_len hl hi]at hj;exact hj
  have:=hs (i*e.w+j) (by omega)
  rw[←Nat.add_assoc]at this
  rw[this]
  simp
theorem Sl.at1 {α:Type}{e:Rp α}(hw:e.w=1){Z:Nat→Prop}{h:Heap}{v:Value}{l:List α}(H:Sl e Z h v l){k:IntKind}{i:Nat}(hi:i<l.length):
  ∃p c,idxV 1 v (.int k (i:Int))=some p∧ldV h p=some c∧e.R Z h [c] l[i]:=by
 obtain⟨ds,hs,hz,he⟩:=H
 have hl:=hs.1
 rw[hw]at hs
 obtain⟨p,hp,hq⟩:=hs.at1 (k:=k) hi
 refine⟨p,_,hp,hq,?_⟩
 have:=he i hi
 rw[hw,el_one (by rw[hl,hw];omega)]at this
 exact this
def Ow {α:Type}(e:Rp α)(Z:Nat→Prop)(h:Heap)(v:Value)(l:List α):Prop:=
 ∃ds,Own e.w h v l.length ds∧(∀b,blk v b→¬Z b)∧∀i (hi:i<l.length),e.R Z h (el e.w ds i) l[i]
theorem Ow.nil {α:Type}{e:Rp α}{Z:Nat→Prop}{h:Heap}:Ow e Z h (.slice none 0 0) []:=⟨[],.inl ⟨rfl,rfl,rfl⟩,fun b hb=>hb.elim,fun i hi=>absurd hi (by simp)⟩
theorem Ow.fr {α:Type}{e:Rp α}{Z M:Nat→Prop}{h h':Heap}{v:Value}{l:List α}(H:Ow e Z h v l)(f:Fr M h h')(q:∀b,b<h.size→Z b→¬M b)(q':∀b,blk v b→¬M b):Ow e Z h' v l:=by
 obtain⟨ds,hs,hz,he⟩:=H
 exact⟨ds,hs.fr f q',hz,fun i hi=>e.fr (he i hi) f q⟩
theorem Ow.ext {α:Type}{e:Rp α}{Z:Nat→Prop}{h h':Heap}{v:Value}{l:List α}(H:Ow e Z h v l)(k:Ext h h'):Ow e Z h' v l:=H.fr (M:=fun _=>False) k.fr (fun _ _ _=>id) fun _ _=>id
theorem Ow.mono {α:Type}{e:Rp α}{Z Z':Nat→Prop}{h:Heap}{v:Value}{l:List α}(H:Ow e Z h v l)(q:∀b,b<h.size→Z b→Z' b)(q':∀b,blk v b→¬Z' b):Ow e Z' h v l:=by
 obtain⟨ds,hs,hz,he⟩:=H
 exact⟨ds,hs,q',fun i hi=>e.mono (he i hi) q⟩
theorem Ow.lt {α:Type}{e:Rp α}{Z:Nat→Prop}{h:Heap}{v:Value}{l:List α}(H:Ow e Z h v l){b:Nat}(hb:blk v b):b<h.size:=by
 obtain⟨ds,hs,_⟩:=H
 exact hs.lt hb
theorem Ow.isSl {α:Type}{e:Rp α}{Z:Nat→Prop}{h:Heap}{v:Value}{l:List α}(H:Ow e Z h v l):∃a cap,v=.slice a l.length cap:=by
 obtain⟨ds,hs,_⟩:=H
 exact hs.isSl
theorem Ow.one {α:Type}{e:Rp α}{Z:Nat→Prop}{h:Heap}{v:Value}{l:List α}(H:Ow e Z h v l):zam v=true:=by
 obtain⟨a,cap,rfl⟩:=H.isSl;rfl
theorem Ow.sl {α:Type}{e:Rp α}{Z:Nat→Prop}{h:Heap}{v:Value}{l:List α}(H:Ow e Z h v l):Sl e (fun b=>Z b∨blk v b) h v l:=by
 obtain⟨ds,hs,hz,he⟩:=H
 exact⟨ds,hs.sl,fun _ b hb=>.inr hb,fun i hi=>e.mono (he i hi) fun _ _ hb=>.inl hb⟩
theorem app_ow {α:Type}{e:Rp α}{Z:Nat→Prop}{z:Value}{t:TypeId}{bytes:Nat}{s x:Value}{h:Heap}{l l2:List α}{K:Value→Heap→Prop}
  {cs:List Value} (hs:Ow e Z h s l) (hc:SlC e.w h x l2.length cs) (hce:∀i (hi:i<l2.length),e.R Z h (el e.w cs i) l2[i]) (hz:z.cells.size=e.w) (hb:(l.length+l2.length)*bytes≤140737488355328) (hn:l.length+l2.length≤9223372036854775807) (hZ:∀b,Z b→b<h.size)
  (H:∀s' h',Ow e Z h' s' (l++l2)→Fr (blk s) h h'→(∀b,blk s' b→blk s b∨h.size≤b)→K s' h'):appK z t e.w bytes s x h K:=by
 obtain⟨ds,ho,hd,he⟩:=hs
 refine zj1 ho hc ?_ hz hb hn fun s' h' o' f' n'=>H s' h' ⟨ds++cs,?_,?_,?_⟩ f' n'
 ·intro v hv
  obtain⟨j,hj,rfl⟩:=List.mem_iff_getElem.1 hv
  have hl:=hc.1
  have hw:0<e.w:=by
   rcases Nat.eq_zero_or_pos e.w with h0|h0
   ·rw[h0,Nat.mul_zero]at hl;omega
   ·exact h0
  have hi:j/e.w<l2.length:=by rw[Nat.div_lt_iff_lt_mul hw];omega
  have:=e.one (hce _ hi) (cs[j]) ?_
  ·exact this
  ·rw[List.mem_iff_getElem]
   have h1:j/e.w*e.w+j%e.w=j:=by rw[Nat.mul_comm];exact Nat.div_add_mod j e.w
   have h2:j%e.w<e.w:=Nat.mod_lt _ hw
   refine⟨j%e.w,by rw[el_len hl hi];exact h2,?_⟩
   simp only[List.getElem_take,List.getElem_drop,h1]
 ·rw[List.length_append];exact o'
 ·intro b hb hZb
  rcases n' b hb with h1|h1
  ·exact hd b h1 hZb
  ·have:=hZ b hZb;omega
 ·intro i hi
  rw[List.length_append]at hi
  by_cases h1:i<l.length
  ·rw[el_app_old ho.sl.1 h1,List.getElem_append_left h1]
   exact e.fr (he i h1) f' fun b _ hZb hb=>hd b hb hZb
  ·rw[el_app_new ho.sl.1 (by omega),List.getElem_append_right (by omega)]
   exact e.fr (hce _ (by omega)) f' fun b _ hZb hb=>hd b hb hZb
theorem SlC.single {h:Heap}{b:Nat}{t:TypeId}{cs:List Value}(r:h[b]? =some (.cells cs.toArray t (0,0))):SlC cs.length h (.slice (some ⟨b,0,none⟩) 1 1) 1 cs:=
 ⟨by simp,_,1,rfl,.inr ⟨b,0,rfl,fun j hj=>by rw[Nat.zero_add,zab r];simp[hj]⟩⟩
theorem foldl_set:∀(cs:List Value) (c:Array Value) (o:Nat),(cs.zipIdx o).foldl (fun cs (p:Value×Nat)=>cs.setIfInBounds p.2 p.1) c=wrL c o cs
 | [],c,o=>rfl
 |v::cs,c,o=>by
  simp only[List.zipIdx_cons,List.foldl_cons,wrL]
  exact foldl_set cs _ (o+1)
theorem fill_whole {c:Array Value}{w:Nat}{cs:List Value}(hc:c.size=w)(hl:cs.length=w):fillL c [(0,w,.agg cs.toArray)]=some cs.toArray:=by
 simp only[fillL,zaB]
 rw[if_neg (by simp[hl,hc])]
 congr 1
 rw[Array.zipIdx_toArray,List.foldl_toArray']
 ·simp only[Nat.zero_add]
  rw[foldl_set,wrL_all cs c (by omega)]
 ·simp
theorem fill_one {z v:Value}(hv:zam v=true):fillL #[z] [(0,1,v)]=some #[v]:=by
 simp only[fillL,zaK hv]
 rw[if_neg (by simp)]
 simp
theorem push_ow {α:Type}{e:Rp α}{Z:Nat→Prop}{z:Value}{c:Array Value}{t t':TypeId}{bytes:Nat}{s:Value}{h:Heap}{l:List α}{cs:List Value}{x:α}{K:Value→Heap→Prop}
  (hs:Ow e Z h s l) (hx:e.R Z h cs x) (hc:c.size=e.w) (hz:z.cells.size=e.w) (hb:(l.length+1)*bytes≤140737488355328) (hn:l.length+1≤9223372036854775807) (hZ:∀b,Z b→b<h.size)
  (H:∀s' h',Ow e Z h' s' (l++[x])→Fr (blk s) h h'→(∀b,blk s' b→blk s b∨h.size≤b)→K s' h'):rowK c t 1 [(0,e.w,.agg cs.toArray)] h fun v2 h3=>appK z t' e.w bytes s v2 h3 K:=by
 refine zbn (fill_whole hc (e.len hx)) fun b h1 r1 e1 n1=>?_
 have S1:=SlC.single r1
 rw[e.len hx]at S1
 refine app_ow (l2:=[x]) (hs.ext e1) S1 (fun i hi=>?_) hz (by simpa using hb) (by simpa using hn) (fun k hk=>Nat.lt_of_lt_of_le (hZ k hk) e1.1) fun s' h' o' f' n'=>
  H s' h' o' (e1.fr.trans f') fun k hk=>(n' k hk).imp id fun h2=>Nat.le_trans e1.1 h2
 have hi:i=0:=by simpa using hi
 subst hi
 rw[el_self (e.len hx)]
 exact e.ext hx e1
theorem push_ow1 {α:Type}{e:Rp α}{Z:Nat→Prop}{z z' c:Value}{t t':TypeId}{bytes:Nat}{s:Value}{h:Heap}{l:List α}{x:α}{K:Value→Heap→Prop}(hw:e.w=1)
  (hs:Ow e Z h s l) (hx:e.R Z h [c] x) (hz:z.cells.size=1) (hb:(l.length+1)*bytes≤140737488355328) (hn:l.length+1≤9223372036854775807) (hZ:∀b,Z b→b<h.size)
  (H:∀s' h',Ow e Z h' s' (l++[x])→Fr (blk s) h h'→(∀b,blk s' b→blk s b∨h.size≤b)→K s' h'):rowK #[z'] t 1 [(0,1,c)] h fun v2 h3=>appK z t' 1 bytes s v2 h3 K:=by
 refine zbn (fill_one (e.one hx c (by simp))) fun b h1 r1 e1 n1=>?_
 have S1:=SlC.single (cs:=[c]) r1
 rw[show[c].length=e.w by rw[hw];rfl]at S1
 have ee:appK z t' 1 bytes s (.slice (some ⟨b,0,none⟩) 1 1) h1 K=appK z t' e.w bytes s (.slice (some ⟨b,0,none⟩) 1 1) h1 K:=by rw[hw]
 rw[ee]
 refine app_ow (l2:=[x]) (hs.ext e1) S1 (fun i hi=>?_) (hz.trans hw.symm) (by simpa using hb) (by simpa using hn) (fun k hk=>Nat.lt_of_lt_of_le (hZ k hk) e1.1) fun s' h' o' f' n'=>
  H s' h' o' (e1.fr.trans f') fun k hk=>(n' k hk).imp id fun h2=>Nat.le_trans e1.1 h2
 have hi:i=0:=by simpa using hi
 subst hi
 rw[el_self (e.len hx)]
 exact e.ext hx e1
end Rp
theorem zaq:∀v∈([]:List Value),zam v=true:=fun v h=>absurd h (by simp)
theorem zad {a:Value}{l:List Value}(h:zam a=true)(H:∀v∈l,zam v=true):∀v∈a::l,zam v=true:=fun v hv=>by
 rcases List.mem_cons.1 hv with rfl|hv
 ·exact h
 ·exact H v hv
theorem zaz {h:Heap}{b:Nat}{o:Obj}(r:h[b]? =some o):b<h.size:=(Array.getElem?_eq_some_iff.1 r).1
theorem zaj {h:Heap}{body:(Heap→Prop)→Prop}(S:Heap→Prop)(hS:S h)(H:body S):drawK h body:=⟨S,hS,H⟩
theorem zbh {c:Array Value}{t:TypeId}{n:Nat}{cs:List Value}{h:Heap}{K:Value→Heap→Prop}(hs:cs.length=c.size)(h1:∀v∈cs,zam v=true)(hn:cs.length=n)
  (H:∀b h',h'[b]? =some (.cells cs.toArray t (0,0))→Ext h h'→h.size≤b→K (.pointer (some ⟨b,0,none⟩)) h'):newK c t h fun v h2=>stK n v (.agg cs.toArray) h2 fun _ h3=>K v h3:=
 zag fun b h2 r2 e2 n2=>zbA r2 hs h1 hn fun h3 r3 u3=>H b h3 r3 (e2.upd n2 u3) n2
def I64 (n:Int):Prop:= -9223372036854775808≤n∧n≤9223372036854775807
def holdZ (m:Nat)(below:Bool):Int:=
 if below then(if 9223372036854775808≤m then-9223372036854775808 else-(m:Int))else(if 9223372036854775807<m then 9223372036854775807 else(m:Int))
def diffS (a b:Int):Bool:= !(decide (a<0)==decide (b<0))
def nearN (m d:Nat)(below:Bool):Nat:=m/d+(if below then(if d<2*(m%d)then 1 else 0)else(if d≤2*(m%d)then 1 else 0))
def zpJ (m d:Nat)(below:Bool):Nat:=m/d+(if below∧m%d≠0 then 1 else 0)
def zq8 (a b:Int):Int:=if b=0 then 0 else holdZ (zpJ a.natAbs b.natAbs (diffS a b)) (diffS a b)
def zaQ (a b d:Int):Int:=if d=0 then 0 else holdZ (nearN (a.natAbs*b.natAbs) d.natAbs (diffS a b != decide (d<0))) (diffS a b != decide (d<0))
def addZ (a b:Int):Int:=max (-9223372036854775808) (min (a+b) 9223372036854775807)
def mulZ (a b:Int):Int:=holdZ (a.natAbs*b.natAbs) (diffS a b)
theorem holdZ_i64 (m:Nat)(b:Bool):I64 (holdZ m b):=by
 unfold holdZ I64
 cases b
 ·simp only[Bool.false_eq_true,if_false];split<;>omega
 ·simp only[if_true];split<;>omega
theorem zj2 (a b:Int):I64 (addZ a b):=by unfold addZ I64;omega
theorem zdh (n:Int):IntKind.i64.wrap n=(n+9223372036854775808)%18446744073709551616-9223372036854775808:=by
 show(if(true&&decide (n%(2^64:Int)≥(2^63:Int)))=true then n%(2^64:Int)-(2^64:Int)else n%(2^64:Int))=_
 split
 ·rename_i hh
  simp only[Bool.true_and,decide_eq_true_eq]at hh
  omega
 ·rename_i hh
  simp only[Bool.true_and,decide_eq_true_eq]at hh
  omega
theorem zbC (n:Int):IntKind.u64.wrap n=n%18446744073709551616:=by simp[IntKind.wrap,IntKind.bits,IntKind.signed]
theorem zb7 {m:Nat}(h:m<18446744073709551616):IntKind.u64.wrap (m:Int)=(m:Int):=by rw[zbC];omega
theorem size_neg {x:Int}(h:I64 x)(hx:x<0):IntKind.u64.wrap (0-IntKind.u64.wrap x)=(x.natAbs:Int):=by
 unfold I64 at h
 rw[zbC,zbC];omega
theorem size_pos {x:Int}(h:I64 x)(hx:¬x<0):IntKind.u64.wrap x=(x.natAbs:Int):=by
 unfold I64 at h
 rw[zbC];omega
theorem halve (n i:Nat):n/2^i=2*(n/2^(i+1))+n/2^i%2:=by
 rw[Nat.pow_succ,←Nat.div_div_eq_div_mul];omega
theorem over_step {n d q r bit:Nat}(hd:0<d)(hn:n/d=q)(hr:n%d=r)(hb:bit≤1):
  (2*n+bit)/d=2*q+(if d≤2*r+bit then 1 else 0)∧(2*n+bit)%d=(if d≤2*r+bit then 2*r+bit-d else 2*r+bit):=by
 have h:=Nat.div_add_mod n d
 rw[hn,hr]at h
 have hrd:r<d:=hr▸Nat.mod_lt _ hd
 have e:2*n+bit=d*(2*q)+(2*r+bit):=by
  rw[←h,Nat.mul_left_comm,Nat.mul_add];omega
 by_cases hc:d≤2*r+bit
 ·rw[if_pos hc,if_pos hc]
  have e2:2*n+bit=(2*r+bit-d)+d*(2*q+1):=by rw[e,Nat.mul_add d (2*q) 1];omega
  rw[e2]
  constructor
  ·rw[Nat.add_mul_div_left _ _ hd,Nat.div_eq_of_lt (by omega)];omega
  ·rw[Nat.add_mul_mod_self_left,Nat.mod_eq_of_lt (by omega)]
 ·rw[if_neg hc,if_neg hc]
  have e2:2*n+bit=(2*r+bit)+d*(2*q):=by rw[e];omega
  rw[e2]
  constructor
  ·rw[Nat.add_mul_div_left _ _ hd,Nat.div_eq_of_lt (by omega)];omega
  ·rw[Nat.add_mul_mod_self_left,Nat.mod_eq_of_lt (by omega)]
def bigV (n:Nat):Value:=.agg #[.int .u64 ((n/18446744073709551616:Nat):Int),.int .u64 ((n%18446744073709551616:Nat):Int)]
end Go.Crisp
namespace Go.Proofs.YtcoimlclclnlkaaGreatDoor
open Go Go.Crisp
abbrev rI:Rp Int:=Rp.int .i64
structure OpD where
 kind:Int
 border:Int
 sigma:Int
 radius:Int
 x:List Int
 y:List Int
 filter:Int
 w:Int
 hh:Int
structure OpD.Wf (o:OpD):Prop where
 kind:I64 o.kind
 border:I64 o.border
 sigma:I64 o.sigma
 radius:I64 o.radius
 filter:I64 o.filter
 w:I64 o.w
 hh:I64 o.hh
 x:∀n∈o.x,I64 n
 y:∀n∈o.y,I64 n
def rOp:Rp OpD where
 w:=9
 R:=fun Z h cs o=>∃s t,cs=[.int .i64 o.kind,.int .i64 o.border,.int .i64 o.sigma,.int .i64 o.radius,s,t,.int .i64 o.filter,.int .i64 o.w,.int .i64 o.hh]∧Rp.Sl rI Z h s o.x∧Rp.Sl rI Z h t o.y
 len:=by rintro _ _ _ _ ⟨s,t,rfl,_⟩;rfl
 one:=by
  rintro _ _ _ _ ⟨s,t,rfl,H,K⟩ v hv
  have:=H.one
  have:=K.one
  simp only[List.mem_cons,List.not_mem_nil,or_false]at hv
  rcases hv with rfl|rfl|rfl|rfl|rfl|rfl|rfl|rfl|rfl<;>first|rfl|assumption
 fr:=by rintro _ _ _ _ _ _ ⟨s,t,rfl,H,K⟩ f q;exact⟨s,t,rfl,H.fr f q,K.fr f q⟩
 mono:=by rintro _ _ _ _ _ ⟨s,t,rfl,H,K⟩ q;exact⟨s,t,rfl,H.mono q,K.mono q⟩
end Go.Proofs.YtcoimlclclnlkaaGreatDoor
namespace Go.Crisp
open Go Go.ChangeShapes Go.WideShapes Go.ChangeAt Go.RowKit
inductive TS where
 |int (k:IntKind)
 |bool
 |str
 |sl (e:TS) (z:Nat)
 |st (b:TS)
 |unit
 |pair (a b:TS)
def TS.T:TS→Type
 | .int _=>Int
 | .bool=>Bool
 | .str=>ByteArray
 | .sl e _=>List e.T
 | .st b=>b.T
 | .unit=>Unit
 | .pair a b=>a.T×b.T
def TS.w:TS→Nat
 | .int _=>1
 | .bool=>1
 | .str=>1
 | .sl _ _=>1
 | .st b=>b.w
 | .unit=>0
 | .pair a b=>a.w+b.w
def Rd:(t:TS)→Heap→List Value→t.T→Prop
 | .int k,_,cs,n=>cs=[.int k n]∧(Lit.int k n).wf=true
 | .bool,_,cs,b=>cs=[.bool b]
 | .str,_,cs,s=>cs=[.string s]∧s.size≤140737488351232
 | .sl e z,h,cs,l=>∃a cap,cs=[.slice a (List.length l) cap]∧List.length l≤cap∧cap≤maxLen∧cap*z≤140737488351232∧
   (List.length l=0∨∃b o,(e.w=0∨a=some ⟨b,o,none⟩)∧∀i (hi:i<List.length l),∃ds:List Value,ds.length=e.w∧
    (∀j (hj:j<ds.length),zah h ⟨b,o+i*e.w+j,none⟩=some ds[j])∧Rd e h ds (List.get (α:=e.T) l ⟨i,hi⟩))
 | .st b,h,cs,x=>Rd b h cs x
 | .unit,_,cs,_=>cs=[]
 | .pair a b,h,cs,x=>∃c1 c2,cs=c1++c2∧Rd a h c1 x.1∧Rd b h c2 x.2
mutual
/--The type has this shape. -/
def TS.okB (P:Program):TS→TypeId→Bool
 | .int k,t=>match P.underlying t with|some (.int k')=>decide (k'=k)|_=>false
 | .bool,t=>match P.underlying t with|some .bool=>true|_=>false
 | .str,t=>match P.underlying t with|some .string=>true|_=>false
 | .sl e z,t=>match P.underlying t with|some (.slice e')=>P.cellsOf e'==e.w&&P.bytesOf e'==z&&e.okB P e'|_=>false
 | .st b,t=>match P.underlying t with|some (.struct fs)=>P.cellsOf t==b.w&&b.okF P fs.toList 0|_=>false
 |_,_=>false
/--The fields have these shapes,from this place on. -/
def TS.okF (P:Program):TS→List Field→Nat→Bool
 | .unit,fs,_=>match fs with| []=>true|_=>false
 | .pair a b,fs,n=>match fs with| []=>false|f::fs=>f.offset==n&&P.cellsOf f.type==a.w&&a.okB P f.type&&b.okF P fs (n+a.w)
 |_,_,_=>false
end
def light (l:List Nat):Prop:=∀n∈l,n≤140737488351232
theorem zoL (b o n:Nat):(⟨b,o,none⟩:Addr).add n=⟨b,o+n,none⟩:=by
 unfold Addr.add
 split<;>simp_all
theorem zns {w:World}{a:Addr}{n:Nat}{l:List Value}(h:w.cells? 0 a n=some l):l.length=n∧∀j (hj:j<l.length),zah w.heap (a.add j)=some l[j]:=by
 unfold World.cells? at h
 rw[if_pos (Nat.zero_le _)]at h
 have hl:l.length=n:=by simpa using mapM_some_length h
 refine⟨hl,fun j hj=>?_⟩
 have:=mapM_some_get h j j (by simp[←hl,hj])
 rw[List.getElem?_eq_getElem hj]at this
 exact this
theorem zju {a b:List Nat}(h:light (a++b)):light a∧light b:=⟨fun n hn=>h n (List.mem_append.2 (.inl hn)),fun n hn=>h n (List.mem_append.2 (.inr hn))⟩
theorem zq0 {a:Nat}{b:List Nat}(h:light (a::b)):a≤140737488351232∧light b:=⟨h a (List.mem_cons_self ..),fun n hn=>h n (List.mem_cons_of_mem _ hn)⟩
theorem light_all {H:Type}{P:Program}{e:TypeId}:∀{l:List (DataW H)},light (DataW.weightsAll P e l)→∀d∈l,light (d.weights P e)
 | [],_,d,hd=>by cases hd
 |x::r,h,d,hd=>by
  rw[DataW.weightsAll]at h
  rcases List.mem_cons.1 hd with rfl|hd
  ·exact(zju h).1
  ·exact light_all (zju h).2 d hd
theorem rd_both {H:Type}{enc:TypeId×Value→H}{P:Program}{w:World}{held:Bool}(t:TS):
  (∀(id:TypeId) (fuel:Nat) (cs:List Value) (x:DataW H×List MemPlace),t.okB P id=true→DataW.trod enc P w 0 (fun _=>true) held fuel id cs=some x→light (x.1.weights P id)→∃d:t.T,Rd t w.heap cs d)∧
  (∀(fs:List Field) (off fuel:Nat) (cs:List Value) (xs:List (DataW H×List MemPlace)),t.okF P fs off=true→off+t.w=cs.length→
   fs.mapM (fun f=>DataW.trod enc P w 0 (fun _=>true) held fuel f.type ((cs.drop f.offset).take (P.cellsOf f.type)))=some xs→light (DataW.weightsEach P (fs.map (·.type)) (xs.map (·.1)))→∃d:t.T,Rd t w.heap (cs.drop off) d):=by
 induction t with
 |int k=>
  refine⟨fun id fuel cs x ok h hw=>?_,fun _ _ _ _ _ ok=>by simp[TS.okF]at ok⟩
  rw[TS.okB]at ok
  split at ok<;>simp at ok
  rename_i k' hk
  subst ok
  obtain⟨n,rfl,_,hn⟩:=DataW.trod_int hk h
  exact⟨n,rfl,hn⟩
 |bool=>
  refine⟨fun id fuel cs x ok h hw=>?_,fun _ _ _ _ _ ok=>by simp[TS.okF]at ok⟩
  rw[TS.okB]at ok
  split at ok<;>simp at ok
  rename_i hk
  obtain⟨n,rfl,_⟩:=DataW.trod_bool hk h
  exact⟨n,by simp[Rd]⟩
 |str=>
  refine⟨fun id fuel cs x ok h hw=>?_,fun _ _ _ _ _ ok=>by simp[TS.okF]at ok⟩
  rw[TS.okB]at ok
  split at ok<;>simp at ok
  rename_i hk
  obtain⟨s,rfl,rfl,_⟩:=DataW.trod_string hk h
  simp only[DataW.weights]at hw
  have:=(zq0 hw).1
  exact⟨s,rfl,by rw[Array.length_toList]at this;exact this⟩
 | sl e z ih=>
  refine⟨fun id fuel cs x ok h hw=>?_,fun _ _ _ _ _ ok=>by simp[TS.okF]at ok⟩
  rw[TS.okB]at ok
  split at ok<;>simp at ok
  rename_i e' hk
  obtain⟨⟨hc,hz⟩,ok⟩:=ok
  rcases DataW.trod_slice hk h with⟨rfl,rfl⟩|⟨a,len,cap,elems,rest,n,rfl,rfl,rfl,_,hlc,hcm,hel,hi,hsp,_⟩
  ·exact⟨([]:List e.T),none,0,rfl,Nat.le_refl _,Nat.zero_le _,by simp,.inl rfl⟩
  ·obtain⟨hrl,_⟩:=hsp rfl
   rw[DataW.weights,hk]at hw
   simp only[List.length_map]at hw
   obtain⟨hw0,hw⟩:=zq0 hw
   have hw:=light_all (zju hw).1
   have hcap:elems.length+rest.length=cap:=by omega
   rw[hcap,hz]at hw0
   have each:∀i,i<len→∃(ds:List Value) (x:e.T),ds.length=e.w∧(∀j (hj:j<ds.length),zah w.heap ((a.add (i*e.w)).add j)=some ds[j])∧Rd e w.heap ds x:=by
    intro i hil
    have h1:=hi i hil
    have hie:i<elems.length:=by omega
    rw[List.getElem?_eq_getElem hie]at h1
    rw[Option.bind_eq_some_iff]at h1
    obtain⟨ds,hds,h1⟩:=h1
    rw[hc]at hds
    obtain⟨hl,hj⟩:=zns hds
    obtain⟨x,hx⟩:=ih.1 e' n ds _ ok h1 (hw _ (List.mem_map.2 ⟨_,List.getElem_mem hie,rfl⟩))
    exact⟨ds,x,hl,hj,hx⟩
   let f (i:Nat):Option e.T:=if hil:i<len then some (each i hil).choose_spec.choose else none
   have hf:∀i,i<len→∃y,f i=some y:=fun i hil=>⟨_,dif_pos hil⟩
   obtain⟨l,hl⟩:∃l,(List.range len).mapM f=some l:=by
    have:∀(r:List Nat),(∀i∈r,i<len)→∃l,r.mapM f=some l:=by
     intro r
     induction r with
     |nil=>exact fun _=>⟨[],rfl⟩
     |cons i r ihr=>
      intro hr
      obtain⟨y,hy⟩:=hf i (hr i (List.mem_cons_self ..))
      obtain⟨l,hl⟩:=ihr fun k hk=>hr k (List.mem_cons_of_mem _ hk)
      exact⟨y::l,by simp[List.mapM_cons,hy,hl]⟩
    exact this _ fun i hi=>List.mem_range.1 hi
   have hll:l.length=len:=by simpa using mapM_some_length hl
   refine⟨l,some a,cap,by rw[hll],by rw[hll];exact hlc,hcm,hw0,?_⟩
   by_cases hlen:List.length l=0
   ·exact .inl hlen
   ·have hs:e.w=0∨a=⟨a.block,a.off,none⟩:=by
     by_cases h0:e.w=0
     ·exact .inl h0
     ·refine .inr ?_
      obtain⟨ds,x,hl0,hj,_⟩:=each 0 (by omega)
      have hj:=hj 0 (by omega)
      obtain⟨b,o,sp⟩:=a
      cases sp with
      |none=>rfl
      |some s=>simp[zah,Addr.add]at hj;split at hj<;>simp at hj
    refine .inr ⟨a.block,a.off,hs.imp (fun h=>h) (congrArg some),fun i hil=>?_⟩
    ·have hil':i<len:=by rw[←hll];exact hil
     obtain⟨h1,h2,h3⟩:=(each i hil').choose_spec.choose_spec
     have hx:l.get ⟨i,hil⟩=(each i hil').choose_spec.choose:=by
      have:=mapM_some_get hl i i (by simp[hil'])
      rw[show f i=some (each i hil').choose_spec.choose from dif_pos hil',List.getElem?_eq_getElem hil]at this
      exact(Option.some.inj this).symm
     refine⟨(each i hil').choose,h1,fun j hj=>?_,?_⟩
     ·have h2:=h2 j hj
      rcases hs with h0|ha
      ·omega
      ·have ha2:(a.add (i*e.w)).add j=⟨a.block,a.off+i*e.w+j,none⟩:=by rw[ha,zoL,zoL]
       exact ha2▸h2
     ·rw[show List.get (α:=e.T) l ⟨i,hil⟩=_ from hx]
      exact h3
 | st b ih=>
  refine⟨fun id fuel cs x ok h hw=>?_,fun _ _ _ _ _ ok=>by simp[TS.okF]at ok⟩
  rw[TS.okB]at ok
  split at ok<;>simp at ok
  rename_i fs hk
  obtain⟨hc,ok⟩:=ok
  cases fuel with
  |zero=>simp[DataW.trod]at h
  | succ n=>
   unfold DataW.trod at h
   rw[hk]at h
   simp only at h
   split at h
   ·rename_i hcl
    rw[Option.map_eq_some_iff]at h
    obtain⟨xs,hxs,rfl⟩:=h
    rw[DataW.weights,hk]at hw
    obtain⟨d,hd⟩:=ih.2 fs.toList 0 n cs xs ok (by rw[hcl,hc];omega) hxs hw
    exact⟨d,by simpa[Rd]using hd⟩
   ·simp at h
 |unit=>
  refine⟨fun id fuel cs x ok h hw=>by simp[TS.okB]at ok,fun fs off fuel cs xs ok hl h hw=>⟨(),?_⟩⟩
  simp only[Rd]
  simp[TS.w]at hl
  exact List.drop_eq_nil_of_le (by omega)
 | pair a b iha ihb=>
  refine⟨fun id fuel cs x ok h hw=>by simp[TS.okB]at ok,fun fs off fuel cs xs ok hl h hw=>?_⟩
  cases fs with
  |nil=>simp[TS.okF]at ok
  |cons f fs=>
   simp[TS.okF]at ok
   obtain⟨⟨⟨ho,hc⟩,oka⟩,okb⟩:=ok
   rw[List.mapM_cons]at h
   simp only[Option.bind_eq_bind,Option.bind_eq_some_iff,Option.pure_def,Option.some.injEq]at h
   obtain⟨x,hx,ys,hys,rfl⟩:=h
   simp only[List.map_cons,DataW.weightsEach]at hw
   obtain⟨hwa,hwb⟩:=zju hw
   obtain⟨d1,h1⟩:=iha.1 f.type fuel _ x oka hx hwa
   obtain⟨d2,h2⟩:=ihb.2 fs (off+a.w) fuel cs ys okb (by simp[TS.w]at hl;omega) hys hwb
   refine⟨(d1,d2),(cs.drop off).take a.w,cs.drop (off+a.w),?_,?_,h2⟩
   ·rw[←List.drop_drop];exact(List.take_append_drop ..).symm
   ·rw[←hc,←ho];exact h1
def RdV:(t:TS)→Heap→Value→t.T→Prop
 | .st b,h,v,x=>∃cs:Array Value,v=.agg cs∧Rd b h cs.toList x
 | .int k,h,v,x=>Rd (.int k) h [v] x
 | .bool,h,v,x=>Rd .bool h [v] x
 | .str,h,v,x=>Rd .str h [v] x
 | .sl e z,h,v,x=>Rd (.sl e z) h [v] x
 |_,_,_,_=>False
def zjQ:List TS→Heap→List Value→Prop
 | [],_,vs=>vs=[]
 |t::ts,h,vs=>∃v r,vs=v::r∧(∃x:t.T,RdV t h v x)∧zjQ ts h r
def okAll (P:Program):List TS→List TypeId→Bool
 | [],ids=>match ids with| []=>true|_=>false
 |t::ts,ids=>match ids with| []=>false|id::ids=>t.okB P id&&okAll P ts ids
theorem rdV_of {H:Type}{enc:TypeId×Value→H}{P:Program}{w:World}{held:Bool}{r:Reach}{base:Nat}{t:TS}{id:TypeId}{v:Value}{d:DataW H}{ps:List MemPlace}
  (ok:t.okB P id=true) (hval:Value.okWide P w r base id v) (h:DataW.Trod enc P w 0 (fun _=>true) held id v d ps) (hw:light (d.weights P id)):∃x:t.T,RdV t w.heap v x:=by
 obtain⟨fuel,hf⟩:=h
 obtain⟨x,hx⟩:=(rd_both t).1 id fuel _ _ ok hf hw
 cases t with
 |int k=>
  rw[TS.okB]at ok
  split at ok<;>simp at ok
  rename_i hk
  obtain⟨n,rfl⟩:=okWide_int hk hval
  exact⟨x,hx⟩
 |bool=>
  rw[TS.okB]at ok
  split at ok<;>simp at ok
  rename_i hk
  obtain⟨n,rfl⟩:=okWide_bool hk hval
  exact⟨x,hx⟩
 |str=>
  rw[TS.okB]at ok
  split at ok<;>simp at ok
  rename_i hk
  obtain⟨n,rfl⟩:=okWide_string hk hval
  exact⟨x,hx⟩
 |sl e z=>
  rw[TS.okB]at ok
  split at ok<;>simp at ok
  rename_i hk
  obtain⟨a,l,c,rfl⟩:=okWide_slice hk hval
  exact⟨x,hx⟩
 |st b=>
  rw[TS.okB]at ok
  split at ok<;>simp at ok
  rename_i hk
  obtain⟨cs,rfl,_⟩:=okWide_struct hk hval
  exact⟨x,cs,rfl,hx⟩
 |unit=>simp[TS.okB]at ok
 |pair a b=>simp[TS.okB]at ok
theorem args_rd {H:Type}{enc:TypeId×Value→H}{P:Program}{w:World}{held:Bool}{r:Reach}{base:Nat}:∀{ts:List TS} {ids:List TypeId} {vs:List Value} {ds:List (DataW H)} {ps:List MemPlace},
  okAll P ts ids=true→(∀(j:Nat) t v,ids[j]? =some t→vs[j]? =some v→Value.okWide P w r base t v)→DataW.TrodAll enc P w 0 (fun _=>true) held ids vs ds ps→
  light (DataW.weightsEach P ids ds)→zjQ ts w.heap vs
 | [],ids,vs,ds,ps,ok,_,h,_=>by
  cases ids with
  |nil=>exact(trodAll_nil h).1
  |cons=>simp[okAll]at ok
 | t::ts,ids,vs,ds,ps,ok,hval,h,hw=>by
  cases ids with
  |nil=>simp[okAll]at ok
  |cons id ids=>
   simp[okAll]at ok
   obtain⟨v,vs',d,ds',p,q,rfl,rfl,rfl,h1,h2⟩:=trodAll_cons h
   rw[DataW.weightsEach]at hw
   obtain⟨hw1,hw2⟩:=zju hw
   exact⟨v,vs',rfl,rdV_of ok.1 (hval 0 id v rfl rfl) h1 hw1,args_rd ok.2 (fun j t v ht hv=>hval (j+1) t v ht hv) h2 hw2⟩
theorem carry_all {H:Type}{enc:TypeId×Value→H}{P:Program}{W W':World}(hl:laidOutB P=true)(hb:Below W.heap.size W W'):∀{ids:List TypeId} {vs:List Value} {ds:List (DataW H)} {ps:List MemPlace},
  ids.all (fun t=>P.readableRec t&&decide (t<P.types.size))=true→DataW.TrodAll enc P W 0 (fun _=>true) true ids vs ds ps→DataW.TrodAll enc P W' 0 (fun b=>decide (b<W.heap.size)) true ids vs ds ps
 | [],vs,ds,ps,_,h=>by obtain⟨rfl,rfl,rfl⟩:=trodAll_nil h;exact trodAll_mk0
 |t::ids,vs,ds,ps,hr,h=>by
  simp only[List.all_cons,Bool.and_eq_true,decide_eq_true_eq]at hr
  obtain⟨v,vs',d,ds',p,q,rfl,rfl,rfl,h1,h2⟩:=trodAll_cons h
  refine trodAll_cons_mk (Below.trod hl hr.1.1 hr.1.2 h1 hb ?_) (carry_all hl hb hr.2 h2)
  obtain⟨m,hm⟩:=h1
  exact DataW.trod_lt m _ _ _ hm
end Go.Crisp
namespace Go.Crisp
open Go
theorem sl1_rd {e:TS}{z:Nat}{h:Heap}{cs:List Value}{l:List e.T}(enc:e.T→Value)(Q:e.T→Prop)(hw:e.w=1)(he:∀ds x,Rd e h ds x→ds=[enc x]∧Q x)(H:Rd (.sl e z) h cs l):
  ∃v,cs=[v]∧SlC 1 h v l.length (l.map enc)∧(∀x∈l,Q x)∧l.length*z≤140737488351232:=by
 obtain⟨a,cap,rfl,h1,_,h2,hl⟩:=H
 have hz:l.length*z≤140737488351232:=Nat.le_trans (Nat.mul_le_mul_right z h1) h2
 rcases hl with hl|⟨b,o,ha,hl⟩
 ·have:l=[]:=List.eq_nil_of_length_eq_zero hl
  subst this
  exact⟨_,rfl,⟨rfl,a,cap,rfl,.inl rfl⟩,fun x hx=>absurd hx (by simp),hz⟩
 ·have ha:a=some ⟨b,o,none⟩:=ha.resolve_left (by omega)
  refine⟨_,rfl,⟨by simp,a,cap,rfl,.inr ⟨b,o,ha,fun j hj=>?_⟩⟩,fun x hx=>?_,hz⟩
  ·rw[List.length_map]at hj
   obtain⟨ds,_,hc,hr⟩:=hl j hj
   obtain⟨rfl,_⟩:=he _ _ hr
   have:=hc 0 (by simp)
   rw[hw]at this
   simp only[Nat.mul_one,Nat.add_zero,List.getElem_cons_zero]at this
   rw[List.getElem_map]
   exact this
  ·obtain⟨i,hi,rfl⟩:=List.mem_iff_getElem.1 hx
   obtain⟨ds,_,hc,hr⟩:=hl i hi
   exact(he _ _ hr).2
theorem u8_wf {n:Int}(h:(Lit.int .u8 n).wf=true):0≤n∧n≤255:=by
 have h:(decide (IntKind.u8.min≤n)&&decide (n≤IntKind.u8.max))=true:=h
 rw[Bool.and_eq_true,decide_eq_true_eq,decide_eq_true_eq]at h;exact h
theorem zmD {n:Int}(h:(Lit.int .i64 n).wf=true): -9223372036854775808≤n∧n≤9223372036854775807:=by
 have h:(decide (IntKind.i64.min≤n)&&decide (n≤IntKind.i64.max))=true:=h
 rw[Bool.and_eq_true,decide_eq_true_eq,decide_eq_true_eq]at h;exact h
end Go.Crisp
namespace Go.Proofs.YtcoimlclclnlkaaGreatDoor
open Go Go.Crisp
abbrev tI:TS:=.int .i64
abbrev tIs:TS:=.sl (.int .i64) 8
abbrev tOp:TS:=.pair tI (.pair tI (.pair tI (.pair tI (.pair tIs (.pair tIs (.pair tI (.pair tI (.pair tI .unit))))))))
def opOf (x:tOp.T):OpD:=⟨x.1,x.2.1,x.2.2.1,x.2.2.2.1,x.2.2.2.2.1,x.2.2.2.2.2.1,x.2.2.2.2.2.2.1,x.2.2.2.2.2.2.2.1,x.2.2.2.2.2.2.2.2.1⟩
theorem sl_of_slc {h:Heap}{v:Value}{l:List Int}(H:SlC 1 h v l.length (l.map (Value.int .i64))):Rp.Sl rI (fun _=>True) h v l:=
 ⟨_,H,fun _ _ _=>trivial,fun i hi=>by
  show Rp.el 1 _ i=[.int .i64 l[i]]
  rw[Rp.el_one (by simpa using hi),List.getElem_map]⟩
theorem i64s_rd {h:Heap}{cs:List Value}{l:List Int}(H:Rd tIs h cs l):∃v,cs=[v]∧Rp.Sl rI (fun _=>True) h v l∧∀n∈l,I64 n:=by
 obtain⟨v,rfl,h1,h2,_⟩:=sl1_rd (e:=.int .i64) (Value.int .i64) I64 rfl (fun ds x hr=>⟨hr.1,zmD hr.2⟩) H
 exact⟨v,rfl,sl_of_slc h1,h2⟩
theorem op_rd {h:Heap}{cs:List Value}{x:tOp.T}(H:Rd tOp h cs x):rOp.R (fun _=>True) h cs (opOf x)∧(opOf x).Wf:=by
 obtain⟨_,_,rfl,⟨rfl,a1⟩,_,_,rfl,⟨rfl,a2⟩,_,_,rfl,⟨rfl,a3⟩,_,_,rfl,⟨rfl,a4⟩,_,_,rfl,a5,_,_,rfl,a6,_,_,rfl,⟨rfl,a7⟩,_,_,rfl,⟨rfl,a8⟩,_,_,rfl,⟨rfl,a9⟩,rfl⟩:=H
 obtain⟨s,rfl,s1,s2⟩:=i64s_rd a5
 obtain⟨t,rfl,t1,t2⟩:=i64s_rd a6
 exact⟨⟨s,t,rfl,s1,t1⟩,⟨zmD a1,zmD a2,zmD a3,zmD a4,zmD a7,zmD a8,zmD a9,s2,t2⟩⟩
theorem op_len {h:Heap}{cs:List Value}{x:tOp.T}(H:Rd tOp h cs x):(opOf x).x.length≤17592186044416∧(opOf x).y.length≤17592186044416:=by
 obtain⟨_,_,rfl,_,_,_,rfl,_,_,_,rfl,_,_,_,rfl,_,_,_,rfl,a5,_,_,rfl,a6,_⟩:=H
 obtain⟨_,c1,_,h1,_,h2,_⟩:=a5
 obtain⟨_,c2,_,h3,_,h4,_⟩:=a6
 have e1:(opOf x).x.length=List.length (α:=tI.T) x.2.2.2.2.1:=rfl
 have e2:(opOf x).y.length=List.length (α:=tI.T) x.2.2.2.2.2.1:=rfl
 rw[e1,e2]
 omega
end Go.Proofs.YtcoimlclclnlkaaGreatDoor
namespace Go.Proofs.YtcoimlclclnlkaaGreatDoor
open Go Go.Crisp
open _root_.Go.Proofs.Tryz
section
variable {a0 a1 a2 a3 a4 a5 a6:Value}{h:Heap}{R:Value→Heap→Prop}
abbrev zgt:FuncId:=5
abbrev zik:FuncId:=10
abbrev zcf:FuncId:=11
abbrev zeI:FuncId:=12
abbrev zct:FuncId:=13
abbrev zas:FuncId:=14
abbrev zak:FuncId:=15
abbrev zaO:FuncId:=16
abbrev zj7:FuncId:=17
abbrev zbz:FuncId:=21
abbrev zeY:FuncId:=22
abbrev zeq:FuncId:=23
abbrev zeX:FuncId:=25
abbrev zd0:FuncId:=27
abbrev zcz:FuncId:=28
abbrev za2:FuncId:=30
abbrev zaD:FuncId:=31
abbrev zcY:FuncId:=33
abbrev zij:FuncId:=34
abbrev zd1:FuncId:=38
abbrev zes:FuncId:=39
abbrev zet:FuncId:=41
abbrev zce:FuncId:=42
abbrev zeu:FuncId:=45
abbrev zb5:FuncId:=46
abbrev zdg:FuncId:=47
abbrev zdr:FuncId:=48
abbrev zau:FuncId:=59
abbrev zaw:FuncId:=60
abbrev zim:FuncId:=62
abbrev zjL:FuncId:=63
abbrev zhi:FuncId:=64
abbrev zs0:FuncId:=65
abbrev zlh:FuncId:=66
abbrev zjK:FuncId:=67
abbrev zdZ:FuncId:=68
abbrev zii:FuncId:=69
abbrev za4:FuncId:=73
abbrev zd2:FuncId:=74
abbrev zbq:FuncId:=75
abbrev zbR:FuncId:=76
abbrev zhc:FuncId:=77
abbrev zdT:FuncId:=78
abbrev znE:FuncId:=79
abbrev zb4:FuncId:=80
abbrev zcm:FuncId:=82
abbrev zbI:FuncId:=83
abbrev zaU:FuncId:=84
abbrev zc0:FuncId:=85
abbrev zdf:FuncId:=86
abbrev zgp:FuncId:=88
abbrev ze2:FuncId:=89
abbrev zil:FuncId:=90
abbrev zbJ:FuncId:=91
abbrev zcG:FuncId:=93
abbrev zdx:FuncId:=94
abbrev zgr:FuncId:=95
abbrev zhd:FuncId:=96
abbrev zcn:FuncId:=97
abbrev zdq:FuncId:=98
abbrev zbg:FuncId:=102
abbrev zew:FuncId:=103
abbrev zaX:FuncId:=104
abbrev zgq:FuncId:=105
abbrev zfe:FuncId:=106
abbrev zfc:FuncId:=107
abbrev zfB:FuncId:=115
abbrev zio:FuncId:=118
abbrev zin:FuncId:=119
abbrev zp5:FuncId:=120
abbrev zg1:FuncId:=121
abbrev zjE:FuncId:=122
abbrev zjD:FuncId:=123
abbrev zlo:FuncId:=124
abbrev zbU:FuncId:=125
abbrev zg6:FuncId:=126
abbrev zck:FuncId:=127
abbrev zdu:FuncId:=128
abbrev zdU:FuncId:=129
abbrev zdd:FuncId:=130
abbrev zcL:FuncId:=131
abbrev zby:FuncId:=132
abbrev zsZ:FuncId:=133
abbrev zhP:FuncId:=134
abbrev zln:FuncId:=135
abbrev zcc:FuncId:=136
abbrev zaR:FuncId:=139
abbrev zai:FuncId:=140
abbrev zcd:FuncId:=141
abbrev zff:FuncId:=142
abbrev zdY:FuncId:=143
abbrev zbr:FuncId:=146
abbrev zfF:FuncId:=147
abbrev zdy:FuncId:=148
abbrev zdb:FuncId:=149
abbrev zb6:FuncId:=150
abbrev zbt:FuncId:=151
abbrev zbT:FuncId:=152
abbrev zfd:FuncId:=153
abbrev zer:FuncId:=154
abbrev zhh:FuncId:=155
abbrev zhg:FuncId:=158
abbrev zfE:FuncId:=159
abbrev zfC:FuncId:=163
abbrev ziq:FuncId:=164
abbrev zhj:FuncId:=165
abbrev zdH:FuncId:=166
abbrev zeF:FuncId:=167
abbrev zfa:FuncId:=168
abbrev zjF:FuncId:=169
abbrev ze1:FuncId:=170
abbrev zeG:FuncId:=171
abbrev zel:FuncId:=172
abbrev zc5:FuncId:=173
abbrev ze9:FuncId:=174
abbrev zdA:FuncId:=175
abbrev zdv:FuncId:=176
abbrev zgm:FuncId:=177
abbrev zeo:FuncId:=178
abbrev zgl:FuncId:=179
abbrev zbs:FuncId:=180
abbrev zeJ:FuncId:=181
abbrev zen:FuncId:=182
abbrev zj6:FuncId:=183
abbrev zdm:FuncId:=184
abbrev zjI:FuncId:=185
abbrev zeE:FuncId:=186
abbrev zaJ:FuncId:=187
abbrev zbf:FuncId:=188
abbrev zbG:FuncId:=189
abbrev zcy:FuncId:=190
abbrev zfz:FuncId:=191
abbrev zcZ:FuncId:=192
abbrev zcs:FuncId:=193
abbrev za3:FuncId:=194
abbrev zjJ:FuncId:=196
abbrev zcE:FuncId:=197
abbrev zaT:FuncId:=198
abbrev zbF:FuncId:=199
abbrev zjP:FuncId:=200
abbrev ziv:FuncId:=203
abbrev ziw:FuncId:=204
abbrev zir:FuncId:=208
abbrev zjO:FuncId:=209
abbrev ze0:FuncId:=210
abbrev zif:FuncId:=211
abbrev zcl:FuncId:=212
abbrev zih:FuncId:=213
abbrev zie:FuncId:=214
abbrev zaP:FuncId:=215
abbrev zdX:FuncId:=216
abbrev zfD:FuncId:=217
abbrev zgu:FuncId:=218
abbrev zep:FuncId:=219
abbrev ze8:FuncId:=220
abbrev zem:FuncId:=221
abbrev zc8:FuncId:=222
abbrev zeZ:FuncId:=223
abbrev zmQ:FuncId:=224
abbrev zcD:FuncId:=225
abbrev zc6:FuncId:=226
abbrev zdW:FuncId:=227
abbrev zlg:FuncId:=228
abbrev zgk:FuncId:=229
abbrev zbk:FuncId:=231
abbrev zhQ:FuncId:=242
abbrev zit:FuncId:=243
abbrev zis:FuncId:=244
abbrev zg4:FuncId:=245
abbrev zlj:FuncId:=246
abbrev zfM:FuncId:=247
abbrev zhf:FuncId:=248
abbrev zg3:FuncId:=249
abbrev zli:FuncId:=250
abbrev zfA:FuncId:=251
abbrev zll:FuncId:=252
abbrev zig:FuncId:=253
abbrev zg2:FuncId:=254
abbrev zfy:FuncId:=255
abbrev zgo:FuncId:=256
abbrev zbS:FuncId:=257
abbrev zd9:FuncId:=258
abbrev za5:FuncId:=259
abbrev zjH:FuncId:=260
abbrev zlm:FuncId:=261
abbrev zjC:FuncId:=262
abbrev zj4:FuncId:=263
abbrev zc9:FuncId:=264
abbrev za7:FuncId:=265
abbrev zdw:FuncId:=266
abbrev zdz:FuncId:=267
abbrev zic:FuncId:=268
abbrev zjN:FuncId:=269
abbrev zbj:FuncId:=270
abbrev zba:FuncId:=271
abbrev zhO:FuncId:=278
abbrev zdp:FuncId:=279
abbrev zjG:FuncId:=280
abbrev zgn:FuncId:=281
abbrev zg5:FuncId:=282
abbrev zaS:FuncId:=284
abbrev zp4:FuncId:=285
abbrev zj5:FuncId:=286
abbrev zhe:FuncId:=287
abbrev zaW:FuncId:=288
abbrev zdV:FuncId:=289
abbrev zib:FuncId:=290
abbrev ziu:FuncId:=291
abbrev zcu:FuncId:=292
abbrev zdI:FuncId:=293
abbrev zbZ:FuncId:=294
abbrev zda:FuncId:=295
abbrev znG:FuncId:=296
abbrev zjM:FuncId:=297
abbrev zgs:FuncId:=298
abbrev zeD:FuncId:=299
abbrev zgi:FuncId:=300
abbrev za9:FuncId:=301
abbrev zev:FuncId:=302
abbrev zbK:FuncId:=303
abbrev zlk:FuncId:=305
abbrev zfb:FuncId:=306
abbrev zeH:FuncId:=307
abbrev znD:FuncId:=308
abbrev zid:FuncId:=309
abbrev zgj:FuncId:=310
abbrev zfx:FuncId:=311
abbrev zb3:FuncId:=312
abbrev zlp:FuncId:=313
abbrev zaL:FuncId:=314
abbrev zay:FuncId:=315
abbrev znF:FuncId:=316
abbrev zc7:FuncId:=317
abbrev zb2:FuncId:=318
abbrev zg0:FuncId:=319
abbrev zjB:FuncId:=320
abbrev zb0:FuncId:=321
abbrev zaI:FuncId:=322
abbrev zeC:Nat:=0
abbrev zbw:Nat:=1
abbrev zia:Nat:=2
abbrev zhb:Nat:=3
theorem flat_ok:flatOkB prog=true:=rfl
instance:zeW prog:=⟨flat_ok⟩
def ziK (a0 a1 a2 a3 a4 a5 a6:Value)(h:Heap)(R:Value→Heap→Prop):Prop:=
 newK (Value.cells a0) 25 h fun ag ah=>
 newK (Value.cells a1) 31 ah fun ai aj=>
 FCall prog zij #[] aj fun ak o=>
 vK (unV .not ak) fun al=>
 iteK al (
 R (.bool false) o) (
 vK (ldsV 5 o ag) fun am=>
 FCall prog zcf #[am] o fun e z=>
 vK (ldsV 9 z ai) fun an=>
 rowK #[(.int .i64 0),(.int .i64 0),(.int .i64 0),(.int .i64 0),(.slice none 0 0),(.slice none 0 0),(.int .i64 0),(.int .i64 0),(.int .i64 0)] 31 1 [(0,9,an)] z fun ao ap=>
 FCall prog zeI #[ao,e] ap fun q g=>
 vK (extV q 0) fun aq=>
 vK (extV q 1) fun cl=>
 vK (extV q 2) fun ar=>
 vK (unV .not ar) fun au=>
 iteK au (
 vK (binV .p .neq e (.pointer none)) fun av=>
 R av g) (
 joinK (fun r=>
 vK (binV .i .lss a2 (.int .i64 1)) fun s=>
 vK (gV s false (some a2)) fun aw=>
 vK (gV s false (binV .i .gtr aw (.int .i64 4096))) fun ax=>
 vK (pickV s (.bool true) ax) fun t=>
 vK (gV t false (some a3)) fun ay=>
 vK (gV t false (binV .i .lss ay (.int .i64 1))) fun az=>
 vK (pickV t (.bool true) az) fun u=>
 vK (gV u false (some a3)) fun a7=>
 vK (gV u false (binV .i .gtr a7 (.int .i64 4096))) fun a8=>
 vK (pickV u (.bool true) a8) fun a9=>
 iteK a9 (
 r [(.int .i64 9)] g) (
 vK (binV .i .lss a4 (.int .i64 1)) fun v=>
 vK (gV v false (some a4)) fun ba=>
 vK (gV v false (binV .i .gtr ba (.int .i64 256))) fun bb=>
 vK (pickV v (.bool true) bb) fun bc=>
 iteK bc (
 r [(.int .i64 10)] g) (
 r [(.int .i64 0)] g)))
 fun bd cm aa=>
 vK (idxV 3 aq (.int .i64 0)) fun be=>
 vK (ldsV 3 aa be) fun bf=>
 newK #[(.pointer none),(.pointer none),(.int .i64 0)] 46 aa fun j bg=>
 stK 3 j bf bg fun cn k=>
 vK (binV .i .rem a6 (.int .u8 8)) fun w=>
 joinK (fun l=>
 vK (binV .i .eql w (.int .u8 0)) fun bh=>
 iteK bh (
 l [(.int .i64 6),(.pointer none)] k) (
 vK (binV .i .eql w (.int .u8 1)) fun bi=>
 iteK bi (
 vK ((fillL #[(.pointer none),(.pointer none),(.int .i64 0)] []).map .agg) fun bj=>
 stK 3 j bj k fun co bk=>
 l [(.int .i64 6),e] bk) (
 vK (binV .i .eql w (.int .u8 2)) fun bl=>
 iteK bl (
 vK (fldV 2 j) fun bm=>
 stK 1 bm (.int .i64 (-1)) k fun cp bn=>
 l [(.int .i64 6),e] bn) (
 l [(ix bd 0),e] k))))
 fun x cq ab=>
 vK (ldsV 3 ab j) fun bo=>
 FCall prog zeu #[(ix x 1),bo,a2,a3,a4,a5] ab fun ac y=>
 vK (extV ac 0) fun c=>
 vK (extV ac 1) fun bp=>
 vK (binV .i .neq bp (ix x 0)) fun d=>
 vK (gV d false (some c)) fun bq=>
 vK (gV d false (binV .p .eql bq (.pointer none))) fun br=>
 vK (gV d false (some (ix x 0))) fun bs=>
 vK (gV d false (binV .i .neq bs (.int .i64 0))) fun bt=>
 vK (gV d false (binV .b .neq br bt)) fun bu=>
 vK (pickV d (.bool true) bu) fun bv=>
 iteK bv (
 R (.bool false) y) (
 vK (binV .p .eql c (.pointer none)) fun a=>
 vK (gV a false (some c)) fun bw=>
 gK a false (fun bx=>FCall prog zb5 #[bw] y bx) y fun bz ad=>
 vK (gV a false (some a4)) fun b0=>
 vK (gV a false (binV .i .add b0 (.int .i64 1))) fun b1=>
 vK (gV a false (binV .i .eql bz b1)) fun b2=>
 vK (gV a false (some b2)) fun m=>
 vK (gV m true (some c)) fun b3=>
 gK m true (fun b4=>FCall prog zet #[b3] ad b4) ad fun b5 ae=>
 vK (gV m true (binV .i .eql b5 (.int .i64 0))) fun b6=>
 vK (gV a false (pickV m b6 (.bool false))) fun b7=>
 vK (gV a false (some b7)) fun n=>
 vK (gV n true (some c)) fun b8=>
 gK n true (fun b9=>FCall prog zdg #[b8] ae b9) ae fun ca af=>
 vK (gV n true (unV .not ca)) fun cb=>
 vK (gV a false (pickV n cb (.bool false))) fun cc=>
 vK (gV a false (some cc)) fun f=>
 vK (gV f true (some c)) fun cd=>
 gK f true (fun ce=>FCall prog zce #[cd] af ce) af fun cf cg=>
 vK (gV f true (zaf cf)) fun ch=>
 vK (gV f true (binV .i .gtr ch (.int .i64 0))) fun ci=>
 vK (gV a false (pickV f ci (.bool false))) fun cj=>
 vK (pickV a (.bool true) cj) fun ck=>
 R ck cg)))
theorem zow (H:ziK a0 a1 a2 a3 a4 a5 a6 h R):FCall prog zgt #[a0,a1,a2,a3,a4,a5,a6] h R:=fk f5 (.s .z (.s (.s .z (.s (.s .z .z) .z)) (.s .z (.s .z (.s (.s .z (.s (.s .z .z) .z)) (.s .z (.s (.m 4611684918916284416 [19] (.s .z (.s .z (.s .z (.s .z .z))))) (.s .z (.s (.s .z (.m 75262715820734973214720 [19,21] (.s .z (.s .z (.s .z (.s .z (.s .z (.s .z .z)))))))) (.s .z (.s (.s .z (.s (.s .z .z) .z)) (.s .z .z)))))))))))) H
def zky (h:Heap)(R:Value→Heap→Prop):Prop:=
 FCall prog zeX #[] h fun a s=>
 FCall prog zeq #[(.int .i64 1)] s fun b t=>
 FCall prog zim #[] t fun u l=>
 vK (unV .not u) fun j=>
 vK (gV j false (some a)) fun v=>
 vK (gV j false (binV .p .eql v (.pointer none))) fun w=>
 vK (pickV j (.bool true) w) fun k=>
 vK (gV k false (some b)) fun x=>
 vK (gV k false (binV .p .eql x (.pointer none))) fun y=>
 vK (pickV k (.bool true) y) fun c=>
 vK (gV c false (some a)) fun z=>
 vK (gV c false (some b)) fun aa=>
 gK c false (fun ab=>FCall prog zaD #[z,aa,.nilFunc] l ab) l fun ac m=>
 vK (gV c false ((fillL #[(.int .i64 0),(.int .i64 0),(.int .i64 0),(.int .i64 0)] []).map .agg)) fun ad=>
 vK (gV c false (binV (.st [(0,1,.i),(1,1,.i),(2,2,(.st [(0,1,.i),(1,1,.i)]))]) .neq ac ad)) fun ae=>
 vK (pickV c (.bool true) ae) fun f=>
 vK (gV f false (some a)) fun af=>
 vK (gV f false (some b)) fun ag=>
 gK f false (fun ah=>FCall prog za2 #[af,ag] m ah) m fun ai n=>
 vK (pickV f (.bool true) ai) fun aj=>
 iteK aj (
 R (.bool false) n) (
 FCall prog zcz #[b] n fun a5 ak=>
 FCall prog za2 #[a,b] ak fun d o=>
 vK (gV d true (some a)) fun al=>
 vK (gV d true (some b)) fun am=>
 gK d true (fun an=>FCall prog zaD #[al,am,.nilFunc] o an) o fun ao q=>
 vK (gV d true ((fillL #[(.int .i64 0),(.int .i64 0),(.int .i64 0),(.int .i64 0)] [(0,1,(.int .i64 3))]).map .agg)) fun ap=>
 vK (gV d true (binV (.st [(0,1,.i),(1,1,.i),(2,2,(.st [(0,1,.i),(1,1,.i)]))]) .eql ao ap)) fun aq=>
 vK (pickV d aq (.bool false)) fun e=>
 vK (gV e true (some a)) fun ar=>
 vK (gV e true (some b)) fun au=>
 gK e true (fun av=>FCall prog zaD #[ar,au,.nilFunc] q av) q fun aw r=>
 vK (gV e true ((fillL #[(.int .i64 0),(.int .i64 0),(.int .i64 0),(.int .i64 0)] []).map .agg)) fun ax=>
 vK (gV e true (binV (.st [(0,1,.i),(1,1,.i),(2,2,(.st [(0,1,.i),(1,1,.i)]))]) .eql aw ax)) fun ay=>
 vK (pickV e ay (.bool false)) fun g=>
 vK (gV g true (some a)) fun az=>
 gK g true (fun a0=>FCall prog zcY #[az] r a0) r fun a1 a2=>
 vK (gV g true (binV .i .eql a1 (.int .i64 2))) fun a3=>
 vK (pickV g a3 (.bool false)) fun a4=>
 R a4 a2)
theorem zqm (H:zky h R):FCall prog zik #[] h R:=fk f10 (.s .z (.s .z (.s (.s .z (.s (.s .z .z) .z)) (.s .z (.s .z .z))))) H
def zeR (a0:Value)(h:Heap)(R:Value→Heap→Prop):Prop:=
 newK (Value.cells a0) 25 h fun b a=>
 vK (fldV 0 b) fun c=>
 vK (ldV a c) fun d=>
 vK (binV .i .rem d (.int .u16 12)) fun e=>
 vK (fldV 1 b) fun f=>
 vK (ldV a f) fun g=>
 vK (binV .i .rem g (.int .u16 12)) fun j=>
 vK (fldV 2 b) fun k=>
 vK (ldV a k) fun l=>
 vK (fldV 3 b) fun m=>
 vK (ldV a m) fun n=>
 vK (fldV 4 b) fun o=>
 vK (ldV a o) fun p=>
 FCall prog zjL #[e,j,l,n,p] a fun q r=>
 R q r
theorem zjs (H:zeR a0 h R):FCall prog zcf #[a0] h R:=fk f11 (.s .z (.s .z .z)) H
def zjc (a0 a1:Value)(h:Heap)(R:Value→Heap→Prop):Prop:=
 vK (binV .p .eql a1 (.pointer none)) fun b=>
 vK (gV b false (some a0)) fun l=>
 vK (gV b false (zaf l)) fun m=>
 vK (gV b false (binV .i .gtr m (.int .i64 4))) fun n=>
 vK (pickV b (.bool true) n) fun c=>
 vK (gV c false (some a0)) fun o=>
 gK c false (fun q=>FCall prog zhi #[o,(.int .i64 12)] h q) h fun r e=>
 vK (gV c false (unV .not r)) fun s=>
 vK (pickV c (.bool true) s) fun t=>
 iteK t (
 R (.tuple #[(.slice none 0 0),(.slice none 0 0),(.bool false)]) e) (
 FCall prog zau #[a1] e fun u v=>
 FCall prog zaw #[a1] v fun w x=>
 FCall prog zak #[a1] x fun y z=>
 FCall prog zs0 #[a0,u,w,y] z fun f aa=>
 vK (extV f 0) fun g=>
 vK (extV f 1) fun ab=>
 FCall prog zjK #[a0] aa fun ac ad=>
 FCall prog zau #[a1] ad fun ae af=>
 FCall prog zaw #[a1] af fun ag ah=>
 FCall prog zak #[a1] ah fun ai aj=>
 FCall prog zlh #[ac,ae,ag,ai] aj fun j ak=>
 vK (extV j 0) fun k=>
 vK (extV j 1) fun al=>
 vK (binV .i .eql ab (.int .i64 0)) fun d=>
 vK (gV d true (some al)) fun am=>
 vK (gV d true (binV .i .eql am (.int .i64 0))) fun an=>
 vK (pickV d an (.bool false)) fun a=>
 vK (gV a true (some g)) fun ao=>
 vK (gV a true (zaf ao)) fun ap=>
 vK (gV a true (some k)) fun aq=>
 vK (gV a true (zaf aq)) fun ar=>
 vK (gV a true (binV .i .eql ap ar)) fun au=>
 vK (pickV a au (.bool false)) fun av=>
 R (.tuple #[g,k,av]) ak)
theorem zpo (H:zjc a0 a1 h R):FCall prog zeI #[a0,a1] h R:=fk f12 (.s .z (.s (.s .z (.s (.s .z .z) .z)) (.s .z (.s .z (.s .z .z))))) H
def zlU (a0 a1 a2 a3:Value)(h:Heap)(R:Value→Heap→Prop):Prop:=
 vK (binV .i .lss a3 (.int .i64 1)) fun b=>
 vK (gV b false (some a3)) fun f=>
 vK (gV b false (binV .i .gtr f (.int .i64 65535))) fun g=>
 vK (pickV b (.bool true) g) fun a=>
 vK (gV a false (some a2)) fun j=>
 vK (gV a false (binV .i .neq j (.int .i64 1))) fun k=>
 vK (gV a false (some k)) fun c=>
 vK (gV c true (some a2)) fun l=>
 vK (gV c true (binV .i .neq l (.int .i64 3))) fun m=>
 vK (gV a false (pickV c m (.bool false))) fun n=>
 vK (pickV a (.bool true) n) fun o=>
 iteK o (
 R (.tuple #[(.pointer none),(.int .i64 2)]) h) (
 FCall prog zdZ #[a0,a1,a2] h fun p d=>
 vK (unV .not p) fun q=>
 iteK q (
 R (.tuple #[(.pointer none),(.int .i64 5)]) d) (
 vK (binV .i .mul a0 a1) fun r=>
 vK (binV .i .mul r a2) fun e=>
 mkK (.int .u16 0) 22 1 2 e e d fun s t=>
 vK ((fillL #[(.int .i64 0),(.int .i64 0),(.int .i64 0),(.int .i64 0),(.slice none 0 0)] [(0,1,a0),(1,1,a1),(2,1,a2),(3,1,a3),(4,1,s)]).map .agg) fun u=>
 newK (Value.cells u) 151 t fun v w=>
 R (.tuple #[v,(.int .i64 0)]) w))
theorem zse (H:zlU a0 a1 a2 a3 h R):FCall prog zct #[a0,a1,a2,a3] h R:=fk f13 (.s .z (.s (.s .z (.s (.s .z .z) (.s .z (.s (.s .z .z) .z)))) (.s .z .z))) H
def zhr (a0:Value)(h:Heap)(R:Value→Heap→Prop):Prop:=
 vK (nilV a0) fun a=>
 vK (fldV 1 a) fun b=>
 vK (ldV h b) fun c=>
 vK (zaf c) fun d=>
 R d h
theorem zm4 (H:zhr a0 h R):FCall prog zas #[a0] h R:=fk f14 (.s .z (.s .z .z)) H
def zdB (a0:Value)(h:Heap)(R:Value→Heap→Prop):Prop:=
 vK (nilV a0) fun a=>
 vK (fldV 2 a) fun b=>
 vK (ldV h b) fun c=>
 R c h
theorem zhI (H:zdB a0 h R):FCall prog zak #[a0] h R:=fk f15 (.s .z (.s .z .z)) H
def zfk (a0:Value)(h:Heap)(R:Value→Heap→Prop):Prop:=
 vK (nilV a0) fun a=>
 vK (fldV 3 a) fun b=>
 vK (ldV h b) fun c=>
 R c h
theorem zkc (H:zfk a0 h R):FCall prog zaO #[a0] h R:=fk f16 (.s .z (.s .z .z)) H
def zoX (a0 a1 a2:Value)(h:Heap)(R:Value→Heap→Prop):Prop:=
 newK (Value.cells a0) 46 h fun d a=>
 vK (fldV 0 d) fun g=>
 vK (ldV a g) fun i=>
 vK (binV .p .eql i (.pointer none)) fun b=>
 vK (gV b false (fldV 1 d)) fun j=>
 vK (gV b false (ldV a j)) fun k=>
 vK (gV b false (binV .p .eql k (.pointer none))) fun l=>
 vK (pickV b (.bool true) l) fun m=>
 iteK m (
 R (.tuple #[(.pointer none),(.int .i64 6)]) a) (
 FCall prog zii #[a1] a fun n f=>
 vK (unV .not n) fun c=>
 vK (gV c false (some a2)) fun o=>
 gK c false (fun q=>FCall prog zii #[o] f q) f fun r e=>
 vK (gV c false (unV .not r)) fun s=>
 vK (pickV c (.bool true) s) fun t=>
 iteK t (
 R (.tuple #[(.pointer none),(.int .i64 9)]) e) (
 vK (ldsV 3 e d) fun u=>
 vK ((fillL #[(.pointer none),(.pointer none),(.int .i64 0),(.int .i64 0),(.int .i64 0)] [(0,3,u),(3,1,a1),(4,1,a2)]).map .agg) fun v=>
 newK (Value.cells v) 156 e fun w x=>
 R (.tuple #[w,(.int .i64 0)]) x))
theorem ok_plan_New (H:zoX a0 a1 a2 h R):FCall prog zj7 #[a0,a1,a2] h R:=fk f17 (.s .z (.s (.s .z (.s (.s .z .z) (.s .z (.s (.s .z .z) .z)))) (.s .z .z))) H
def zhE (a0 a1:Value)(h:Heap)(R:Value→Heap→Prop):Prop:=
 newK #[(.int .i64 0),(.int .i64 0),(.int .i64 0),(.int .i64 0),(.int .i64 0),(.int .i64 0),(.int .i64 0),(.int .i64 0),(.int .i64 0),(.int .i64 0)] 65 h fun f l=>
 vK (binV .i .lss a1 (.int .i64 0)) fun e=>
 vK (gV e false (some a1)) fun af=>
 vK (gV e false (some a0)) fun ag=>
 gK e false (fun ah=>FCall prog za4 #[ag] l ah) l fun ai d=>
 vK (gV e false (binV .i .geq af ai)) fun aj=>
 vK (pickV e (.bool true) aj) fun ak=>
 iteK ak (
 vK ((fillL #[(.int .i64 0),(.int .i64 0),(.int .i64 0),(.int .i64 0),(.int .i64 0),(.int .i64 0),(.int .i64 0),(.int .i64 0),(.int .i64 0),(.int .i64 0)] []).map .agg) fun al=>
 stK 10 f al d fun b8 m=>
 vK (ldsV 10 m f) fun am=>
 R (.tuple #[am,(.bool false)]) m) (
 joinK (fun g=>
 drawK d fun S=>
 vK (nilV a0) fun an=>
 vK (fldV 0 an) fun ao=>
 vK (fldV 1 ao) fun ap=>
 qK S (fun d=>ldV d ap) fun j=>
 (FCall prog zd2 #[a0,a1] d fun n k=>
 S k∧((FCall prog zbq #[j] k fun aq o=>
 S o∧(vK ((fillL #[(.int .i64 0),(.int .i64 0),(.int .i64 0),(.int .i64 0),(.int .i64 0),(.int .i64 0),(.int .i64 0),(.int .i64 0),(.int .i64 0),(.int .i64 0)] [(0,1,a1),(1,4,n),(9,1,aq)]).map .agg) fun ar=>
 newK #[(.int .i64 0),(.int .i64 0),(.int .i64 0),(.int .i64 0),(.int .i64 0),(.int .i64 0),(.int .i64 0),(.int .i64 0),(.int .i64 0),(.int .i64 0)] 65 o fun p q=>
 S q∧(stK 10 p ar q fun b9 r=>
 S r∧(g [p] r))))∧(newK #[(.int .i64 0),(.int .i64 0),(.int .i64 0),(.int .i64 0),(.int .i64 0),(.int .i64 0),(.int .i64 0),(.int .i64 0),(.int .i64 0),(.int .i64 0)] 65 k fun s t=>
 S t∧(FCall prog zbq #[j] t fun au u=>
 S u∧(vK ((fillL #[(.int .i64 0),(.int .i64 0),(.int .i64 0),(.int .i64 0),(.int .i64 0),(.int .i64 0),(.int .i64 0),(.int .i64 0),(.int .i64 0),(.int .i64 0)] [(0,1,a1),(1,4,n),(9,1,au)]).map .agg) fun av=>
 stK 10 s av u fun ca v=>
 S v∧(g [s] v))))))∧(newK #[(.int .i64 0),(.int .i64 0),(.int .i64 0),(.int .i64 0),(.int .i64 0),(.int .i64 0),(.int .i64 0),(.int .i64 0),(.int .i64 0),(.int .i64 0)] 65 d fun w x=>
 S x∧(FCall prog zd2 #[a0,a1] x fun aw y=>
 S y∧(FCall prog zbq #[j] y fun ax z=>
 S z∧(vK ((fillL #[(.int .i64 0),(.int .i64 0),(.int .i64 0),(.int .i64 0),(.int .i64 0),(.int .i64 0),(.int .i64 0),(.int .i64 0),(.int .i64 0),(.int .i64 0)] [(0,1,a1),(1,4,aw),(9,1,ax)]).map .agg) fun ay=>
 stK 10 w ay z fun cb aa=>
 S aa∧(g [w] aa))))))
 fun a cc b=>
 drawK b fun S=>
 vK (nilV a0) fun az=>
 vK (fldV 0 az) fun a2=>
 vK (fldV 0 a2) fun a3=>
 qK S (fun b=>ldV b a3) fun a4=>
 vK (fldV 1 (ix a 0)) fun a5=>
 vK (fldV 0 a5) fun a6=>
 qK S (fun b=>ldV b a6) fun a7=>
 vK (fldV 1 (ix a 0)) fun a8=>
 vK (fldV 0 a8) fun a9=>
 qK S (fun b=>ldV b a9) fun ba=>
 vK (fldV 1 (ix a 0)) fun bb=>
 vK (fldV 2 bb) fun bc=>
 qK S (fun b=>ldV b bc) fun bd=>
 vK (binV .i .add ba bd) fun be=>
 FCall prog zbR #[a4,a7,be] b fun ab bf=>
 vK (extV ab 0) fun bg=>
 vK (extV ab 1) fun bh=>
 vK (fldV 5 (ix a 0)) fun bi=>
 stK 1 bi bg bf fun cd bj=>
 vK (fldV 7 (ix a 0)) fun bk=>
 stK 1 bk bh bj fun ce c=>
 drawK c fun S=>
 vK (nilV a0) fun bl=>
 vK (fldV 0 bl) fun bm=>
 vK (fldV 1 bm) fun bn=>
 qK S (fun c=>ldV c bn) fun bo=>
 vK (fldV 1 (ix a 0)) fun bp=>
 vK (fldV 1 bp) fun bq=>
 qK S (fun c=>ldV c bq) fun br=>
 vK (fldV 1 (ix a 0)) fun bs=>
 vK (fldV 1 bs) fun bt=>
 qK S (fun c=>ldV c bt) fun bu=>
 vK (fldV 1 (ix a 0)) fun bv=>
 vK (fldV 3 bv) fun bw=>
 qK S (fun c=>ldV c bw) fun bx=>
 vK (binV .i .add bu bx) fun bz=>
 FCall prog zbR #[bo,br,bz] c fun ac b0=>
 vK (extV ac 0) fun b1=>
 vK (extV ac 1) fun b2=>
 vK (fldV 6 (ix a 0)) fun b3=>
 stK 1 b3 b1 b0 fun cf b4=>
 vK (fldV 8 (ix a 0)) fun b5=>
 stK 1 b5 b2 b4 fun cg ad=>
 vK (ldsV 10 ad (ix a 0)) fun b6=>
 stK 10 f b6 ad fun ch ae=>
 vK (ldsV 10 ae f) fun b7=>
 R (.tuple #[b7,(.bool true)]) ae)
theorem znh (H:zhE a0 a1 h R):FCall prog zbz #[a0,a1] h R:=fk f21 (.s .z (.s (.s .z (.s (.s .z .z) .z)) (.j 134152256 [6] (.d (.op 0 .r (.op 1 .r (.op 2 .r (.op 4 .r (.op 5 .r (.op 6 .r (.op 7 .r (.op 8 .r (.alt (.op 3 .e (.alt (.op 9 .e (.op 10 .r (.op 11 .e (.op 12 .e .nil)))) (.op 11 .e (.op 9 .e (.op 10 .r (.op 12 .e .nil)))))) (.op 11 .e (.op 3 .e (.op 9 .e (.op 10 .r (.op 12 .e .nil))))))))))))))) (.s (.d (.op 0 .r (.op 1 .r (.op 2 .r (.op 3 .r (.op 4 .r (.op 5 .r (.op 6 .r (.op 7 .r (.op 8 .r (.op 9 .r (.op 10 .r (.op 11 .r (.op 12 .r (.op 13 .r (.op 14 .r (.op 15 .n (.op 16 .r (.op 17 .r (.op 18 .r (.op 19 .r (.op 20 .n (.op 21 .r (.op 22 .n .nil)))))))))))))))))))))))) (.s (.d (.op 0 .r (.op 1 .r (.op 2 .r (.op 3 .r (.op 4 .r (.op 5 .r (.op 6 .r (.op 7 .r (.op 8 .r (.op 9 .r (.op 10 .r (.op 11 .r (.op 12 .r (.op 13 .r (.op 14 .r (.op 15 .n (.op 16 .r (.op 17 .r (.op 18 .r (.op 19 .r (.op 20 .n (.op 21 .r (.op 22 .n .nil)))))))))))))))))))))))) (.s .z .z)))))) H
def zly (a0 a1 a2 a3:Value)(h:Heap)(R:Value→Heap→Prop):Prop:=
 newK (Value.cells a2) 46 h fun b k=>
 newK (Value.cells a3) 65 k fun c e=>
 vK (ldsV 3 e b) fun l=>
 FCall prog zhc #[a0,a1,l] e fun m d=>
 vK (unV .not m) fun n=>
 iteK n (
 R (.tuple #[(.pointer none),(.int .i64 6)]) d) (
 vK (ldsV 3 d b) fun o=>
 vK (fldV 1 c) fun p=>
 vK (ldsV 4 d p) fun q=>
 FCall prog zdT #[o,q] d fun r a=>
 vK (unV .not r) fun s=>
 iteK s (
 R (.tuple #[(.pointer none),(.int .i64 9)]) a) (
 drawK a fun S=>
 qK S (fun a=>ldsV 3 a b) fun t=>
 qK S (fun a=>ldsV 10 a c) fun u=>
 vK (fldV 1 b) fun v=>
 qK S (fun a=>ldV a v) fun w=>
 vK (fldV 1 c) fun x=>
 vK (fldV 2 x) fun y=>
 qK S (fun a=>ldV a y) fun z=>
 vK (fldV 1 c) fun aa=>
 vK (fldV 1 aa) fun ab=>
 qK S (fun a=>ldV a ab) fun ac=>
 FCall prog zbq #[w] a fun ad f=>
 S f∧(FCall prog zak #[a0] f fun ae g=>
 S g∧(vK (binV .i .mul z ae) fun af=>
 FCall prog znE #[ad,af] g fun ag j=>
 S j∧(vK ((fillL #[(.pointer none),(.pointer none),(.pointer none),(.pointer none),(.int .i64 0),(.int .i64 0),(.int .i64 0),(.int .i64 0),(.int .i64 0),(.int .i64 0),(.int .i64 0),(.int .i64 0),(.int .i64 0),(.int .i64 0),(.int .i64 0),(.pointer none),(.int .i64 0)] [(0,1,a0),(1,1,a1),(2,3,t),(5,10,u),(15,1,ag),(16,1,ac)]).map .agg) fun ah=>
 newK (Value.cells ah) 171 j fun ai aj=>
 R (.tuple #[ai,(.int .i64 0)]) aj)))))
theorem zrS (H:zly a0 a1 a2 a3 h R):FCall prog zeY #[a0,a1,a2,a3] h R:=fk f22 (.s .z (.s (.s .z (.s (.s .z .z) (.s .z (.s (.s .z .z) .z)))) (.s (.d (.op 0 .r (.op 1 .r (.op 2 .r (.op 3 .r (.op 4 .r (.op 5 .r (.op 7 .r (.op 8 .r (.op 9 .r (.op 10 .r (.op 14 .r (.op 15 .r (.op 16 .r (.op 6 .e (.op 11 .e (.op 12 .r (.op 13 .e (.op 17 .r (.op 18 .n (.op 19 .r (.op 20 .r .nil)))))))))))))))))))))) .z))) H
def znY (a0:Value)(h:Heap)(R:Value→Heap→Prop):Prop:=
 vK (maxV (.int .i64 1) a0) fun a=>
 vK (minV a (.int .i64 4096)) fun b=>
 vK ((fillL #[(.int .i64 0),(.slice none 0 0),(.bool false)] [(0,1,b)]).map .agg) fun c=>
 newK (Value.cells c) 173 h fun d e=>
 R d e
theorem ok_queue_New (H:znY a0 h R):FCall prog zeq #[a0] h R:=fk f23 (.s .z (.s .z .z)) H
def zlx (h:Heap)(R:Value→Heap→Prop):Prop:=
 vK ((fillL #[(.int .i64 0),(.slice none 0 0),(.pointer none),(.int .i64 0)] []).map .agg) fun a=>
 newK (Value.cells a) 175 h fun b c=>
 R b c
theorem zrR (H:zlx h R):FCall prog zeX #[] h R:=fk f25 (.s .z (.s .z .z)) H
end
end Go.Proofs.YtcoimlclclnlkaaGreatDoor
