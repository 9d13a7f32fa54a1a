/- Several texts of this session, one behind the other, without what this claim does not need (put together by its program pack.py). Conditions: none. -/
import Derived.Orders
import Derived.OrdersHeld
import Derived.Deep.Quiet
import Derived.Calls
import Derived.Laws.Sem
import Derived.Laws.World
import Derived.Laws.StructEq
import Derived.LaidEql
import Derived.Tactics
import Derived.KernelRfl
import Derived.Laws.Append
import Derived.WalkKit
import Derived.ProofKit
import Derived.OpenShut
import Derived.ShutString
import Derived.ChangeOld
import Derived.Below
import Derived.Carry
import Derived.SizedLaws
import Derived.Test.YtcoimlclclnlkaaGreatDoorProg
set_option linter.unusedVariables false
set_option linter.unusedSimpArgs false
set_option maxRecDepth 100000
namespace Go.Crisp
open Go
section
abbrev af:=Array Obj
abbrev Env:=Nat→Value
abbrev ll:=af→(Value→af→Prop)→Prop
def cW (w w':World):Prop:=w'.os=w.os∧w'.tape=w.tape∧w'.output=w.output
theorem cW.refl (w:World):cW w w:=⟨rfl,rfl,rfl⟩
theorem cW.trans {a b c:World}(h:cW a b)(k:cW b c):cW a c:=⟨k.1.trans h.1,k.2.1.trans h.2.1,k.2.2.trans h.2.2⟩
def ev (ρ:Env):Operand→Value
 | .tmp t=>ρ t
 | .const v=>v
 | .global g=>.pointer (some ⟨g,0,none⟩)
 | .func f=>.func (.func f) #[] #[]
def up (ρ:Env)(d:Option Tmp)(v:Value):Env:=
 match d with
 |some d=>λt=>match Nat.beq t d with
  |true=>v
  |false=>ρ t
 |none=>ρ
def aB (h:af)(a:Addr):Option Value:=
 match h[a.block]? with
 |some (.cells c _ _)=>if a.spot.isSome then none else c[a.off]?
 |_=>none
def rZ (h:af)(a:Addr):Bool:=
 match h[a.block]? with
 |some (.cells _ _ (lo,hi))=>lo≤a.off&&a.off<hi
 |_=>false
def Hl (h:af)(a:Addr)(v:Value):af:=
 h.modify a.block λ
  | .cells c elem frozen=>.cells (if a.spot.isSome then c else c.setIfInBounds a.off v) elem frozen
  |o=>o
def dy (h:af)(a:Addr):Nat→Nat→Option (List Value)
 |_,0=>some []
 | i,n+1=>match aB h (a.add i)with
  |some v=>match dy h a (i+1) n with
   |some l=>some (v::l)
   |none=>none
  |none=>none
def aJ:Value→Bool
 | .agg _| .tuple _=>false
 |_=>true
def iO (h:af)(a:Addr):Nat→List Value→Option af
 |_,[]=>some h
 |i,v::l=>
  match aB h (a.add i)with
  |some _=>bif aJ v&& !rZ h (a.add i)then iO (Hl h (a.add i) v) a (i+1) l else none
  |none=>none
inductive SE where
 |b|i
 |st (fs:List (Nat×Nat×SE))
inductive EK where
 |b|i|s|p|sl|m|f|o
 |st (fs:List (Nat×Nat×SE))
def Ws (f:TypeId→Option SE) (sz:TypeId→Option Nat):List Field→Option (List (Nat×Nat×SE))
 | []=>some []
 | fd::fs=>match f fd.type with
  |none=>none
  | some e=>match sz fd.type with
   |none=>none
   |some n=>match Ws f sz fs with
    |none=>none
    |some l=>some ((fd.offset,n,e)::l)
def Va (P:Program)(fs:Array Field)(t:TypeId):Bool:= !P.stoodInHeld t&&(!P.eqGuardType P.depth t&&fs.toList.all λf=>f.name != "_")
def MA (P:Program):Nat→TypeId→Option SE
 |0,_=>none
 | d+1,t=>match P.underlying t with
  |some .bool=>some .b
  |some (.int _)=>some .i
  | some (.struct fs)=>match Va P fs t with
   |true=>match Ws (MA P d) (λt=>(P.info? t).map (·.size)) fs.toList with
    |some l=>some (.st l)
    |none=>none
   |false=>none
  |_=>none
def JD (P:Program)(t:TypeId):EK:=
 match P.underlying t with
 |some .bool=>.b
 |some (.int _)=>.i
 |some .string=>.s
 |some (.pointer _)=>.p
 |some (.slice _)=>.sl
 |some (.map _ _)=>.m
 |some (.func _ _ _)=>.f
 |some (.struct _)=>match MA P 4 t with
  |some (.st l)=>.st l
  |_=>.o
 |_=>.o
def Hn:SE→Bool
 | .st _=>true
 |_=>false
mutual
def Hm:SE→Value→Value→Option Bool
 | .b,.bool a,.bool b=>some (a==b)
 | .i,.int k a,.int k' b=>if k=k' then some (a==b)else none
 | .st fs,.agg xs,.agg ys=>Dq fs xs ys
 |_,_,_=>none
def Dq:List (Nat×Nat×SE)→Array Value→Array Value→Option Bool
 | [],_,_=>some true
 | (o,n,e)::fs,xs,ys=>
  match(bif Hn e then some (.agg (xs.extract o (o+n)))else xs[o]?),(bif Hn e then some (.agg (ys.extract o (o+n)))else ys[o]?)with
  |some a,some b=>match Hm e a b with
   |some true=>Dq fs xs ys
   |some false=>some false
   |none=>none
  |_,_=>none
end
def eqV (e:EK)(x y:Value):Option Bool:=
 match e,x,y with
 | .b,.bool a,.bool b=>some (a==b)
 | .p,.pointer none,.pointer b=>some b.isNone
 | .p,.pointer (some _),.pointer none=>some false
 | .sl,.slice none _ _,.slice b _ _=>some b.isNone
 | .sl,.slice (some _) _ _,.slice none _ _=>some false
 | .m,.map none,.map b=>some b.isNone
 | .m,.map (some _),.map none=>some false
 | .f,.nilFunc,.nilFunc=>some true
 | .f,.nilFunc,.func _ _ _=>some false
 | .f,.func _ _ _,.nilFunc=>some false
 | .st fs,.agg xs,.agg ys=>Dq fs xs ys
 |_,_,_=>none
def Sk (P:Program):Bool:=true
class jA (P:Program):Prop where
 ok:Sk P=true
def D7 (op:BinOp)(k:IntKind)(a b:Int):Option Value:=
 match op with
 | .add=>some (.int k (k.wrap (a+b)))
 | .sub=>some (.int k (k.wrap (a-b)))
 | .mul=>some (.int k (k.wrap (a*b)))
 | .quo=>if b=0 then none else some (.int k (k.wrap (a.tdiv b)))
 | .rem=>if b=0 then none else some (.int k (a.tmod b))
 | .and=>some (.int k (k.wrap (BitVec.ofInt k.bits a&&& BitVec.ofInt k.bits b).toNat))
 | .or=>some (.int k (k.wrap (BitVec.ofInt k.bits a|||BitVec.ofInt k.bits b).toNat))
 | .xor=>some (.int k (k.wrap (BitVec.ofInt k.bits a^^^BitVec.ofInt k.bits b).toNat))
 | .andNot=>some (.int k (k.wrap (BitVec.ofInt k.bits a&&& ~~~ BitVec.ofInt k.bits b).toNat))
 | .eql=>some (.bool (a==b))
 | .neq=>some (.bool (a != b))
 | .lss=>some (.bool (a<b))
 | .leq=>some (.bool (a≤b))
 | .gtr=>some (.bool (b<a))
 | .geq=>some (.bool (b≤a))
 |_=>none
def strV (op:BinOp)(x y:ByteArray):Option Value:=
 match op with
 | .add=>if((x.size+y.size:Nat):Int)>IntKind.i64.max then none else some (.string (x++y))
 | .eql=>some (.bool (x.toList==y.toList))
 | .neq=>some (.bool !(x.toList==y.toList))
 |_=>none
def ag (e:EK)(op:BinOp)(x y:Value):Option Value:=
 match x,y with
 | .int k a,.int k' b=>
  match op with
  | .shl=>if b<0 then none else some (.int k (k.wrap (a*2^(min b.toNat k.bits))))
  | .shr=>if b<0 then none else some (.int k (a.fdiv (2^(min b.toNat k.bits))))
  |op=>if k=k' then D7 op k a b else none
 | .string a,.string b=>strV op a b
 |x,y=>
  match op with
  | .eql=>(eqV e x y).map .bool
  | .neq=>(eqV e x y).map λb=>.bool !b
  |_=>none
def unV (op:UnOp)(x:Value):Option Value:=
 match op,x with
 | .neg,.int k n=>some (.int k (k.wrap (0-n)))
 | .xor,.int k n=>some (.int k (k.wrap (BitVec.ofInt k.bits (if k.signed then-1 else k.max)^^^BitVec.ofInt k.bits n).toNat))
 | .not,.bool b=>some (.bool !b)
 |_,_=>none
def az (c x y:Value):Option Value:=
 match c with
 | .bool b=>some (bif b then x else y)
 |_=>none
def aK:Value→Option Value
 | .pointer none| .nilIface| .nilFunc=>none
 | .func (.method _) _ _=>none
 |x=>some x
def ldV (h:af)(x:Value):Option Value:=
 match x with
 | .pointer (some a)=>aB h a
 |_=>none
def OZ:Operand→Bool
 | .const (.pointer none)=>true
 |_=>false
def lM (h:af)(b:Nat):Bool:=match h[b]? with
 |some (.cells _ _ (0,0))=>true
 |_=>false
def peV (h:af)(op:BinOp)(x y:Value):Option Value:=
 match x,y with
 | .pointer (some a),.pointer (some b)=>match op with
  | .eql=>if a=b then some (.bool true)else if lM h a.block&&lM h b.block then some (.bool false)else none
  | .neq=>if a=b then some (.bool false)else if lM h a.block&&lM h b.block then some (.bool true)else none
  |_=>none
 |x,y=>ag .p op x y
def aH (n:Nat)(h:af)(x:Value):Option Value:=
 match x with
 | .pointer (some a)=>(dy h a 0 n).map λl=>.agg l.toArray
 |_=>none
def am (off:Nat)(x:Value):Option Value:=
 match x with
 | .pointer (some a)=>some (.pointer (some (a.add off)))
 |_=>none
def mT (agg:Bool)(size off:Nat)(x:Value):Option Value:=
 match x with
 | .agg cs=>bif agg then some (.agg (cs.extract off (off+size)))else cs[off]?
 |_=>none
def aR (size:Nat)(x i:Value):Option Value:=
 match x,i with
 | .slice (some a) len _,.int _ i=>if 0≤i∧i<(len:Int)then some (.pointer (some (a.add (i.toNat*size))))else none
 |_,_=>none
def Jr (len size:Nat)(x i:Value):Option Value:=
 match x,i with
 | .pointer (some a),.int _ i=>if 0≤i∧i<(len:Int)then some (.pointer (some (a.add (i.toNat*size))))else none
 |_,_=>none
def Yo (x i:Value):Option Value:=
 match x,i with
 | .string s,.int _ i=>(if 0≤i then s[i.toNat]? else none).map λb=>.int .u8 b.toNat
 |_,_=>none
def aF (x:Value)(i:Nat):Option Value:=
 match x with
 | .tuple vs=>vs[i]?
 |_=>none
def dY (k:IntKind)(x:Value):Option Value:=
 match x with
 | .int _ n=>some (.int k (k.wrap n))
 |_=>none
def X3 (x:Value):Option Value:=
 match x with
 | .int _ n=>some (.string (Utf8.encode n))
 |_=>none
def aq (x:Value):Option Value:=
 match x with
 | .slice _ n _=>some (.int .i64 n)
 |_=>none
def Fa (x:Value):Option Value:=
 match x with
 | .string s=>some (.int .i64 s.size)
 |_=>none
def LM (h:af)(x:Value):Option Value:=
 match x with
 | .map none=>some (.int .i64 0)
 | .map (some r)=>match h[r]? with
  |some (.map es _)=>some (.int .i64 es.size)
  |_=>none
 |_=>none
def iG (x y:Value):Option Value:=
 match x,y with
 | .int k a,.int _ b=>some (.int k (if b>a then b else a))
 |_,_=>none
def pA (x y:Value):Option Value:=
 match x,y with
 | .int k a,.int _ b=>some (.int k (if b<a then b else a))
 |_,_=>none
def XZ (x y z:Value):Option Value:=
 match iG x y with
 |some a=>iG a z
 |none=>none
def XY (x y z:Value):Option Value:=
 match pA x y with
 |some a=>pA a z
 |none=>none
def bdV (x:Option Value)(d:Nat)(most:Nat):Option Nat:=
 match x with
 |none=>some d
 |some (.int _ i)=>if 0≤i∧i≤(most:Int)then some i.toNat else none
 |some _=>none
def ue (size:Nat)(x:Value)(lo hi:Option Value):Option Value:=
 match x with
 | .slice a len cap=>match bdV hi len cap with
  |some h=>match bdV lo 0 h with
   |some l=>some (.slice (if cap=l then a else a.map (·.add (l*size))) (h-l) (cap-l))
   |none=>none
  |none=>none
 |_=>none
def Yc (x:Value)(lo hi:Option Value):Option Value:=
 match x with
 | .string s=>match bdV hi s.size s.size with
  |some h=>match bdV lo 0 h with
   |some l=>some (.string (s.extract l h))
   |none=>none
  |none=>none
 |_=>none
def vK (r:Option Value)(K:Value→Prop):Prop:=
 match r with
 |some v=>K v
 |none=>False
def w7 (P:Program)(t:TypeId):Option Bool:=
 (P.underlying t).map λ
  | .struct _| .array _ _=>true
  |_=>false
def dH (P:Program)(t:TypeId):Option Nat:=(P.info? t).map (·.size)
def ud (P:Program)(t:TypeId):Option Value:=(P.info? t).bind (·.zero)
def jO (P:Program)(t:TypeId):Option TypeDesc:=
 match P.underlying t with
 |some (.int k)=>some (.int k)
 |some .bool=>some .bool
 |some .string=>some .string
 |_=>none
def Pa (h:af)(m:Value):Option (Array MapEntry×Nat):=
 match m with
 | .map (some r)=>match h[r]? with
  |some (.map es c)=>some (es,c)
  |_=>none
 |_=>none
def FT (kd:TypeDesc)(zero:Value)(ok:Bool)(h:af)(m k:Value):Option Value:=
 match m with
 | .map none=>some (bif ok then .tuple #[zero,.bool false]else zero)
 | m=>match Pa h m with
  |none=>none
  |some (es,_)=>match Instr.findNow kd k es.toList 0 with
   |some (some (_,v))=>some (bif ok then .tuple #[v,.bool true]else v)
   |some none=>some (bif ok then .tuple #[zero,.bool false]else zero)
   |none=>none
def aE (cells:Array Value):List (Nat×Nat×Value)→Option (Array Value)
 | []=>some cells
 |(off,size,v)::rest=>
  if v.cells.size≠size||off+v.cells.size>cells.size then none
  else aE (v.cells.zipIdx.foldl (λcs (c,j)=>cs.setIfInBounds (off+j) c) cells) rest
def tN (P:Program):List Field→Option (List (Nat×Nat))
 | []=>some []
 | f::fs=>match dH P f.type with
  |none=>none
  |some s=>match tN P fs with
   |none=>none
   |some l=>some ((f.offset,s)::l)
def OA (P:Program)(t:TypeId):Option (Nat→Option (Nat×Nat)):=
 match P.underlying t with
 |some (.struct fs)=>(tN P fs.toList).map λl=>λi=>l[i]?
 |some (.array _ e)=>(dH P e).map λs=>λi=>some (i*s,s)
 |_=>none
def yL (pl:Nat→Option (Nat×Nat))(ρ:Env):List (Nat×Operand)→Option (List (Nat×Nat×Value))
 | []=>some []
 | (i,x)::rest=>match pl i with
  |none=>none
  |some (o,s)=>match yL pl ρ rest with
   |none=>none
   |some l=>some ((o,s,ev ρ x)::l)
def roB (P:Program)(b:Builtin)(args:List Value)(ts:List TypeId)(h:af):Option (Option Value):=
 match b with
 | .len=>match args,ts with
  | [x],[t]=>match P.underlying t with
   |some (.slice _)=>some (aq x)
   |some .string=>some (Fa x)
   |some (.map _ _)=>some (LM h x)
   |_=>none
  |_,_=>none
 | .max=>match args with
  | [x,y]=>some (iG x y)
  | [x,y,z]=>some (XZ x y z)
  |_=>none
 | .min=>match args with
  | [x,y]=>some (pA x y)
  | [x,y,z]=>some (XY x y z)
  |_=>none
 |_=>none
def roV (P:Program) (ρ:Env) (op:Op) (h:af):Option (Option Value):=
 match op with
 | .move x| .assign x=>some (some (ev ρ x))
 | .pick c x y=>some (az (ev ρ c) (ev ρ x) (ev ρ y))
 | .load t x=>match w7 P t with
  |some false=>some (ldV h (ev ρ x))
  |some true=>match dH P t with
   |some n=>some (aH n h (ev ρ x))
   |none=>none
  |none=>none
 | .nilCheck x=>some (aK (ev ρ x))
 | .binOp op t x y _=>match JD P t with
  | .o=>none
  | .p=>match OZ x||OZ y with
   |true=>some (ag .p op (ev ρ x) (ev ρ y))
   | false=>match P.underlying t with
    |some (.pointer e)=>match dH P e with
     |some (_+1)=>some (peV h op (ev ρ x) (ev ρ y))
     |_=>none
    |_=>none
  |e=>some (ag e op (ev ρ x) (ev ρ y))
 | .unOp op _ x=>some (unV op (ev ρ x))
 | .convert s d x=>match P.underlying s,P.underlying d with
  |some (.int _),some (.int k)=>some (dY k (ev ρ x))
  |some (.int _),some .string=>some (X3 (ev ρ x))
  |_,_=>none
 | .slice t x lo hi none=>match P.underlying t with
  |some (.slice e)=>match dH P e with
   |some n=>some (ue n (ev ρ x) (lo.map (ev ρ)) (hi.map (ev ρ)))
   |none=>none
  |some .string=>some (Yc (ev ρ x) (lo.map (ev ρ)) (hi.map (ev ρ)))
  |_=>none
 | .fieldAddr s x f=>match P.underlying s with
  | some (.struct fs)=>match fs[f]? with
   |some fd=>match dH P fd.type with
    |some 0=>none
    |some (_+1)=>some (am fd.offset (ev ρ x))
    |none=>none
   |none=>none
  |_=>none
 | .field t x f=>match P.underlying t with
  | some (.struct fs)=>match fs[f]? with
   |some fd=>match w7 P fd.type,dH P fd.type with
    |some b,some n=>some (mT b n fd.offset (ev ρ x))
    |_,_=>none
   |none=>none
  |_=>none
 | .indexAddr t x i=>match P.underlying t with
  |some (.slice e)=>match dH P e with
   |some n=>some (aR n (ev ρ x) (ev ρ i))
   |none=>none
  |some (.array len e)=>match dH P e with
   |some n=>some (Jr len n (ev ρ x) (ev ρ i))
   |none=>none
  |_=>none
 | .index t x i=>match P.underlying t with
  |some .string=>some (Yo (ev ρ x) (ev ρ i))
  |_=>none
 | .extract t i=>some (aF (ev ρ t) i)
 | .makeInterface t x=>match P.underlying t with
  |some (.interface _)=>none
  |some _=>some (some (.iface t (ev ρ x)))
  |none=>none
 | .makeFunc fn first captured=>some (some (.func fn (first.map (ev ρ)) (captured.map (ev ρ))))
 | .lookup t x k ok=>match P.underlying t with
  |some (.map kt et)=>match jO P kt,ud P et with
   |some kd,some z=>some (FT kd z ok h (ev ρ x) (ev ρ k))
   |_,_=>none
  |_=>none
 | .build t parts=>match ud P t,OA P t with
  |some z,some pl=>match yL pl ρ parts.toList with
   |some l=>some ((aE z.cells l).map .agg)
   |none=>none
  |_,_=>none
 | .call c=>match c.callee with
  | .builtin b=>roB P b (c.args.map (ev ρ)).toList c.argTypes.toList h
  |_=>none
 |_=>none
section
variable {P:Program}{ρ:Env}{w:World}
theorem bh {t:TypeId}{n:Nat}(h:dH P t=some n):(sizeOf t).run P w=.ok n w:=by
 unfold dH at h;cases hi:P.info? t with
 |none=>simp[hi]at h
 |some i=>simp[hi]at h;simp[sizeOf,typeInfo,hi,h]
theorem bO {t:TypeId}{b:Bool}(h:w7 P t=some b):(isAgg t).run P w=.ok b w:=by
 unfold w7 at h;cases hi:P.underlying t with
 |none=>simp[hi]at h
 |some d=>
  simp only[hi,Option.map_some,Option.some.injEq]at h;subst h;simp only[isAgg,Sem.run_bind,run_underlying hi,Result.andThen_ok];cases d<;>rfl
theorem aT {t:TypeId}{z:Value}(h:ud P t=some z):(zeroValue t).run P w=.ok z w:=by
 unfold ud at h;cases hi:P.info? t with
 |none=>simp[hi]at h
 |some i=>simp[hi]at h;simp[zeroValue,typeInfo,hi,h]
theorem Lw {a:Addr}{v:Value}(h:aB w.heap a=some v):(load a).run P w=.ok v w:=by
 have:w.cell? a=some v:=h;simp[this]
theorem tK (a:Addr):∀(n i:Nat) (acc:Array Value) (l:List Value),dy w.heap a i n=some l→(loadCellsFrom a i n acc).run P w=.ok (acc++l.toArray) w
 |0,i,acc,l,h=>by
  simp[dy]at h;subst h;simp[loadCellsFrom]
 | n+1,i,acc,l,h=>by
  unfold dy at h;cases h1:aB w.heap (a.add i)with
  |none=>simp[h1]at h
  | some v=>
   simp only[h1]at h;cases h2:dy w.heap a (i+1) n with
   |none=>simp[h2]at h
   |some l'=>
    simp only[h2,Option.some.injEq]at h;subst h;have:=tK a n (i+1) (acc.push v) l' h2;simp only[loadCellsFrom,Sem.run_bind,Lw h1,Result.andThen_ok,this]
    congr 1
    apply Array.ext';simp
theorem xt {t:TypeId}{a:Addr}{v:Value}(ht:w7 P t=some false)(h:aB w.heap a=some v):(loadVar t a).run P w=.ok v w:=by
 simp[loadVar,bO ht];simpa using Lw (P:=P) h
theorem xu {t:TypeId}{a:Addr}{n:Nat}{l:List Value}(ht:w7 P t=some true)(hs:dH P t=some n)(h:dy w.heap a 0 n=some l):
  (loadVar t a).run P w=.ok (.agg l.toArray) w:=by
 have:=tK (P:=P) a n 0 #[] l h;simp[loadVar,bO ht,bh hs,loadCells,this]
theorem Ew {t:TypeId}{b:Bool}{n off:Nat}{cs:Array Value}{v:Value}(ht:w7 P t=some b)(hs:dH P t=some n)(h:mT b n off (.agg cs)=some v):
  (part t cs off).run P w=.ok v w:=by
 simp only[mT]at h;simp only[part,Sem.run_bind,bO ht,Result.andThen_ok];cases b
 ·simp at h;simp[h]
 ·simp at h;simp[bh hs,h]
theorem kC {x:Value}{most n:Nat}(c:BoundsCode)(d:Nat)(h:bdV (some x) d most=some n):(Instr.sliceBound x most c).run P w=.ok n w:=by
 unfold bdV at h;cases x<;>simp at h
 rename_i k i;obtain⟨h1,rfl⟩:=h;simp[Instr.sliceBound,asIntOf,h1]
theorem ve {b:Bool}{len cap l h:Nat}{lo hi:Option Value}(hh:bdV hi len cap=some h)(hl:bdV lo 0 h=some l):
  (Instr.sliceBounds b len cap lo hi none).run P w=.ok (l,h,cap) w:=by
 unfold Instr.sliceBounds;cases hi with
 |none=>
  simp[bdV]at hh;subst hh;cases lo with
  |none=>simp[bdV]at hl;subst hl;simp
  |some x=>simp[kC _ _ hl]
 |some y=>
  cases lo with
  |none=>simp[bdV]at hl;subst hl;simp[kC _ _ hh]
  |some x=>simp[kC _ _ hh,kC _ _ hl]
theorem Uq {op:BinOp}{k:IntKind}{a b:Int}{v:Value}(h:D7 op k a b=some v)(hs:op≠ .shl∧op≠ .shr)(t:TypeId):
  (binOp op t (.int k a) (.int k b)).run P w=.ok v w:=by
 cases op<;>simp_all [D7,binOp,Op.intArith,Op.intDiv,Op.intBits,Op.intCmp]
theorem Sj [jA P]{t:TypeId}{d:Nat}{fs:Array Field}{e:SE}(hu:P.underlying t=some (.struct fs))(hd:d<5)(he:MA P d t=some e):
  P.stoodInHeld t=false∧P.eqGuardType P.depth t=false∧∀f∈fs.toList,f.name≠ "_" :=by
 have h1:Va P fs t=true:=by
  cases d with
  |zero=>cases he
  |succ d=>
   unfold MA at he;rw[hu]at he;simp only at he;split at he
   ·rename_i hb;exact hb
   ·cases he
 unfold Va at h1;simp only[Bool.and_eq_true,Bool.not_eq_true',List.all_eq_true,bne_iff_ne,ne_eq]at h1;exact⟨h1.1,h1.2.1,h1.2.2⟩
theorem Om:∀{d:Nat} {t:TypeId} {e:SE},MA P d t=some e→w7 P t=some (Hn e)
 |0,_,_,h=>by cases h
 | d+1,t,e,h=>by
  unfold MA at h;unfold w7;split at h
  ·rename_i hu;cases h;rw[hu];rfl
  ·rename_i hu;cases h;rw[hu];rfl
  ·rename_i hu;split at h
   ·split at h
    ·cases h;rw[hu];rfl
    ·cases h
   ·cases h
  ·cases h
theorem Hq [jA P]:∀(d:Nat),d<5→∀(k:Nat),d≤k→∀(t:TypeId) (e:SE) (x y:Value) (b:Bool),MA P d t=some e→Hm e x y=some b→(Op.equalIn k t x y).run P w=.ok b w
 |0,_,_,_,_,_,_,_,_,h,_=>by cases h
 | d + 1, hd,k,hk,t,e,x,y,b,h,hq=>by
  obtain⟨k,rfl⟩:∃m,k=m+1:=⟨k-1,by omega⟩
  have h':=h;unfold MA at h;split at h
  ·rename_i hu;cases h;unfold Hm at hq;split at hq<;>simp_all
   subst hq;exact run_equalIn_bool' _ _ _ _ _ hu
  ·rename_i hu;cases h;unfold Hm at hq;split at hq<;>simp_all
   obtain⟨rfl,rfl⟩:=hq;exact run_equalIn_int _ _ _ _ _ _ _ hu
  ·rename_i fs hu;split at h
   ·split at h
    case h_2=>cases h
    rename_i l hl;cases h;have hf:=Sj hu hd h';unfold Hm at hq;split at hq<;>try(simp at* ;done)
    rename_i fs' xs ys hfs;cases hfs;have hfo:P.fieldsOf t=fs:=by unfold Program.fieldsOf;rw[hu]
    rw[run_equalIn_struct w k t xs ys (by rw[hfo];exact hu) hf.1,hfo];have names:=hf.2.2
    clear hfo hu h' hf
    generalize fs.toList=gs at hl names;induction gs generalizing l b with
    |nil=>
     simp only[Ws,Option.some.injEq]at hl;subst hl;simp only[Dq,Option.some.injEq]at hq;subst hq;rfl
    | cons f gs ih=>
     unfold Ws at hl;split at hl
     ·cases hl
     ·rename_i e he;split at hl
      ·cases hl
      ·rename_i n hn;split at hl
       ·cases hl
       ·rename_i l' hl';cases hl;unfold Dq at hq;split at hq
        ·rename_i a b' ha hb;have pa:=Ew (P:=P) (w:=w) (Om he) hn (off:=f.offset) (cs:=xs) (v:=a) (by simpa[mT]using ha);have pb:=Ew (P:=P) (w:=w) (Om he) hn (off:=f.offset) (cs:=ys) (v:=b') (by simpa[mT]using hb);have nm:=names f (List.mem_cons_self ..);unfold Op.eqFields;rw[if_pos nm];simp only[Sem.run_bind,pa,pb,Result.andThen_ok];split at hq
         ·rename_i hs;rw[Hq d (by omega) k (by omega) _ _ _ _ _ he hs];simp only[Result.andThen_ok,Bool.not_true,Bool.false_eq_true,if_false];exact ih b l' hq hl' λg hg=>names g (List.mem_cons_of_mem _ hg)
         ·rename_i hs;cases hq;rw[Hq d (by omega) k (by omega) _ _ _ _ _ he hs];rfl
         ·cases hq
        ·cases hq
   ·cases h
  ·cases h
theorem LZ {e:EK}{x y:Value}{b:Bool}(hs:∀fs,e≠ .st fs)(h:eqV e x y=some b):(∀c,x≠ .agg c)∧x≠ .nilIface:=by
 unfold eqV at h;split at h<;>simp_all
theorem oW {op:BinOp}{t:TypeId}{x y:Value}(x' y':Operand)(h:(∀c,x≠ .agg c)∧x≠ .nilIface):(eqGuard op t x' y' x y).run P w=.ok () w:=by
 unfold eqGuard;cases op<;>(try rfl)<;>(simp only[Bool.not_true,Bool.false_eq_true,if_false];cases x<;>first|rfl|simp_all)
theorem Wu {e:EK}{t:TypeId}{x y:Value}{b:Bool}(he:JD P t=e)(ho:e≠ .o)(hs:∀fs,e≠ .st fs)(h:eqV e x y=some b):(Op.equal t x y).run P w=.ok b w:=by
 unfold JD at he;cases hu:P.underlying t with
 |none=>simp[hu]at he;exact absurd he.symm ho
 | some d=>
  simp only[hu]at he;unfold Op.equal Op.maxDepth;rw[show(10000:Nat)=9999+1 from rfl];unfold Op.equalIn;simp only[Sem.run_bind,run_underlying hu,Result.andThen_ok];cases d with
  |struct fs=>
   exfalso;simp only at he;split at he
   ·exact hs _ he.symm
   ·exact ho he.symm
  |_=>
   simp only at he;subst he
   first
   |exact absurd rfl ho
   |(unfold eqV at h;split at h<;>simp_all)
theorem FM {e:EK}{op:BinOp}{t:TypeId}{x y v:Value}{b:Bool}(he:JD P t=e)(ho:e≠ .o)(hs:∀fs,e≠ .st fs)(hq:eqV e x y=some b)
  (h:op=.eql∧v=.bool b∨op=.neq∧v=.bool !b):(binOp op t x y).run P w=.ok v w:=by
 have hr:=Wu (P:=P) (w:=w) he ho hs hq;unfold eqV at hq;rcases h with⟨rfl,rfl⟩|⟨rfl,rfl⟩
 all_goals(split at hq<;>simp_all [binOp])
theorem On [jA P]{l:List (Nat×Nat×SE)}{op:BinOp}{t:TypeId}{x y v:Value}{b:Bool}(he:JD P t=.st l)(hq:eqV (.st l) x y=some b)
  (h:op=.eql∧v=.bool b∨op=.neq∧v=.bool !b) (x' y':Operand):(do eqGuard op t x' y' x y;binOp op t x y:Sem Value).run P w=.ok v w:=by
 have hu:∃fs,P.underlying t=some (.struct fs)∧MA P 4 t=some (.st l):=by
  unfold JD at he;split at he<;>first|(cases he;done)|skip
  rename_i fs hu;split at he
  ·rename_i l' hl;cases he;exact⟨fs,hu,hl⟩
  ·cases he
 obtain⟨fs,hu,hl⟩:=hu;unfold eqV at hq;split at hq<;>first|(cases hq;done)|skip
 all_goals first|(rename_i xs ys h0;cases h0)|(rename_i h0 _ _;cases h0;done)|skip
 rename_i xs ys h0;have hse:Hm (.st l) (.agg xs) (.agg ys)=some b:=by unfold Hm;exact hq
 have hrun:=Hq (P:=P) (w:=w) 4 (by omega) 10000 (by omega) t _ _ _ _ hl hse;have hg:=(Sj hu (by omega) hl).2.1;simp only[Sem.run_bind,run_eqGuard_agg w op t x' y' xs ys hg,Result.andThen_ok];rcases h with⟨rfl,rfl⟩|⟨rfl,rfl⟩
 ·rw[run_eql_struct,hrun];rfl
 ·rw[run_neq_struct,hrun];rfl
theorem Hz [jA P]{e:EK}{op:BinOp}{t:TypeId}{x y v:Value}(he:JD P t=e)(ho:e≠ .o)(h:ag e op x y=some v)(x' y':Operand):
  (do eqGuard op t x' y' x y;binOp op t x y:Sem Value).run P w=.ok v w:=by
 unfold ag at h;split at h
 ·rename_i k a k' b;simp only[Sem.run_bind,oW x' y' (x:=.int k a) (by simp),Result.andThen_ok];split at h
  ·split at h
   ·cases h
   ·rename_i hb;simp only[Option.some.injEq]at h;subst h;simp[binOp,Op.shift,hb]
  ·split at h
   ·cases h
   ·rename_i hb;simp only[Option.some.injEq]at h;subst h;simp[binOp,Op.shift,hb]
  ·rename_i h1 h2;split at h
   ·rename_i hk;subst hk;exact Uq h ⟨h1,h2⟩ t
   ·cases h
 ·rename_i a b;simp only[Sem.run_bind,oW x' y' (x:=.string a) (by simp),Result.andThen_ok];unfold strV at h;cases op<;>simp_all [binOp,Op.stringOp]
 ·split at h
  ·cases hq:eqV e x y with
   |none=>simp[hq]at h
   | some b=>
    simp[hq]at h;subst h;by_cases hst:∃fs,e=.st fs
    ·obtain⟨l,rfl⟩:=hst;exact On he hq (.inl ⟨rfl,rfl⟩) x' y'
    ·have hs:∀fs,e≠ .st fs:=λfs h=>hst ⟨fs,h⟩
     simp only[Sem.run_bind,oW x' y' (LZ hs hq),Result.andThen_ok];exact FM he ho hs hq (.inl ⟨rfl,rfl⟩)
  ·cases hq:eqV e x y with
   |none=>simp[hq]at h
   | some b=>
    simp[hq]at h;subst h;by_cases hst:∃fs,e=.st fs
    ·obtain⟨l,rfl⟩:=hst;exact On he hq (.inr ⟨rfl,rfl⟩) x' y'
    ·have hs:∀fs,e≠ .st fs:=λfs h=>hst ⟨fs,h⟩
     simp only[Sem.run_bind,oW x' y' (LZ hs hq),Result.andThen_ok];exact FM he ho hs hq (.inr ⟨rfl,rfl⟩)
  ·cases h
theorem jL {e:Bool}{kt:TypeId}{kd:TypeDesc}{k:Value}(hk:jO P kt=some kd)(n:Nat):(Instr.checkKey e (n+1) kt k).run P w=.ok () w:=by
 unfold jO at hk;cases hu:P.underlying kt with
 |none=>simp[hu]at hk
 |some d=>
  simp only[hu]at hk;simp only[Instr.checkKey,Sem.run_bind,run_underlying hu,Result.andThen_ok];cases d<;>simp at hk<;>rfl
theorem MB {P:Program}{kt:TypeId}{kd:TypeDesc}(hk:jO P kt=some kd):P.underlying kt=some kd:=by
 unfold jO at hk;cases hu:P.underlying kt with
 |none=>simp[hu]at hk
 |some d=>cases d<;>simp_all
theorem iu {kt:TypeId}{kd:TypeDesc}{k:Value}{es:List MapEntry}{r:Option (Nat×Value)}(hk:jO P kt=some kd)(h:Instr.findNow kd k es 0=some r):
  (Instr.findKey kt k es).run P w=.ok r w:=by
 simp[Instr.findKey,run_underlying (MB hk),h]
theorem iD {m:Nat}{es:Array MapEntry}{c:Nat}(h:w.heap[m]? =some (.map es c)):(getObj m).run P w=.ok (.map es c) w:=by
 simp[getObj,Sem.run,h]
theorem S7 {t kt et:TypeId} {kd:TypeDesc} {z:Value} {ok:Bool} {m k v:Value} (ht:P.underlying t=some (.map kt et)) (hk:jO P kt=some kd) (hz:ud P et=some z)
  (h:FT kd z ok w.heap m k=some v):(Instr.lookup t m k ok).run P w=.ok v w:=by
 unfold FT at h;split at h
 ·simp only[Option.some.injEq]at h;subst h;simp only[Instr.lookup,Sem.run_bind,run_underlying ht,Result.andThen_ok,Sem.run_pure];rw[show(10000:Nat)=9999+1 from rfl,jL hk];simp only[Result.andThen_ok];rw[iu hk (r:=none) (by simp[Instr.findNow])];simp only[Result.andThen_ok,Sem.run_bind,aT hz,Sem.run_pure];cases ok<;>rfl
 ·rename_i hm;cases hq:Pa w.heap m with
  |none=>simp[hq]at h
  | some p=>
   obtain⟨es,c⟩:=p;simp only[hq]at h;unfold Pa at hq;cases m with
   | map r=>
    cases r with
    |none=>simp at hq
    | some r=>
     simp only at hq;cases hh:w.heap[r]? with
     |none=>simp[hh]at hq
     | some o=>
      cases o<;>simp[hh]at hq
      obtain⟨rfl,rfl⟩:=hq;simp only[Instr.lookup,Sem.run_bind,run_underlying ht,Result.andThen_ok,iD hh,Sem.run_pure];rw[show(10000:Nat)=9999+1 from rfl,jL hk];simp only[Result.andThen_ok];cases hf:Instr.findNow kd k _ 0 with
      |none=>rw[hf]at h;cases h
      | some q=>
       rw[hf]at h;rw[iu hk hf];cases q with
       |none=>
        simp only[Option.some.injEq]at h;subst h;simp only[Result.andThen_ok,Sem.run_bind,aT hz,Sem.run_pure];cases ok<;>rfl
       |some q=>
        obtain⟨i,u⟩:=q;simp only[Option.some.injEq]at h;subst h;simp only[Result.andThen_ok];cases ok<;>rfl
   |_=>simp at hq
theorem Nv {pl:Nat→Option (Nat×Nat)}{ρ:Env}:∀(ps:List (Nat×Operand)) (l:List (Nat×Nat×Value)) (cells out:Array Value),yL pl ρ ps=some l→aE cells l=some out→
  Instr.fill pl cells (ps.map λ(i,x)=>(i,ev ρ x))=some out
 | [],l,cells,out,h,h'=>by simp[yL]at h;subst h;simpa[aE,Instr.fill]using h'
 | (i,x)::ps,l,cells,out,h,h'=>by
  unfold yL at h;cases hp:pl i with
  |none=>simp[hp]at h
  | some p=>
   obtain⟨o,s⟩:=p;simp only[hp]at h;cases hq:yL pl ρ ps with
   |none=>simp[hq]at h
   | some l'=>
    simp only[hq,Option.some.injEq]at h;subst h;simp only[aE]at h';simp only[List.map_cons,Instr.fill,hp];split at h'
    ·cases h'
    ·rename_i hc;rw[if_neg hc];exact Nv ps l' _ out hq h'
theorem Ot {s f off:Nat}{x v:Value}{fs:Array Field}{fd:Field}{n:Nat}(hs:P.underlying s=some (.struct fs))(hf:fs[f]? =some fd)(hn:dH P fd.type=some (n+1))(ho:fd.offset=off)
  (h:am off x=some v):(Instr.fieldAt s x f).run P w=.ok v w:=by
 unfold am at h;split at h
 ·rename_i a;simp only[Option.some.injEq]at h;subst h;subst ho;simp[Instr.fieldAt,run_underlying hs,hf,Instr.sureAddr,fieldPlace,bh hn]
 ·cases h
theorem Hs {x y v:Value}(h:iG x y=some v):(Builtin.max2 x y).run P w=.ok v w:=by
 unfold iG at h;split at h
 ·simp only[Option.some.injEq]at h;subst h;simp[Builtin.max2]
 ·cases h
theorem Hr {x y v:Value}(h:pA x y=some v):(Builtin.min2 x y).run P w=.ok v w:=by
 unfold pA at h;split at h
 ·simp only[Option.some.injEq]at h;subst h;simp[Builtin.min2]
 ·cases h
theorem Ds {t e n:Nat}{x v:Value}{lo hi:Option Value}(ht:P.underlying t=some (.slice e))(hn:dH P e=some n)(h:ue n x lo hi=some v):
  (Instr.sliceAt t x lo hi none).run P w=.ok v w:=by
 unfold ue at h;split at h
 ·rename_i a len cap;split at h
  ·rename_i hh h1;split at h
   ·rename_i l h2;simp only[Option.some.injEq]at h;subst h;simp[Instr.sliceAt,Instr.slice,run_underlying ht,ve h1 h2,bh hn]
   ·cases h
  ·cases h
 ·cases h
theorem BC {t:Nat}{x v:Value}{lo hi:Option Value}(ht:P.underlying t=some .string)(h:Yc x lo hi=some v):
  (Instr.sliceAt t x lo hi none).run P w=.ok v w:=by
 unfold Yc at h;split at h
 ·rename_i s;split at h
  ·rename_i hh h1;split at h
   ·rename_i l h2;simp only[Option.some.injEq]at h;subst h;simp[Instr.sliceAt,Instr.slice,run_underlying ht,ve h1 h2]
   ·cases h
  ·cases h
 ·cases h
theorem Du {t e n:Nat}{x i v:Value}(ht:P.underlying t=some (.slice e))(hn:dH P e=some n)(h:aR n x i=some v):
  (Instr.indexAt t x i).run P w=.ok v w:=by
 unfold aR at h;split at h
 ·rename_i a len _ k j;split at h
  ·rename_i hb;simp only[Option.some.injEq]at h;subst h;simp[Instr.indexAt,asIntOf,run_underlying ht,hb,bh hn]
  ·cases h
 ·cases h
theorem Dv {t e n len:Nat}{x i v:Value}(ht:P.underlying t=some (.array len e))(hn:dH P e=some n)(h:Jr len n x i=some v):
  (Instr.indexAt t x i).run P w=.ok v w:=by
 unfold Jr at h;split at h
 ·rename_i a k j;split at h
  ·rename_i hb;simp only[Option.some.injEq]at h;subst h;simp[Instr.indexAt,asIntOf,run_underlying ht,Instr.sureAddr,hb,bh hn]
  ·cases h
 ·cases h
theorem Ey {t:Nat}{x i v:Value}(ht:P.underlying t=some .string)(h:Yo x i=some v):(Instr.index t x i).run P w=.ok v w:=by
 unfold Yo at h;split at h
 ·rename_i s k j;cases hb:(if 0≤j then s[j.toNat]? else none)with
  |none=>simp[hb]at h
  |some b=>
   simp[hb]at h;subst h;simp[Instr.index,asIntOf,run_underlying ht,hb]
 ·cases h
theorem Dt:∀(fs:List Field) (l:List (Nat×Nat)),tN P fs=some l→(fs.mapM λf=>do pure (f.offset,←sizeOf f.type):Sem (List (Nat×Nat))).run P w=.ok l w
 | [],l,h=>by simp[tN]at h;subst h;rfl
 | f::fs,l,h=>by
  unfold tN at h;cases h1:dH P f.type with
  |none=>simp[h1]at h
  | some s=>
   simp only[h1]at h;cases h2:tN P fs with
   |none=>simp[h2]at h
   |some l'=>
    simp only[h2,Option.some.injEq]at h;subst h;simp only[List.mapM_cons,Sem.run_bind,bh h1,Result.andThen_ok,Sem.run_pure,Dt fs l' h2]
theorem Oo {fs:Array Field}{l:List (Nat×Nat)}(h:tN P fs.toList=some l):(fs.mapM λf=>do pure (f.offset,←sizeOf f.type):Sem (Array (Nat×Nat))).run P w=.ok l.toArray w:=by
 rw[Array.mapM_eq_mapM_toList,Sem.run_map,Dt fs.toList l h];rfl
theorem Ta {b:Builtin}{args:List Value}{ts:Array TypeId}{ty:TypeId}{cs:Array Bool}{v:Value}(hr:roB P b args ts.toList w.heap=some (some v)):(builtin b ts ty cs args.toArray).run P w=.ok (.value v) w:=by
 unfold roB at hr;split at hr
 ·split at hr
  ·rename_i x t hts;obtain rfl:ts=#[t]:=by apply Array.ext';simpa using hts
   split at hr
   ·rename_i e ht;simp only[Option.some.injEq]at hr;unfold aq at hr;split at hr
    ·simp only[Option.some.injEq]at hr;subst hr;simp[builtin,Builtin.len_,run_underlying ht,goInt]
    ·cases hr
   ·rename_i ht;simp only[Option.some.injEq]at hr;unfold Fa at hr;split at hr
    ·simp only[Option.some.injEq]at hr;subst hr;simp[builtin,Builtin.len_,run_underlying ht,goInt]
    ·cases hr
   ·rename_i ht;simp only[Option.some.injEq]at hr;unfold LM at hr;split at hr
    ·simp at hr;subst hr;simp[builtin,Builtin.len_,run_underlying ht,goInt]
    ·split at hr
     ·rename_i hm;simp at hr;subst hr;simp[builtin,Builtin.len_,run_underlying ht,goInt,iD hm]
     ·cases hr
    ·cases hr
   ·cases hr
  ·cases hr
 ·split at hr
  ·simp only[Option.some.injEq]at hr;simp[builtin,Builtin.max_,Hs hr]
  ·rename_i x y z;simp only[Option.some.injEq]at hr;unfold XZ at hr;split at hr
   ·rename_i a ha;simp[builtin,Builtin.max_,Hs ha,Hs hr]
   ·cases hr
  ·cases hr
 ·split at hr
  ·simp only[Option.some.injEq]at hr;simp[builtin,Builtin.min_,Hr hr]
  ·rename_i x y z;simp only[Option.some.injEq]at hr;unfold XY at hr;split at hr
   ·rename_i a ha;simp[builtin,Builtin.min_,Hr ha,Hr hr]
   ·cases hr
  ·cases hr
 ·cases hr
theorem FP {h:af}{b:Nat}(H:lM h b=true):∃c t,h[b]? =some (.cells c t (0,0)):=by
 unfold lM at H;split at H
 ·rename_i c t hb;exact⟨c,t,hb⟩
 ·cases H
theorem Wt [jA P]{op:BinOp}{t e:TypeId}{n:Nat}{x y v:Value}(he:JD P t=.p)(hu:P.underlying t=some (.pointer e))(hn:dH P e=some (n+1))(h:peV w.heap op x y=some v)(x' y':Operand):
  (do eqGuard op t x' y' x y;binOp op t x y:Sem Value).run P w=.ok v w:=by
 unfold peV at h;split at h
 ·rename_i a b;have hi:∃j,P.info? e=some j∧j.size≠0:=by
   unfold dH at hn;cases hj:P.info? e with
   |none=>rw[hj]at hn;cases hn
   |some j=>rw[hj]at hn;simp only[Option.map_some,Option.some.injEq]at hn;exact⟨j,rfl,by omega⟩
  obtain⟨j,hj,hsz⟩:=hi;have same:∀d:Nat,(Op.equalIn (d+1) t (.pointer (some a)) (.pointer (some a))).run P w=.ok true w:=λd=>by
   simp[Op.equalIn,run_underlying hu,sizeOf,typeInfo,hj,run_sameAddr_same]
  have other:∀(hne:a≠b),(lM w.heap a.block&&lM w.heap b.block)=true→∀d:Nat,(Op.equalIn (d+1) t (.pointer (some a)) (.pointer (some b))).run P w=.ok false w:=λhne hpl d=>by
   rw[Bool.and_eq_true]at hpl;obtain⟨ca,ta,ha⟩:=FP hpl.1;obtain⟨cb,tb,hb⟩:=FP hpl.2;simp[Op.equalIn,run_underlying hu,sizeOf,typeInfo,hj,hsz,run_sameAddr_other w hne ha hb]
  simp only[Sem.run_bind,oW x' y' (show(∀c,Value.pointer (some a)≠ .agg c)∧Value.pointer (some a)≠ .nilIface from⟨by simp,by simp⟩),Result.andThen_ok];split at h
  ·split at h
   ·rename_i hab;subst hab;cases h;simp only[binOp];simp[Op.equal,Op.maxDepth,same 9999]
   ·rename_i hab;split at h
    ·rename_i hpl;cases h;simp only[binOp];simp[Op.equal,Op.maxDepth,other hab hpl 9999]
    ·cases h
  ·split at h
   ·rename_i hab;subst hab;cases h;simp only[binOp];simp[Op.equal,Op.maxDepth,same 9999]
   ·rename_i hab;split at h
    ·rename_i hpl;cases h;simp only[binOp];simp[Op.equal,Op.maxDepth,other hab hpl 9999]
    ·cases h
  ·cases h
 ·exact Hz (P:=P) (w:=w) (t:=t) he (by intro h;cases h) h x' y'
theorem vh [jA P] {op:Op} {r:Option Value} {v:Value} (o:Oper) (ho:o.op=op) (hr:roV P ρ op w.heap=some r) (hv:r=some v):(execOp (ev ρ) o).run P w=.ok (.value v) w:=by
 subst hv;unfold roV at hr;split at hr
 case h_1|h_2=>simp at hr;subst hr;simp[execOp,ho]
 case h_3=>
  simp at hr;unfold az at hr;split at hr<;>simp at hr
  rename_i c b hc;subst hr;simp only[execOp,ho,hc,asBool];cases b<;>simp
 case h_4 t x=>
  split at hr
  ·rename_i ht;simp only[Option.some.injEq]at hr;unfold ldV at hr;split at hr
   ·rename_i a hx;simp[execOp,ho,Instr.loadAt,hx,Instr.sureAddr,xt ht hr]
   ·cases hr
  ·rename_i ht;split at hr
   ·rename_i n hn;simp only[Option.some.injEq]at hr;unfold aH at hr;split at hr
    ·rename_i a hx;cases hl:dy w.heap a 0 n with
     |none=>simp[hl]at hr
     |some l=>
      simp[hl]at hr;subst hr;simp[execOp,ho,Instr.loadAt,hx,Instr.sureAddr,xu ht hn hl]
    ·cases hr
   ·cases hr
  ·cases hr
 case h_5 x=>
  simp only[Option.some.injEq]at hr;unfold aK at hr;simp only[execOp,ho];split at hr
  ·cases hr
  ·cases hr
  ·cases hr
  ·cases hr
  ·simp only[Option.some.injEq]at hr;subst hr;split<;>simp_all
 case h_6 op t x y _=>
  split at hr
  ·cases hr
  ·rename_i hp;split at hr
   ·simp only[Option.some.injEq]at hr;have:=Hz (P:=P) (w:=w) (t:=t) hp (by intro h;cases h) hr x y;simp only[execOp,ho];simp only[Sem.run_bind]at this ⊢;rw[this];rfl
   ·split at hr
    ·rename_i e hu;split at hr
     ·rename_i n hn;simp only[Option.some.injEq]at hr;have:=Wt (P:=P) (w:=w) hp hu hn hr x y;simp only[execOp,ho];simp only[Sem.run_bind]at this ⊢;rw[this];rfl
     ·cases hr
    ·cases hr
  ·rename_i e he _;simp only[Option.some.injEq]at hr;have:=Hz (P:=P) (w:=w) (t:=t) rfl he hr x y;simp only[execOp,ho];simp only[Sem.run_bind]at this ⊢;rw[this];rfl
 case h_7 op t x=>
  simp only[Option.some.injEq]at hr;unfold unV at hr;split at hr<;>simp at hr
  all_goals(rename_i hx;subst hr;simp[execOp,ho,hx,Op.unary,Op.intArith,Op.intBits])
 case h_8 s d x=>
  split at hr
  ·rename_i h1 h2;simp only[Option.some.injEq]at hr;unfold dY at hr;split at hr<;>simp at hr
   rename_i hx;subst hr;simp[execOp,ho,hx,convert,run_underlying h1,run_underlying h2,Conv.intToInt]
  ·rename_i h1 h2;simp only[Option.some.injEq]at hr;unfold X3 at hr;split at hr<;>simp at hr
   rename_i hx;subst hr;simp[execOp,ho,hx,convert,run_underlying h1,run_underlying h2,Conv.intToString]
  ·cases hr
 case h_9 t x lo hi=>
  simp only[execOp,ho];split at hr
  ·rename_i e ht;split at hr
   ·rename_i n hn;simp only[Option.some.injEq]at hr;have:=Ds (P:=P) (w:=w) ht hn hr;simp[this]
   ·cases hr
  ·rename_i ht;simp only[Option.some.injEq]at hr;have:=BC (P:=P) (w:=w) ht hr;simp[this]
  ·cases hr
 case h_10 s x f=>
  split at hr
  ·rename_i fs hs;split at hr
   ·rename_i fd hf;split at hr
    ·cases hr
    ·rename_i n hn;simp only[Option.some.injEq]at hr;have:=Ot (P:=P) (w:=w) hs hf hn rfl hr;simp[execOp,ho,this]
    ·cases hr
   ·cases hr
  ·cases hr
 case h_11 t x f=>
  split at hr
  ·rename_i fs hs;split at hr
   ·rename_i fd hf;split at hr
    ·rename_i b n hb hn;simp only[Option.some.injEq]at hr;have hr':=hr;unfold mT at hr;split at hr
     ·rename_i cs hx;rw[hx]at hr';have:=Ew (P:=P) (w:=w) hb hn hr';simp[execOp,ho,hx,Instr.field,run_underlying hs,hf,asAgg,this]
     ·cases hr
    ·cases hr
   ·cases hr
  ·cases hr
 case h_12 t x i=>
  simp only[execOp,ho];split at hr
  ·rename_i e ht;split at hr
   ·rename_i n hn;simp only[Option.some.injEq]at hr;simp[Du (P:=P) (w:=w) ht hn hr]
   ·cases hr
  ·rename_i len e ht;split at hr
   ·rename_i n hn;simp only[Option.some.injEq]at hr;simp[Dv (P:=P) (w:=w) ht hn hr]
   ·cases hr
  ·cases hr
 case h_13 t x i=>
  split at hr
  ·rename_i ht;simp only[Option.some.injEq]at hr;simp[execOp,ho,Ey (P:=P) (w:=w) ht hr]
  ·cases hr
 case h_14 t i=>
  simp only[Option.some.injEq]at hr;unfold aF at hr;split at hr
  ·rename_i vs hx;simp[execOp,ho,hx,Instr.extract,hr]
  ·cases hr
 case h_15 t x=>
  split at hr
  ·cases hr
  ·rename_i d hd _;simp only[Option.some.injEq]at hr;subst hr;simp only[execOp,ho,Instr.makeInterface,Sem.run_bind];rename_i hq;simp only[run_underlying hq,Result.andThen_ok];rfl
  ·cases hr
 case h_16 fn first captured=>
  simp only[Option.some.injEq]at hr;subst hr;simp[execOp,ho,Instr.makeFunc]
 case h_17 t x k ok=>
  split at hr
  ·rename_i kt et ht;split at hr
   ·rename_i kd z hk hz;simp only[Option.some.injEq]at hr;simp[execOp,ho,S7 (P:=P) (w:=w) ht hk hz hr]
   ·cases hr
  ·cases hr
 case h_18 t parts=>
  split at hr
  ·rename_i z pl hz hp;split at hr
   ·rename_i l hl;simp only[Option.some.injEq]at hr;cases hf:aE z.cells l with
    |none=>simp[hf]at hr
    | some cs=>
     simp[hf]at hr;subst hr;have hfill:=Nv _ _ _ _ hl hf;rw[←Array.toList_map]at hfill;unfold OA at hp;simp only[execOp,ho,Instr.build,Sem.run_bind,aT hz,Result.andThen_ok,Sem.run_pure];cases hu:P.underlying t with
     |none=>simp[hu]at hp
     | some d=>
      rw[run_underlying hu];simp only[hu]at hp;cases d with
      | struct fs=>
       simp only at hp;cases hq:tN P fs.toList with
       |none=>simp[hq]at hp
       |some l'=>
        simp only[hq,Option.map_some,Option.some.injEq]at hp;subst hp;simp only[Result.andThen_ok,Sem.run_bind,Oo hq];have e:(λi:Nat=>(l'.toArray)[i]?)=λi:Nat=>l'[i]? :=by funext i;simp
        rw[e,hfill];rfl
      | array n e=>
       simp only at hp;cases hq:dH P e with
       |none=>simp[hq]at hp
       |some s=>
        simp only[hq,Option.map_some,Option.some.injEq]at hp;subst hp;simp only[Result.andThen_ok,Sem.run_bind,bh hq];rw[hfill];rfl
      |_=>simp at hp
   ·cases hr
  ·cases hr
 case h_19 c=>
  split at hr
  ·rename_i b hb;have:=Ta (P:=P) (w:=w) (ty:=o.type) (cs:=c.args.map λ| .const _=>true|_=>false) hr;rw[Array.toArray_toList]at this;simp only[execOp,ho,resolve,hb,Sem.run_bind,Sem.run_pure,Result.andThen_ok,invoke];exact this
  ·cases hr
 case h_20=>cases hr
end
def Jz:ll:=λ_ _=>False
def aP (c:Array Value)(t:TypeId):ll:=λh K=>K (.pointer (some ⟨h.size,0,none⟩)) (h.push (.cells c t))
def stK (n:Nat)(x v:Value):ll:=λh K=>
 match x with
 | .pointer (some a)=>if v.cells.size=n then(match iO h a 0 v.cells.toList with|some h'=>K undef h'|none=>False)else False
 |_=>False
def gT (z:Value)(n:Nat):Array Value:=(Array.range n).map (λi=>z.cells[i%z.cells.size]!)
def cF (c:Array Value)(e:TypeId)(len:Nat)(l:List (Nat×Nat×Value)):ll:=λh K=>
 match aE c l with
 |some c'=>K (.slice (some ⟨h.size,0,none⟩) len len) (h.push (.cells c' e))
 |none=>False
def mkK (z:Value)(e:TypeId)(size bytes:Nat)(l c:Value):ll:=λh K=>
 match l,c with
 | .int _ l,.int _ c=>
  0≤IntKind.i64.wrap l∧IntKind.i64.wrap l≤IntKind.i64.wrap c∧(bytes:Int)*IntKind.i64.wrap c≤2^48∧
   K (.slice (some ⟨h.size,0,none⟩) (IntKind.i64.wrap l).toNat (IntKind.i64.wrap c).toNat) (h.push (.cells (gT z ((IntKind.i64.wrap c).toNat*size)) e))
 |_,_=>False
def R9:ll:=λh K=>K (.map (some h.size)) (h.push (.map #[] 0))
def dQ (h:af)(r:Nat)(o:Obj):af:=h.setIfInBounds r o
def qN (kd:TypeDesc)(m k v:Value):ll:=λh K=>
 match m with
 | .map (some r)=>match h[r]? with
  |some (.map es c)=>match Instr.findNow kd k es.toList 0 with
   |some (some (i,_))=>Instr.sameBits 10000 (((es[i]?).map (·.key)).getD k) k=true∧K undef (dQ h r (.map (es.modify i λe=>{e with key:=k,val:=v}) c))
   |some none=>K undef (dQ h r (.map (es.push {key:=k,val:=v,born:=c}) (c+1)))
   |none=>False
  |_=>False
 |_=>False
def EV (kd:TypeDesc)(z:Value)(m k:Value):ll:=λh K=>
 match m with
 | .map (some r)=>match h[r]? with
  |some (.map es c)=>match Instr.findNow kd k es.toList 0 with
   | some (some (i,v))=>Instr.sameBits 10000 (((es[i]?).map (·.key)).getD k) k=true∧
     K (.tuple #[v,.int .i64 (((es[i]?).map λe=>(e.born:Int)).getD 0)]) (dQ h r (.map (es.modify i λe=>{e with key:=k}) c))
   |some none=>K (.tuple #[z,.int .i64 (c:Nat)]) (dQ h r (.map (es.push {key:=k,val:=z,born:=c}) (c+1)))
   |none=>False
  |_=>False
 |_=>False
def JC (m s v:Value):ll:=λh K=>
 match m,s with
 | .map (some r),.int _ n=>match h[r]? with
  |some (.map es c)=>match es.findIdx? (λe=>(e.born:Int)==n)with
   |some i=>K undef (dQ h r (.map (es.modify i λe=>{e with val:=v}) c))
   |none=>False
  |_=>False
 |_,_=>False
def lS (kd:TypeDesc)(m k:Value):ll:=λh K=>
 match m with
 | .map none=>K (.tuple #[]) h
 | .map (some r)=>match h[r]? with
  |some (.map es c)=>match Instr.findNow kd k es.toList 0 with
   |some (some (i,_))=>K (.tuple #[]) (dQ h r (.map (es.eraseIdxIfInBounds i) c))
   |some none=>K (.tuple #[]) (dQ h r (.map es c))
   |none=>False
  |_=>False
 |_=>False
def EB (m:Value):ll:=λh K=>
 match m with
 | .map none=>K (.pointer (some ⟨h.size,0,none⟩)) (h.push (.mapIter none 0 #[] 0))
 | .map (some r)=>match h[r]? with
  |some (.map _ c)=>K (.pointer (some ⟨h.size,0,none⟩)) (h.push (.mapIter (some r) c #[] c))
  |_=>False
 |_=>False
def Ad (s:Value):ll:=λh K=>
 match s with
 | .string s=>K (.pointer (some ⟨h.size,0,none⟩)) (h.push (.stringIter s 0))
 |_=>False
def DS (it:Value):ll:=λh K=>
 match it with
 | .pointer (some ⟨r,0,_⟩)=>match h[r]? with
  |some (.stringIter s pos)=>
   if pos<s.size then K (.tuple #[.bool true,.int .i64 (pos:Nat),.int .i32 (Utf8.decode s pos).1]) (dQ h r (.stringIter s (pos+(Utf8.decode s pos).2)))
   else K (.tuple #[.bool false]) h
  |_=>False
 |_=>False
def IT (it:Value):ll:=λh K=>
 match it with
 | .pointer (some ⟨r,0,_⟩)=>match h[r]? with
  |some (.mapIter none _ _ _)=>K (.tuple #[.bool false]) h
  | some (.mapIter (some m) since seen last)=>match h[m]? with
   |some (.map es clock)=>
    (!seen.isEmpty&& !es.isEmpty&&es.all (·.born≥last))=false∧
    (∀e∈es,seen.contains e.born=false→K (.tuple #[.bool true,e.key,e.val]) (dQ h r (.mapIter (some m) since (seen.push e.born) clock)))∧
    ((∀e∈es,seen.contains e.born=false→since≤e.born)→K (.tuple #[.bool false]) h)
   |_=>False
  |_=>False
 |_=>False
def Rb (it:Value):ll:=λh K=>
 match it with
 | .pointer (some ⟨r,0,_⟩)=>match h[r]? with
  | some (.mapIter (some m) _ seen stepped)=>match h[m]? with
   | some (.map es clock)=>if clock≠stepped then False else match seen.back? with
    |some stamp=>match es.find? (·.born==stamp)with
     |some e=>K (.tuple #[e.key,e.val]) h
     |none=>False
    |none=>False
   |_=>False
  |_=>False
 |_=>False
def sW (size:Nat)(h:af)(n:Nat)(x:Value):Option (List Value):=
 match x with
 | .slice (some a) _ _=>dy h a 0 (n*size)
 | .slice none _ _=>some []
 | .string s=>some ((s.extract 0 n).data.map λb=>Value.int .u8 b.toNat).toList
 |_=>none
def Lg (x:Value):Option Nat:=
 match x with
 | .slice _ n _=>some n
 | .string s=>some s.size
 |_=>none
def cG (z:Value) (e:TypeId) (size bytes:Nat) (s x:Value):ll:=λh K=>
 match s,Lg x with
 | .slice base sLen sCap,some n=>
  if sLen+n≤sCap then
   match sW size h n x with
   | some news=>match base with
    |some a=>match iO h (a.add (sLen*size)) 0 news with
     |some h'=>K (.slice base (sLen+n) sCap) h'
     |none=>False
    |none=>K (.slice none (sLen+n) sCap) h
   |none=>False
  else
   ((sLen+n:Nat):Int)≤IntKind.i64.max∧Builtin.nextslicecap (sLen+n) sCap*bytes≤2^48∧
   match sW size h sLen s,sW size h n x with
   | some olds,some news=>∀newCap,sLen+n≤newCap→newCap≤2^63-1→
     K (.slice (some ⟨h.size,0,none⟩) (sLen+n) newCap) (h.push (.cells (olds.toArray++news.toArray++Builtin.zeroCells z.cells (newCap-(sLen+n))) e))
   |_,_=>False
 |_,_=>False
def Cn (size:Nat) (d x:Value):ll:=λh K=>
 match d,Lg x with
 | .slice base dLen _,some n=>
  match sW size h (Nat.min n dLen) x with
  | some news=>match base with
   |some a=>match iO h a 0 news with
    |some h'=>K (.int .i64 (Nat.min n dLen:Nat)) h'
    |none=>False
   |none=>K (.int .i64 (Nat.min n dLen:Nat)) h
  |none=>False
 |_,_=>False
def pg (P:Program)(f:FuncId):Bool:=
 match P.funcs[f]? with
 |some fn=> !(fn.name== "runtime.NumGoroutine")&&fn.body.isSome
 |none=>false
def X9 (P:Program)(f:FuncId)(args:Array Value):ll:=λh K=>
 pg P f=true∧∀w:World,w.heap=h→Calls P f args w λe w'=>∃v,e=.returned v∧cW w w'∧K v w'.heap
def ae (P:Program)(f:FuncId)(args:Array Value):ll:=λh K=>
 X9 P f args h K∨∀w:World,w.heap=h→∃v w',(callFunc f args).run P w=.ok (.value v) w'∧cW w w'∧K v w'.heap
theorem ae.mono {P:Program}{f:FuncId}{args:Array Value}{h:af}{K K':Value→af→Prop}(hc:ae P f args h K)(hk:∀v h',K v h'→K' v h'):ae P f args h K':=
 hc.imp (λhc=>⟨hc.1,λw hw=>(hc.2 w hw).mono λ_ _ ⟨v,he,hs,hK⟩=>⟨v,he,hs,hk _ _ hK⟩⟩)
  λhc w hw=>let⟨v,w',a,b,c⟩:=hc w hw;⟨v,w',a,b,hk _ _ c⟩
theorem ae.ofCalls {P:Program}{f:FuncId}{args:Array Value}{h:af}{K:Value→af→Prop}(hc:pg P f=true)
  (H:∀w:World,w.heap=h→Calls P f args w λe w'=>∃v,e=.returned v∧cW w w'∧K v w'.heap):ae P f args h K:=.inl ⟨hc,H⟩
theorem ae.ofRun {P:Program}{f:FuncId}{args:Array Value}{h:af}{K:Value→af→Prop}
  (H:∀w:World,w.heap=h→∃v w',(callFunc f args).run P w=.ok (.value v) w'∧cW w w'∧K v w'.heap):ae P f args h K:=.inr H
def clK (P:Program)(f:Value)(args:Array Value)(h:af)(K:Value→af→Prop):Prop:=
 match f with
 | .func (.func f) first captured=>ae P f (first++args++captured) h K
 |_=>False
def YC (P:Program) (b:Builtin) (args:List Value) (ts:List TypeId) (h:af) (K:Value→af→Prop):Prop:=
 match b with
 | .append=>match args,ts with
  | [s,x],[t,u]=>match P.underlying t,P.underlying u with
   |some (.slice e),some (.slice _)|some (.slice e),some .string=>match(P.info? e).bind λi=>i.zero.map λz=>(z,i.size,i.bytes)with
    |some (z,size,bytes)=>cG z e size bytes s x h K
    |none=>False
   |_,_=>False
  |_,_=>False
 | .copy=>match args,ts with
  | [d,x],t::_=>match P.underlying t with
   |some (.slice e)=>match dH P e with
    |some size=>Cn size d x h K
    |none=>False
   |_=>False
  |_,_=>False
 | .delete=>match args,ts with
  | [m,k],t::_=>match P.underlying t with
   |some (.map kt _)=>match jO P kt with
    |some kd=>lS kd m k h K
    |none=>False
   |_=>False
  |_,_=>False
 |_=>False
def Kc:List Value→Option (List UInt8)
 | []=>some []
 | v::r=>match v with
  | .int .u8 n=>match Kc r with
   |some l=>some (UInt8.ofNat n.toNat::l)
   |none=>none
  |_=>none
def bsK (x:Value):ll:=λh K=>
 match x with
 | .slice none _ _=>K (.string ByteArray.empty) h
 | .slice (some a) n _=>match dy h a 0 n with
  |some l=>match Kc l with
   |some b=>K (.string ⟨⟨b⟩⟩) h
   |none=>False
  |none=>False
 |_=>False
def Xd (P:Program) (ρ:Env) (op:Op) (h:af) (K:Value→af→Prop):Prop:=
 match op with
 | .alloc t=>match ud P t with
  |some z=>aP z.cells t h K
  |none=>False
 | .box t x=>aP (ev ρ x).cells t h K
 | .buildSlice t len parts=>match P.underlying t with
  | some (.slice e)=>match dH P e,ud P e with
   |some s,some z=>if len*s>2^24 then False else match yL (λi=>some (i*s,s)) ρ parts.toList with
    |some l=>cF (gT z (len*s)) e len l h K
    |none=>False
   |_,_=>False
  |_=>False
 | .store t a x=>match dH P t with
  |some n=>stK n (ev ρ a) (ev ρ x) h K
  |none=>False
 | .makeSlice t l c=>match P.underlying t with
  |some (.slice e)=>match(P.info? e).bind λi=>i.zero.map λz=>(z,i.size,i.bytes)with
   |some (z,size,bytes)=>mkK z e size bytes (ev ρ l) (ev ρ c) h K
   |none=>False
  |_=>False
 | .makeMap _ none=>R9 h K
 | .mapUpdate t m k x| .insert t m k x=>match P.underlying t with
  |some (.map kt _)=>match jO P kt with
   |some kd=>qN kd (ev ρ m) (ev ρ k) (ev ρ x) h K
   |none=>False
  |_=>False
 | .mapEntry t m k=>match P.underlying t with
  |some (.map kt et)=>match jO P kt,ud P et with
   |some kd,some z=>EV kd z (ev ρ m) (ev ρ k) h K
   |_,_=>False
  |_=>False
 | .entryStore _ m s x=>JC (ev ρ m) (ev ρ s) (ev ρ x) h K
 | .range t x=>match P.underlying t with
  |some (.map _ _)=>EB (ev ρ x) h K
  |some .string=>Ad (ev ρ x) h K
  |_=>False
 | .next it s=>bif s then DS (ev ρ it) h K else IT (ev ρ it) h K
 | .entry it=>Rb (ev ρ it) h K
 | .call c=>match c.callee with
  | .builtin b=>YC P b (c.args.map (ev ρ)).toList c.argTypes.toList h K
  | .value (.func f)=>ae P f (c.args.map (ev ρ)) h K
  | .value x=>clK P (ev ρ x) (c.args.map (ev ρ)) h K
  |_=>False
 | .convert s d x=>match P.underlying s,P.underlying d with
  |some (.slice e),some .string=>match P.underlying e with
   |some (.int .u8)=>bsK (ev ρ x) h K
   |_=>False
  |_,_=>False
 |_=>False
def iU (P:Program)(K:Value→af→Prop)(w:World):Result Next→Prop
 | .ok (.value v) w'=>cW w w'∧K v w'.heap
 | .ok .skip w'=>cW w w'∧K undef w'.heap
 | .ok (.enter f args) w'=>w'=w∧X9 P f args w.heap K
 |_=>False
section
variable {P:Program}{ρ:Env}{w:World}{K:Value→af→Prop}
theorem QI (v:Value):aJ v=v.oneCell':=by cases v<;>rfl
theorem qF (a:Addr):∀(l:List Value) (i:Nat) (w:World) (h':af),iO w.heap a i l=some h'→
  ∃w',(storeCells a l i).run P w=.ok () w'∧cW w w'∧w'.heap=h'
 | [],i,w,h',h=>by simp[iO]at h;exact⟨w,by simp[storeCells],cW.refl w,h⟩
 | v ::l,i,w,h',h=>by
  unfold iO at h;cases hc:aB w.heap (a.add i)with
  |none=>simp[hc]at h
  | some old=>
   simp only[hc]at h;cases ho:(aJ v&& !rZ w.heap (a.add i))with
   |false=>rw[ho]at h;cases h
   | true=>
    rw[ho]at h;simp only[cond_true]at h;rw[Bool.and_eq_true]at ho;obtain⟨w',hr,hs,hh⟩:=qF a l (i+1) (w.setCell (a.add i) v) h' h;refine⟨w',?_,⟨hs.1,hs.2.1,hs.2.2⟩,hh⟩;have h1:w.cell? (a.add i)=some old:=hc;have h2:w.frozen? (a.add i)=false:=by
     show rZ w.heap (a.add i)=false;simpa using ho.2
    simp only[storeCells,Sem.run_bind];rw[run_store P w _ _ _ (by rw[←QI];exact ho.1)];simp[h1,h2,hr]
theorem Ab {size n:Nat}{x:Value}{l:List Value}(h:sW size w.heap n x=some l):(Builtin.firstCells size n x).run P w=.ok l.toArray w:=by
 unfold sW at h;split at h
 ·rename_i a _ _;have:=tK (P:=P) a _ 0 #[] l h;simp[Builtin.firstCells,loadCells,this]
 ·simp at h;subst h;simp[Builtin.firstCells]
 ·simp only[Option.some.injEq]at h;subst h;simp only[Builtin.firstCells,Array.toArray_toList];rfl
 ·cases h
theorem Oq {x:Value}{n:Nat}(h:Lg x=some n):(Builtin.lenOf x).run P w=.ok n w:=by
 unfold Lg at h;split at h<;>simp at h<;>subst h<;>simp[Builtin.lenOf]
theorem iU.value {s:Sem Value}{v:Value}{w':World}(hr:s.run P w=.ok v w')(hs:cW w w')(hK:K v w'.heap):
  iU P K w ((do pure (.value (←s)):Sem Next).run P w):=by
 simp only[Sem.run_bind,hr,Result.andThen_ok,Sem.run_pure];exact⟨hs,hK⟩
theorem iU.unit {s:Sem Unit}{w':World}(hr:s.run P w=.ok () w')(hs:cW w w')(hK:K undef w'.heap):
  iU P K w ((do s;pure .skip:Sem Next).run P w):=by
 simp only[Sem.run_bind,hr,Result.andThen_ok,Sem.run_pure];exact⟨hs,hK⟩
theorem eV (o:Obj):(newObj o).run P w=.ok w.heap.size {w with heap:=w.heap.push o}:=rfl
theorem SZ {t n:Nat}{x v:Value}(hn:dH P t=some n)(h:stK n x v w.heap K):∃w',(Instr.storeAt t x v).run P w=.ok () w'∧cW w w'∧K undef w'.heap:=by
 unfold stK at h;split at h
 ·rename_i a;split at h
  ·rename_i hv;cases hq:iO w.heap a 0 v.cells.toList with
   |none=>simp[hq]at h
   |some h'=>
    simp only[hq]at h;obtain⟨w',hr,hs,hh⟩:=qF (P:=P) a _ 0 w h' hq;refine⟨w',?_,hs,hh▸h⟩;simp[Instr.storeAt,Instr.sureAddr,storeVar,bh hn,hv,hr]
  ·exact h.elim
 ·exact h.elim
theorem iC {r:Nat}{o o':Obj}(h:w.heap[r]? =some o)(hn:∀c e f,o≠ .cells c e f):(setObj r o').run P w=.ok () {w with heap:=dQ w.heap r o'}:=by
 simp only[setObj,Sem.run,h];cases o<;>first|rfl|exact absurd rfl (hn _ _ _)
theorem vg {a b:Value}(h:Instr.sameBits 10000 a b=true):(Instr.keyThatStays a b).run P w=.ok b w:=by
 simp[Instr.keyThatStays,h]
theorem Lc {t kt et:TypeId}{kd:TypeDesc}{m k v:Value}(ht:P.underlying t=some (.map kt et))(hk:jO P kt=some kd)(h:qN kd m k v w.heap K):
  ∃w',(Instr.mapUpdate t m k v).run P w=.ok () w'∧cW w w'∧K undef w'.heap:=by
 unfold qN at h;split at h
 ·rename_i r;split at h
  ·rename_i es c hm;simp only[Instr.mapUpdate,Sem.run_bind,run_underlying ht,Result.andThen_ok,iD hm];rw[show(10000:Nat)=9999+1 from rfl,jL hk];simp only[Result.andThen_ok];split at h
   ·rename_i i u hf;rw[iu hk hf];simp only[Result.andThen_ok,Sem.run_bind];rw[vg h.1];simp only[Result.andThen_ok];exact⟨_,iC hm (by simp),⟨rfl,rfl,rfl⟩,h.2⟩
   ·rename_i hf;rw[iu hk hf];exact⟨_,iC hm (by simp),⟨rfl,rfl,rfl⟩,h⟩
   ·exact h.elim
  ·exact h.elim
 ·exact h.elim
theorem GI {t kt et:TypeId}{kd:TypeDesc}{z m k:Value}(ht:P.underlying t=some (.map kt et))(hk:jO P kt=some kd)(hz:ud P et=some z)(h:EV kd z m k w.heap K):
  ∃v w',(Instr.mapEntry t m k).run P w=.ok v w'∧cW w w'∧K v w'.heap:=by
 unfold EV at h;split at h
 ·rename_i r;split at h
  ·rename_i es c hm;simp only[Instr.mapEntry,Sem.run_bind,run_underlying ht,Result.andThen_ok,iD hm];rw[show(10000:Nat)=9999+1 from rfl,jL hk];simp only[Result.andThen_ok];split at h
   ·rename_i i u hf;rw[iu hk hf];simp only[Result.andThen_ok,Sem.run_bind];rw[vg h.1];simp only[Result.andThen_ok];rw[iC hm (by simp)];exact⟨_,_,rfl,⟨rfl,rfl,rfl⟩,h.2⟩
   ·rename_i hf;rw[iu hk hf];simp only[Result.andThen_ok,Sem.run_bind,aT hz];rw[iC hm (by simp)];exact⟨_,_,rfl,⟨rfl,rfl,rfl⟩,h⟩
   ·exact h.elim
  ·exact h.elim
 ·exact h.elim
theorem JB {t:TypeId}{m s v:Value}(h:JC m s v w.heap K):∃w',(Instr.entryStore t m s v).run P w=.ok () w'∧cW w w'∧K undef w'.heap:=by
 unfold JC at h;split at h
 ·rename_i r k n;split at h
  ·rename_i es c hm;split at h
   ·rename_i i hf;simp only[Instr.entryStore,Sem.run_bind,iD hm,Result.andThen_ok,asInt,asIntOf,Sem.run_pure];simp only[hf];exact⟨_,iC hm (by simp),⟨rfl,rfl,rfl⟩,h⟩
   ·exact h.elim
  ·exact h.elim
 ·exact h.elim
theorem Le {t kt et:TypeId}{ty:TypeId}{kd:TypeDesc}{m k:Value}{ts:Array TypeId}(h0:ts[0]? =some t)(ht:P.underlying t=some (.map kt et))(hk:jO P kt=some kd)(h:lS kd m k w.heap K):
  ∃v w',(Builtin.delete_ ts ty #[m,k]).run P w=.ok v w'∧cW w w'∧K v w'.heap:=by
 have h10:(10000:Nat)=9999+1:=rfl;unfold lS at h;split at h
 ·refine⟨.tuple #[],w,?_,cW.refl w,h⟩;simp[Builtin.delete_,h0,run_underlying ht];rw[h10,jL hk];rfl
 ·rename_i r;split at h
  ·rename_i es c hm;simp only[Builtin.delete_,h0];simp[run_underlying ht,iD hm];rw[h10,jL hk];simp only[Result.andThen_ok];split at h
   ·rename_i i u hf;rw[iu hk hf];simp only[Result.andThen_ok];rw[Sem.run_map,iC hm (by simp)];exact⟨_,_,rfl,⟨rfl,rfl,rfl⟩,h⟩
   ·rename_i hf;rw[iu hk hf];simp only[Result.andThen_ok];rw[Sem.run_map,iC hm (by simp)];exact⟨_,_,rfl,⟨rfl,rfl,rfl⟩,h⟩
   ·exact h.elim
  ·exact h.elim
 ·exact h.elim
theorem Gk {t kt et:TypeId}{m:Value}(ht:P.underlying t=some (.map kt et))(h:EB m w.heap K):∃v w',(Instr.range t m).run P w=.ok v w'∧cW w w'∧K v w'.heap:=by
 unfold EB at h;split at h
 ·simp only[Instr.range,Sem.run_bind,run_underlying ht,Result.andThen_ok,Sem.run_pure,eV];exact⟨_,_,rfl,⟨rfl,rfl,rfl⟩,h⟩
 ·rename_i r;split at h
  ·rename_i es c hm;simp only[Instr.range,Sem.run_bind,run_underlying ht,Result.andThen_ok,Sem.run_pure,iD hm,eV];exact⟨_,_,rfl,⟨rfl,rfl,rfl⟩,h⟩
  ·exact h.elim
 ·exact h.elim
theorem Gj {t:TypeId}{s:Value}(ht:P.underlying t=some .string)(h:Ad s w.heap K):∃v w',(Instr.range t s).run P w=.ok v w'∧cW w w'∧K v w'.heap:=by
 unfold Ad at h;split at h
 ·simp only[Instr.range,Sem.run_bind,run_underlying ht,Result.andThen_ok,Sem.run_pure,eV];exact⟨_,_,rfl,⟨rfl,rfl,rfl⟩,h⟩
 ·exact h.elim
theorem wu {r:Nat}{o:Obj}(h:w.heap[r]? =some o)(hn:∀c e f,o≠ .cells c e f):(getObj r).run P w=.ok o w:=by
 simp only[getObj,Sem.run,h]
theorem IR {t:TypeId}{it:Value}(h:DS it w.heap K):∃v w',(Instr.next it true t).run P w=.ok v w'∧cW w w'∧K v w'.heap:=by
 unfold DS at h;split at h
 ·rename_i r sp;split at h
  ·rename_i s pos hm;simp only[Instr.next,Sem.run_bind,wu hm (by simp),Result.andThen_ok];split at h
   ·rename_i hp;simp only[hp,if_true,Sem.run_bind,iC hm (by simp),Result.andThen_ok,Sem.run_pure];exact⟨_,_,rfl,⟨rfl,rfl,rfl⟩,h⟩
   ·rename_i hp;simp only[hp,if_false,Sem.run_pure];exact⟨_,_,rfl,cW.refl w,h⟩
  ·exact h.elim
 ·exact h.elim
theorem IS {t:TypeId} {it:Value} (h:IT it w.heap K):∃v w',(Instr.next it false t).run P w=.ok v w'∧cW w w'∧K v w'.heap:=by
 unfold IT at h;split at h
 ·rename_i r sp;split at h
  ·rename_i hm;simp only[Instr.next,Sem.run_bind,wu hm (by simp),Result.andThen_ok,Sem.run_pure];exact⟨_,_,rfl,cW.refl w,h⟩
  ·rename_i m since seen last hm;split at h
   ·rename_i es clock hes;obtain⟨h0,h1,h2⟩:=h;simp only[Instr.next,Sem.run_bind,wu hm (by simp),iD hes,Result.andThen_ok];rw[if_neg (by rw[h0];simp)];simp only[Sem.run_bind,run_choose];generalize hL:(es.filter λe=> !seen.contains e.born)=left;generalize hO:left.filter (λe=>decide (e.born<since))=old;generalize hN:left.filter (λe=>decide (e.born≥since))=new;generalize hC:(if old.isEmpty=true then #[none]else #[])++(old++new).map some=cand;have key:∀(j:Nat) (w1:World),j<cand.size→cW w w1→w1.heap=w.heap→
      ∃ v w',(Sem.run P (match cand[j]? with
       |some (some e)=>do
        setObj r (.mapIter (some m) since (seen.push e.born) clock)
        pure (.tuple #[.bool true,e.key,e.val])
       |some none=>pure (.tuple #[.bool false])
       |none=>stuck "Next: no such candidate") w1)=.ok v w'∧cW w w'∧K v w'.heap:=by
     intro j w1 hj hs hh;rw[Array.getElem?_eq_getElem hj];have hmem:cand[j]∈cand:=Array.getElem_mem hj;generalize cand[j]=x at hmem ⊢;rw[←hC,Array.mem_append]at hmem;cases x with
     | none=>
      refine⟨_,_,rfl,hs,?_⟩;rw[hh];refine h2 λe he hns=>?_
      have hold:old=#[]:=by
       rcases hmem with hmem|hmem
       ·by_cases ho:old.isEmpty=true
        ·simpa using ho
        ·simp[ho]at hmem
       ·simp at hmem
      rcases Nat.lt_or_ge e.born since with hlt|hge
      ·exfalso;have:e∈old:=by
        rw[←hO,←hL];simp only[Array.mem_filter];exact⟨⟨he,by simpa using hns⟩,by simpa using hlt⟩
       rw[hold]at this;simp at this
      ·exact hge
     | some e=>
      have hin:e∈es∧seen.contains e.born=false:=by
       have:e∈left:=by
        rcases hmem with hmem|hmem
        ·split at hmem<;>simp at hmem
        ·simp only[Array.mem_map,Option.some.injEq]at hmem;obtain⟨e',he',rfl⟩:=hmem;rw[Array.mem_append]at he';rcases he' with he'|he'
         ·rw[←hO]at he';exact(Array.mem_filter.1 he').1
         ·rw[←hN]at he';exact(Array.mem_filter.1 he').1
       rw[←hL]at this;have:=Array.mem_filter.1 this;exact⟨this.1,by simpa using this.2⟩
      simp only[Sem.run_bind];rw[iC (w:=w1) (by rw[hh];exact hm) (by simp)];refine⟨_,_,rfl,hs,?_⟩;simp only[hh];exact h1 e hin.1 hin.2
    have hpos:0<cand.size:=by
     rw[←hC];by_cases ho:old.isEmpty=true
     ·simp[ho];omega
     ·have:0<old.size:=by
       rcases Nat.eq_zero_or_pos old.size with h0|h0
       ·exact absurd (by simpa using h0) ho
       ·exact h0
      simp[ho];omega
    split
    ·exact key _ _ hpos (cW.refl w) rfl
    ·exact key _ _ (by simp only[Question.cut];exact Nat.mod_lt _ hpos) ⟨rfl,rfl,rfl⟩ rfl
   ·exact h.elim
  ·exact h.elim
 ·exact h.elim
theorem Nx {it:Value}(h:Rb it w.heap K):∃v w',(Instr.entry it).run P w=.ok v w'∧cW w w'∧K v w'.heap:=by
 unfold Rb at h;split at h
 ·rename_i r sp;split at h
  ·rename_i m _ seen stepped hm;split at h
   ·rename_i es clock hes;split at h
    ·exact h.elim
    ·rename_i hc;split at h
     ·rename_i stamp hb;split at h
      ·rename_i e he;simp only[Instr.entry,Sem.run_bind,wu hm (by simp),iD hes,Result.andThen_ok,hb];rw[if_neg (by simpa using hc)];simp only[he,Sem.run_pure];exact⟨_,_,rfl,cW.refl w,h⟩
      ·exact h.elim
     ·exact h.elim
   ·exact h.elim
  ·exact h.elim
 ·exact h.elim
theorem FY {e:TypeId}{z:Value}{size bytes:Nat}(h:(P.info? e).bind (λi=>i.zero.map λz=>(z,i.size,i.bytes))=some (z,size,bytes)):
  ∃i,P.info? e=some i∧i.zero=some z∧i.size=size∧i.bytes=bytes:=by
 cases hi:P.info? e with
 |none=>simp[hi]at h
 |some i=>
  cases hz:i.zero with
  |none=>simp[hi,hz]at h
  |some z'=>simp[hi,hz]at h;exact⟨i,rfl,by rw[hz,h.1],h.2.1,h.2.2⟩
theorem Qx (f:Nat→Value):(Array.range 0).map f=#[]:=by simp
theorem Tj {t e:TypeId}{z:Value}{size bytes:Nat}{l c:Value}(ht:P.underlying t=some (.slice e))
  (hi:(P.info? e).bind (λi=>i.zero.map λz=>(z,i.size,i.bytes))=some (z,size,bytes)) (h:mkK z e size bytes l c w.heap K):
  ∃v w',(Instr.makeSlice t l c).run P w=.ok v w'∧cW w w'∧K v w'.heap:=by
 obtain⟨i,hj,hz,rfl,rfl⟩:=FY hi
 clear hi
 unfold mkK at h;split at h
 ·rename_i k l k' c;obtain⟨h1,h2,h3,hK⟩:=h;simp only[Instr.makeSlice,Sem.run_bind,run_underlying ht,Result.andThen_ok,asInt,asIntOf,Sem.run_pure,typeInfo,run_program,hj];rw[if_neg (by simp;omega)];simp only[Sem.run_bind,run_askRoom,Result.andThen_ok,sizeOf,typeInfo,run_program,hj,Sem.run_pure];by_cases h0:(IntKind.i64.wrap c).toNat*i.size=0
  ·simp only[h0,if_true,Sem.run_pure,Result.andThen_ok,newRow,Sem.run_bind,eV];refine⟨_,_,rfl,⟨rfl,rfl,rfl⟩,?_⟩;rw[gT,h0,Qx]at hK;rw[Qx];exact hK
  ·simp only[h0,if_false,Sem.run_bind,zeroValue,typeInfo,run_program,hj,hz,Sem.run_pure,Result.andThen_ok,newRow,eV];exact⟨_,_,rfl,⟨rfl,rfl,rfl⟩,hK⟩
 ·exact h.elim
theorem Qt {t e:TypeId}{s len:Nat}{z:Value}{parts:Array (Nat×Operand)}{l:List (Nat×Nat×Value)}(ht:P.underlying t=some (.slice e))(hs:dH P e=some s)(hz:ud P e=some z)
  (hsmall:¬len*s>2^24) (hl:yL (λi=>some (i*s,s)) ρ parts.toList=some l) (h:cF (gT z (len*s)) e len l w.heap K):
  ∃v w',(Instr.buildSlice t len (parts.map λ(i,x)=>(i,ev ρ x))).run P w=.ok v w'∧cW w w'∧K v w'.heap:=by
 unfold cF at h;cases hf:aE (gT z (len*s)) l with
 |none=>simp[hf]at h
 | some c=>
  simp only[hf]at h;have hfill:=Nv _ _ _ _ hl hf;rw[←Array.toList_map]at hfill;simp only[Instr.buildSlice,Sem.run_bind,run_underlying ht,Result.andThen_ok,bh hs,hsmall,if_false];by_cases h0:len*s=0
  ·simp only[h0,if_true,Sem.run_bind,Sem.run_pure,Result.andThen_ok];have e:gT z (len*s)=#[]:=by simp[gT,h0]
   rw[e]at hfill;rw[Qx,hfill];simp only[newRow,Sem.run_bind,eV,Result.andThen_ok,Sem.run_pure];exact⟨_,_,rfl,⟨rfl,rfl,rfl⟩,h⟩
  ·simp only[h0,if_false,Sem.run_bind,aT hz,Result.andThen_ok,Sem.run_pure];unfold gT at hfill;rw[hfill];simp only[newRow,Sem.run_bind,eV,Result.andThen_ok,Sem.run_pure];exact⟨_,_,rfl,⟨rfl,rfl,rfl⟩,h⟩
theorem Kj {t u e ty:TypeId}{z:Value}{size bytes:Nat}{s x:Value}{ts:Array TypeId}(hts:ts.toList=[t,u])(ht:P.underlying t=some (.slice e))(hu:∃d,P.underlying u=some d∧∀k,d≠ .int k)
  (hi:(P.info? e).bind (λi=>i.zero.map λz=>(z,i.size,i.bytes))=some (z,size,bytes)) (h:cG z e size bytes s x w.heap K):
  ∃v w',(Builtin.append_ ts ty #[s,x]).run P w=.ok v w'∧cW w w'∧K v w'.heap:=by
 obtain⟨i,hj,hz,rfl,rfl⟩:=FY hi
 clear hi
 obtain⟨d,hu,hd⟩:=hu;obtain rfl:ts=#[t,u]:=by apply Array.ext';simpa using hts
 unfold cG at h;split at h
 ·rename_i base sLen sCap n hn;simp only[Builtin.append_,List.getElem?_toArray,List.getElem?_cons_zero,List.getElem?_cons_succ,Sem.run_bind,run_underlying ht,run_underlying hu,Result.andThen_ok,Sem.run_pure,sizeOf,typeInfo,run_program,hj];rw[if_neg (by simp)];simp only[Sem.run_bind,Oq hn,Result.andThen_ok];simp only[Bool.not_false,if_true];split at h
  ·rename_i hroom;simp only[hroom,if_true];split at h
   ·rename_i news hsrc;simp only[Sem.run_bind,Ab hsrc,Result.andThen_ok];split at h
    ·rename_i a;split at h
     ·rename_i h' hst;obtain⟨w',hr,hs,hh⟩:=qF (P:=P) _ _ 0 w h' hst;simp only[Sem.run_bind,hr,Result.andThen_ok,Sem.run_pure];exact⟨_,_,rfl,hs,hh▸h⟩
     ·exact h.elim
    ·simp only[Sem.run_pure];exact⟨_,_,rfl,cW.refl w,h⟩
   ·exact h.elim
  ·rename_i hroom;obtain⟨hlen,hcap,h⟩:=h;simp only[hroom,if_false];split at h
   ·rename_i olds news ho hn';simp only[Sem.run_bind,run_program,Result.andThen_ok,hj,Sem.run_pure];rw[if_neg (by omega)];simp only[Sem.run_bind,run_program,Result.andThen_ok,hj,Sem.run_pure];rw[if_neg (by omega)];simp only[Sem.run_bind,run_program,Result.andThen_ok,hj,Sem.run_pure,run_choose,Question.forced,Bool.false_eq_true,if_false,run_askRoom];have hH:∀m l,sW i.size w.heap m l=sW i.size ({w with drawn:=w.drawn+1}:World).heap m l:=λ_ _=>rfl
    rw[hH]at ho hn';rw[Ab ho];simp only[Sem.run_bind,Result.andThen_ok];rw[Ab hn'];simp only[Sem.run_bind,Result.andThen_ok,newRow,eV,Sem.run_pure,zeroValue,typeInfo,run_program,hj,hz];refine⟨_,_,rfl,⟨rfl,rfl,rfl⟩,?_⟩;refine h _ ?_ ?_
    ·simp only[Question.cut];omega
    ·simp only[Question.cut];have h63:((sLen+n:Nat):Int)≤2^63-1:=by simpa[IntKind.max,IntKind.signed,IntKind.bits]using hlen
     have:=Nat.mod_lt (w.tape w.drawn (.appendCap (sLen+n) sCap e)) (show 0<2^63-(sLen+n)by omega);omega
   ·exact h.elim
 ·exact h.elim
theorem Rj {t e ty:TypeId}{size:Nat}{d x:Value}{ts:Array TypeId}(h0:ts[0]? =some t)(ht:P.underlying t=some (.slice e))(hs:dH P e=some size)(h:Cn size d x w.heap K):
  ∃v w',(Builtin.copy_ ts ty #[d,x]).run P w=.ok v w'∧cW w w'∧K v w'.heap:=by
 unfold Cn at h;split at h
 ·rename_i base dLen dCap _ n hn;simp only[Builtin.copy_,h0];simp only[List.getElem?_toArray,List.getElem?_cons_zero,List.getElem?_cons_succ,Sem.run_bind,run_underlying ht,Result.andThen_ok,Oq hn,bh hs];split at h
  ·rename_i news hsrc;rw[Ab hsrc];simp only[Result.andThen_ok];split at h
   ·rename_i a;split at h
    ·rename_i h' hst;obtain⟨w',hr,hs,hh⟩:=qF (P:=P) _ _ 0 w h' hst;simp only[Sem.run_bind,hr,Result.andThen_ok,Sem.run_pure];exact⟨_,_,rfl,hs,hh▸h⟩
    ·exact h.elim
   ·simp only[Sem.run_pure];exact⟨_,_,rfl,cW.refl w,h⟩
  ·exact h.elim
 ·exact h.elim
theorem iU.of {s:Sem Value}(h:∃v w',s.run P w=.ok v w'∧cW w w'∧K v w'.heap):iU P K w ((do pure (.value (←s)):Sem Next).run P w):=by
 obtain⟨v,w',h1,h2,h3⟩:=h;exact iU.value h1 h2 h3
theorem iU.ofU {s:Sem Unit}(h:∃w',s.run P w=.ok () w'∧cW w w'∧K undef w'.heap):iU P K w ((do s;pure .skip:Sem Next).run P w):=by
 obtain⟨w',h1,h2,h3⟩:=h;exact iU.unit h1 h2 h3
theorem vV {f:FuncId}{args:Array Value}(h:pg P f=true):(callFunc f args).run P w=.ok (.enter f args) w:=by
 unfold pg at h;cases hf:P.funcs[f]? with
 |none=>simp[hf]at h
 |some fn=>
  simp only[hf,Bool.and_eq_true,Bool.not_eq_true']at h;simp only[callFunc,Sem.run_bind,run_program,Result.andThen_ok,hf];rw[if_neg (by rw[h.1];simp)];have hb:fn.body.isNone=false:=by cases hb:fn.body<;>simp_all
  rw[if_neg (by rw[hb];simp)];rfl
theorem ae.done {f:FuncId}{args:Array Value}(h:ae P f args w.heap K):iU P K w ((callFunc f args).run P w):=by
 rcases h with h|h
 ·rw[vV h.1];exact⟨rfl,h⟩
 ·obtain⟨v,w',h1,h2,h3⟩:=h w rfl;rw[h1];exact⟨h2,h3⟩
theorem ae.calls {f:FuncId}{args:Array Value}{h:af}(hok:pg P f=true)(H:ae P f args h K)(w:World)(hw:w.heap=h):Calls P f args w λe w'=>∃v,e=.returned v∧cW w w'∧K v w'.heap:=by
 rcases H with H|H
 ·exact H.2 w hw
 ·obtain⟨v,w',h1,_⟩:=H w hw;rw[vV hok]at h1;cases h1
theorem TE {x:Value}{args:Array Value}(h:clK P x args w.heap K):iU P K w ((do let d←Deferred.ofValue x args;invoke d.target d.args:Sem Next).run P w):=by
 unfold clK at h;split at h
 ·simp only[Deferred.ofValue,Sem.run_bind,Sem.run_pure,Result.andThen_ok,invoke];exact h.done
 ·exact h.elim
theorem Rg {b:Builtin}{args:List Value}{ts:Array TypeId}{ty:TypeId}{cs:Array Bool}(h:YC P b args ts.toList w.heap K):iU P K w ((builtin b ts ty cs args.toArray).run P w):=by
 unfold YC at h;split at h
 ·split at h
  ·rename_i s x t u hts;split at h
   ·rename_i e d ht hu;split at h
    ·rename_i z size bytes hi;exact iU.of (Kj hts ht ⟨_,hu,by simp⟩ hi h)
    ·exact h.elim
   ·rename_i e ht hu;split at h
    ·rename_i z size bytes hi;exact iU.of (Kj hts ht ⟨_,hu,by simp⟩ hi h)
    ·exact h.elim
   ·exact h.elim
  ·exact h.elim
 ·split at h
  ·rename_i d x t rest hts;have h0:ts[0]? =some t:=by rw[←Array.getElem?_toList,hts];rfl
   split at h
   ·rename_i e ht;split at h
    ·rename_i size hs;exact iU.of (Rj h0 ht hs h)
    ·exact h.elim
   ·exact h.elim
  ·exact h.elim
 ·split at h
  ·rename_i m k t rest hts;have h0:ts[0]? =some t:=by rw[←Array.getElem?_toList,hts];rfl
   split at h
   ·rename_i kt et ht;split at h
    ·rename_i kd hk;exact iU.of (Le h0 ht hk h)
    ·exact h.elim
   ·exact h.elim
  ·exact h.elim
 ·exact h.elim
theorem Kb (f:Value→ByteArray→Sem (ForInStep ByteArray))(hf:∀n s,f (.int .u8 n) s=pure (.yield (s.push (UInt8.ofNat n.toNat)))):
  ∀(l:List Value) (b:List UInt8) (s:ByteArray),Kc l=some b→(forIn l s f).run P w=.ok ⟨s.data++b.toArray⟩ w
 | [],b,s,h=>by
  simp only[Kc,Option.some.injEq]at h;subst h;simp
 | v::r,b,s,h=>by
  unfold Kc at h;split at h
  ·rename_i n;split at h
   ·rename_i l hl;simp only[Option.some.injEq]at h;subst h;have:=Kb f hf r l (s.push (UInt8.ofNat n.toNat)) hl;simp only[List.forIn_cons,hf,Sem.run_bind,Sem.run_pure,Result.andThen_ok,this]
    congr 1
    apply ByteArray.ext;apply Array.ext';show(s.data.push (UInt8.ofNat n.toNat)++l.toArray).toList=_;simp
   ·cases h
  ·cases h
theorem T9 {x:Value}(h:bsK x w.heap K):∃v w',(Conv.bytesToString x).run P w=.ok v w'∧cW w w'∧K v w'.heap:=by
 unfold bsK at h;split at h
 ·exact⟨_,w,rfl,cW.refl w,h⟩
 ·rename_i a n c;split at h
  ·rename_i l hl;split at h
   ·rename_i b hb;refine⟨_,w,?_,cW.refl w,h⟩;have h1:=tK (P:=P) a _ 0 #[] l hl;simp only[Conv.bytesToString,loadCells,Sem.run_bind,h1,Result.andThen_ok,Array.empty_append,List.forIn_toArray];rw[Kb _ (λn s=>rfl) l b ByteArray.empty hb];simp
   ·exact h.elim
  ·exact h.elim
 ·exact h.elim
theorem JE {op:Op}(o:Oper)(ho:o.op=op)(h:Xd P ρ op w.heap K):iU P K w ((execOp (ev ρ) o).run P w):=by
 unfold Xd at h;split at h
 case h_1 t=>
  split at h
  ·rename_i z hz;simp only[execOp,ho];refine iU.of ⟨.pointer (some ⟨w.heap.size,0,none⟩),{w with heap:=w.heap.push (.cells z.cells t)},?_,⟨rfl,rfl,rfl⟩,h⟩;simp only[Instr.alloc,Sem.run_bind,aT hz,Result.andThen_ok,newVar,newRow,eV,Sem.run_pure]
  ·exact h.elim
 case h_2 t x=>
  simp only[execOp,ho];refine iU.of ⟨.pointer (some ⟨w.heap.size,0,none⟩),{w with heap:=w.heap.push (.cells (ev ρ x).cells t)},?_,⟨rfl,rfl,rfl⟩,h⟩;simp only[Instr.box,Sem.run_bind,Result.andThen_ok,newVar,newRow,eV,Sem.run_pure]
 case h_3 t len parts=>
  split at h
  ·rename_i e ht;split at h
   ·rename_i s z hs hz;split at h
    ·exact h.elim
    ·rename_i hsmall;split at h
     ·rename_i l hl;simp only[execOp,ho];exact iU.of (Qt ht hs hz hsmall hl h)
     ·exact h.elim
   ·exact h.elim
  ·exact h.elim
 case h_4 t a x=>
  split at h
  ·rename_i n hn;simp only[execOp,ho];exact iU.ofU (SZ hn h)
  ·exact h.elim
 case h_5 t l c=>
  split at h
  ·rename_i e ht;split at h
   ·rename_i z size bytes hi;simp only[execOp,ho];exact iU.of (Tj ht hi h)
   ·exact h.elim
  ·exact h.elim
 case h_6 t=>
  simp only[execOp,ho];refine iU.of ⟨.map (some w.heap.size),{w with heap:=w.heap.push (.map #[] 0)},?_,⟨rfl,rfl,rfl⟩,h⟩;simp only[Instr.makeMap,Option.map_none,Sem.run_bind,eV,Result.andThen_ok,Sem.run_pure]
 case h_7 t m k x|h_8 t m k x=>
  split at h
  ·rename_i kt et ht;split at h
   ·rename_i kd hk;simp only[execOp,ho];exact iU.ofU (Lc ht hk h)
   ·exact h.elim
  ·exact h.elim
 case h_9 t m k=>
  split at h
  ·rename_i kt et ht;split at h
   ·rename_i kd z hk hz;simp only[execOp,ho];exact iU.of (GI ht hk hz h)
   ·exact h.elim
  ·exact h.elim
 case h_10 t m s x=>
  simp only[execOp,ho];exact iU.ofU (JB h)
 case h_11 t x=>
  split at h
  ·rename_i kt et ht;simp only[execOp,ho];exact iU.of (Gk ht h)
  ·rename_i ht;simp only[execOp,ho];exact iU.of (Gj ht h)
  ·exact h.elim
 case h_12 it s=>
  simp only[execOp,ho];cases s
  ·exact iU.of (IS h)
  ·exact iU.of (IR h)
 case h_13 it=>
  simp only[execOp,ho];exact iU.of (Nx h)
 case h_14 c=>
  split at h
  ·rename_i b hb;have:=Rg (P:=P) (w:=w) (ty:=o.type) (cs:=c.args.map λ| .const _=>true|_=>false) h;rw[Array.toArray_toList]at this;simp only[execOp,ho,resolve,hb,Sem.run_bind,Sem.run_pure,Result.andThen_ok,invoke];exact this
  ·rename_i f hb;simp only[execOp,ho,resolve,hb,ev,Deferred.ofValue,Sem.run_bind,Sem.run_pure,Result.andThen_ok,invoke];simp only[Array.empty_append,Array.append_empty];exact h.done
  ·rename_i x _ hb;simp only[execOp,ho,resolve,hb];exact TE h
  ·exact h.elim
 case h_15 s d x=>
  split at h
  ·rename_i e h1 h2;split at h
   ·rename_i h3;simp only[execOp,ho];refine iU.of ?_;obtain⟨v,w',h4,h5,h6⟩:=T9 (P:=P) h;refine⟨v,w',?_,h5,h6⟩;simp only[convert,Sem.run_bind,run_underlying h1,run_underlying h2,run_underlying h3,Result.andThen_ok];generalize ev ρ x=y at h h4 ⊢;cases y<;>first|exact h4|(simp only[Sem.run_bind,run_underlying h3,Result.andThen_ok];exact h4)|exact h.elim
   ·exact h.elim
  ·exact h.elim
 case h_16=>exact h.elim
end
end
end Go.Crisp
namespace Go.Crisp
section
def gV (g:Value)(want:Bool)(r:Option Value):Option Value:=
 match g with
 | .bool b=>bif b==want then r else some undef
 |_=>some undef
def gK (g:Value)(want:Bool)(m:(Value→af→Prop)→Prop)(h:af)(K:Value→af→Prop):Prop:=
 match g with
 | .bool b=>bif b==want then m K else K undef h
 |_=>K undef h
def gOf (all:Array Oper)(ρ:Env)(j:Nat):Value:=
 match(all[j]?).bind (·.dst)with
 |some t=>ρ t
 |none=>undef
def roG (P:Program)(all:Array Oper)(ρ:Env)(o:Oper)(h:af):Option (Option Value):=
 match roV P ρ o.op h with
 |some r=>match o.guard with
  |none=>some r
  |some (j,want)=>some (gV (gOf all ρ j) want r)
 |none=>none
def effG (P:Program)(all:Array Oper)(ρ:Env)(o:Oper)(h:af)(K:Value→af→Prop):Prop:=
 match o.guard with
 |none=>Xd P ρ o.op h K
 |some (j,want)=>gK (gOf all ρ j) want (λK=>Xd P ρ o.op h K) h K
def XN (P:Program)(all:Array Oper)(ρ:Env)(o:Oper)(h:af)(K:Value→af→Prop):Prop:=
 match roG P all ρ o h with
 |some r=>vK r λv=>K v h
 |none=>effG P all ρ o h K
def Wg (P:Program)(ρ:Env)(o:Oper):Option Value:=
 match o.guard with
 |some _=>none
 | none=>match o.op with
  | .move x=>some (ev ρ x)
  | .assign x=>some (ev ρ x)
  | .makeInterface t x=>match P.underlying t with
   |some (.interface _)=>none
   |some _=>some (.iface t (ev ρ x))
   |none=>none
  | .makeFunc fn first captured=>some (.func fn (first.map (ev ρ)) (captured.map (ev ρ)))
  |_=>none
theorem RR {P:Program}{all:Array Oper}{ρ:Env}{o:Oper}{v:Value}(h:Wg P ρ o=some v)(hp:af):roG P all ρ o hp=some (some v):=by
 unfold Wg at h;split at h
 ·cases h
 ·rename_i hg;unfold roG;split at h
  ·rename_i x ho;simp only[ho,roV,hg,h]
  ·rename_i x ho;simp only[ho,roV,hg,h]
  ·rename_i t x ho;simp only[ho,roV,hg];cases hu:P.underlying t with
   |none=>simp[hu]at h
   |some d=>cases d<;>simp_all
  ·rename_i ho;simp only[ho,roV,hg,h]
  ·cases h
def cOp (P:Program)(all:Array Oper)(ρ:Env)(o:Oper)(h:af)(K:Value→af→Prop):Prop:=
 match Wg P ρ o with
 |some v=>K v h
 |none=>XN P all ρ o h K
theorem VW {P:Program}{all:Array Oper}{ρ:Env}{o:Oper}{h:af}{K:Value→af→Prop}(H:cOp P all ρ o h K):XN P all ρ o h K:=by
 unfold cOp at H;split at H
 ·rename_i v hv;unfold XN;rw[RR hv h];exact H
 ·exact H
def roK (P:Program)(all:Array Oper)(ρ:Env)(o:Oper)(h:af)(K:Value→Prop):Prop:=
 match Wg P ρ o with
 |some v=>K v
 |none=>match roG P all ρ o h with
  |some r=>vK r K
  |none=>False
theorem Ur {P:Program}{all:Array Oper}{ρ:Env}{o:Oper}{h:af}{K:Value→Prop}(H:roK P all ρ o h K):match roG P all ρ o h with|some r=>vK r K|none=>False:=by
 unfold roK at H;split at H
 ·rename_i v hv;rw[RR hv h];exact H
 ·exact H
noncomputable def VV (P:Program)(all:Array Oper)(l:List Oper):Env→af→(Env→af→Prop)→Prop:=
 List.rec (motive:=λ_=>Env→af→(Env→af→Prop)→Prop) (λρ h Q=>Q ρ h)
  (λo _ ih ρ h Q=>cOp P all ρ o h λv h=>ih (up ρ o.dst v) h Q) l
theorem T7 {P:Program}{all:Array Oper}{o:Oper}{l:List Oper}{ρ:Env}{h:af}{Q:Env→af→Prop}:VV P all (o::l) ρ h Q=cOp P all ρ o h λv h=>VV P all l (up ρ o.dst v) h Q:=rfl
noncomputable def SK (P:Program)(all:Array Oper)(l:List Oper):Env→af→(Env→af→Prop)→Prop:=
 List.rec (motive:=λ_=>Env→af→(Env→af→Prop)→Prop) (λρ h Q=>Q ρ h)
  (λo _ ih ρ h Q=>roK P all ρ o h λv=>ih (up ρ o.dst v) h Q) l
def qK (S:af→Prop)(r:af→Option Value)(K:Value→Prop):Prop:=∃v,(∀h,S h→r h=some v)∧K v
def bD (h:af)(body:(af→Prop)→Prop):Prop:=∃S:af→Prop,S h∧body S
def y9 (P:Program):Op→Bool
 | .load .. | .lookup .. | .call _=>false
 | .binOp _ t x y _=>match JD P t with
  | .p=>OZ x||OZ y
  |_=>true
 |_=>true
inductive PK where
 |e|r|f|n
inductive PT where
 |nil
 |op (i:Nat) (q:PK) (t:PT)
 |alt (x y:PT)
noncomputable def zE (P:Program)(all:Array Oper)(plan:PT):(af→Prop)→Env→af→(Env→af→Prop)→Prop:=
 PT.rec (motive:=λ_=>(af→Prop)→Env→af→(Env→af→Prop)→Prop) (λ_ ρ h Q=>Q ρ h)
  (λi q _ ih S ρ h Q=>match all[i]? with
   |none=>False
   | some o=>match q with
    | .r=>match y9 P o.op with
     |true=>roK P all ρ o h (λv=>ih S (up ρ o.dst v) h Q)
     |false=>qK S (λh=>match roG P all ρ o h with|some r=>r|none=>none) (λv=>ih S (up ρ o.dst v) h Q)
    | .e=>cOp P all ρ o h λv h=>S h∧ih S (up ρ o.dst v) h Q
    | .f=>cOp P all ρ o h λv h=>bD h λS=>ih S (up ρ o.dst v) h Q
    | .n=>cOp P all ρ o h λv h=>ih (λ_=>True) (up ρ o.dst v) h Q)
  (λ_ _ ihx ihy S ρ h Q=>ihx S ρ h Q∧ihy S ρ h Q) plan
theorem T8 {P:Program}{all:Array Oper}{x y:PT}{S:af→Prop}{ρ:Env}{h:af}{Q:Env→af→Prop}:zE P all (.alt x y) S ρ h Q=(zE P all x S ρ h Q∧zE P all y S ρ h Q):=rfl
theorem RH {P:Program}{all:Array Oper}{S:af→Prop}{i:Nat}{q:PK}{l:PT}{ρ:Env}{h:af}{Q:Env→af→Prop}:zE P all (.op i q l) S ρ h Q=match all[i]? with
  |none=>False
  | some o=>match q with
   | .r=>match y9 P o.op with
    |true=>roK P all ρ o h (λv=>zE P all l S (up ρ o.dst v) h Q)
    |false=>qK S (λh=>match roG P all ρ o h with|some r=>r|none=>none) (λv=>zE P all l S (up ρ o.dst v) h Q)
   | .e=>cOp P all ρ o h λv h=>S h∧zE P all l S (up ρ o.dst v) h Q
   | .f=>cOp P all ρ o h λv h=>bD h λS=>zE P all l S (up ρ o.dst v) h Q
   | .n=>cOp P all ρ o h λv h=>zE P all l (λ_=>True) (up ρ o.dst v) h Q:=by cases q<;>rfl
inductive Ex where
 |nx|br (n:Nat)|rt
inductive Ann where
 |z
 |s (x y:Ann)
 |j (ws:Nat) (cs:List Nat) (x y:Ann)
 |m (ws:Nat) (cs:List Nat) (x:Ann)
 |l (ws:Nat) (cs:List Nat) (x:Ann)
 |d (plan:PT)
def ix (xs:List Value)(i:Nat):Value:=xs.getD i undef
def LA (t:Nat):Nat→List Nat→Option Nat
 |_,[]=>none
 |k,c::cs=>bif Nat.beq t c then some k else LA t (k+1) cs
def fI:Code→List Tmp
 | .region _ ops _=>ops.toList.filterMap (·.dst)
 | .seq x y=>fI x++fI y
 | .cond _ x y=>fI x++fI y
 | .block _ x=>fI x
 | .loop x=>fI x
 |_=>[]
def wg (t:Nat):List Nat→Bool
 | []=>false
 |c::cs=>bif Nat.beq t c then true else wg t cs
def mU (ws t:Nat):Bool:=Nat.beq (Nat.land (Nat.shiftRight ws t) 1) 1
def z7 (ws:Nat):List Nat→Bool
 | []=>true
 |c::cs=>mU ws c&&z7 ws cs
def Js (ρ ρj:Env)(ws:Nat)(cs:List Nat)(xs:List Value):Env:=λt=>
 match LA t 0 cs with
 |some i=>ix xs i
 |none=>match mU ws t with
  |true=>ρj t
  |false=>ρ t
def dE (body:(List Value→af→Prop)→Prop)(rest:List Value→Env→af→Prop):Prop:=
 ∃J:List Value→af→Prop,body J∧∀xs ρj h,J xs h→rest xs ρj h
def aS (init:List Value)(h:af)(body:List Value→Env→af→(List Value→af→Prop)→Prop):Prop:=
 ∃(I:List Value→af→Prop) (m:List Value→af→Nat),I init h∧∀xs ρj h,I xs h→body xs ρj h λys h'=>I ys h'∧m ys h'<m xs h
def aA (c:Value)(x y:Prop):Prop:=
 match c with
 | .bool b=>bif b then x else y
 |_=>False
abbrev CK:=Ann→Env→af→(Ex→Env→af→Prop)→Prop
def seqC (x y:CK):CK:=λan ρ h Q=>match an with
 | .s a b=>x a ρ h λe ρ h=>match e with
  | .nx=>y b ρ h Q
  |e=>Q e ρ h
 | .j ws cs a b=>dE (λJ=>x a ρ h λe ρ h=>match e with
   | .nx=>J (cs.map ρ) h
   |e=>Q e ρ h) λxs ρj h=>y b (Js ρ ρj ws cs xs) h Q
 |_=>False
def condC (c:Operand)(x y:CK):CK:=λan ρ h Q=>match an with
 | .s a b=>aA (ev ρ c) (x a ρ h Q) (y b ρ h Q)
 |_=>False
def Y6 (id:Nat) (x:CK):CK:=λan ρ h Q=>match an with
 | .m ws cs a=>dE (λJ=>x a ρ h λe ρ h=>match e with
   | .nx=>J (cs.map ρ) h
   | .br n=>match Nat.beq n id with
    |true=>J (cs.map ρ) h
    |false=>Q (.br n) ρ h
   | .rt=>Q .rt ρ h) λxs ρj h=>Q .nx (Js ρ ρj ws cs xs) h
 | a=>x a ρ h λe ρ h=>match e with
  | .nx=>Q .nx ρ h
  | .br n=>match Nat.beq n id with
   |true=>Q .nx ρ h
   |false=>Q (.br n) ρ h
  | .rt=>Q .rt ρ h
def loopC (x:CK):CK:=λan ρ h Q=>match an with
 | .l ws cs a=>aS (cs.map ρ) h λxs ρj h again=>x a (Js ρ ρj ws cs xs) h λe ρ h=>match e with
  | .nx=>again (cs.map ρ) h
  |e=>Q e ρ h
 |_=>False
noncomputable def Wx (P:Program)(ops:Array Oper)(draw:Bool):CK:=λan ρ h Q=>match an with
 | .d plan=>bD h λS=>zE P ops plan S ρ h (Q .nx)
 |_=>match draw with
  |true=>SK P ops ops.toList ρ h (Q .nx)
  |false=>VV P ops ops.toList ρ h (Q .nx)
noncomputable def Mp (P:Program)(c:Code):CK:=
 Code.rec (motive:=λ_=>CK)
  (λ_ ρ h Q=>Q .nx ρ h)
  (λ_ ops draw=>Wx P ops draw)
  (λ_ _ ihx ihy=>seqC ihx ihy)
  (λc _ _ ihx ihy=>condC c ihx ihy)
  (λid _ ih=>Y6 id ih)
  (λ_ ih=>loopC ih)
  (λ_ _ _ _ _ _=>λ_ _ _ _=>False)
  (λid _ ρ h Q=>Q (.br id) ρ h)
  (λ_ _=>λ_ _ _ _=>False)
  (λ_=>λ_ _ _ _=>False)
  (λ_=>λ_ _ _ _=>False)
  (λ_ ρ h Q=>Q .rt ρ h)
  (λ_=>λ_ _ _ _=>False)
  c
def pd (ops:Array Oper):Nat→Nat→Nat→Bool
 |0,_,_=>false
 |n+1,k,i=>match ops[k]? with
  |some o=>o.after.any λe=>Region.binds .any e&&(e.on==i||pd ops n e.on i)
  |none=>false
def Pw:List Edge→Nat→Nat
 | [],m=>m
 |e::l,m=>Pw l (match Region.binds .any e with|true=>Nat.lor m (Nat.pow 2 e.on)|false=>m)
def XQ (ops:Array Oper):Nat→Nat→Nat
 |0,m=>m
 | j+1,m=>XQ ops j (match mU m j with
  |true=>match ops[j]? with
   |some o=>Pw o.after.toList m
   |none=>m
  |false=>m)
def UF (ops:Array Oper)(k i:Nat):Bool:=mU (XQ ops ops.size (match ops[k]? with|some o=>Pw o.after.toList 0|none=>0)) i
def fT:PT→List Nat
 | .nil=>[]
 | .op i q t=>match q with
  | .f=>[i]
  | .n=>[i]
  |_=>fT t
 | .alt x y=>fT x++fT y
def rX:PT→List Nat
 | .nil=>[]
 | .op i _ _=>[i]
 | .alt x y=>rX x++rX y
def un:PT→Nat
 | .nil=>0
 | .op _ _ t=>un t+1
 | .alt x y=>Nat.max (un x) (un y)
def QA (P:Program)(ops:Array Oper)(i:Nat):Bool:=
 match ops[i]? with
 |some o=>y9 P o.op
 |none=>false
def lL (P:Program)(ops:Array Oper):PT→Bool→List Nat→Array Bool→Bool
 | .nil,root,_,listed=>root&&(Region.ready .any ops listed).isEmpty
 | .op i q t,root,fs,listed=>(match q with
   | .r=>root&&(Region.free .any ops listed i&&(Region.ready .any ops listed).contains i&&(fT t).all λk=> !(k==i)&&(QA P ops i||UF ops k i))
   | .e=>(bif root then Region.ready .any ops listed==[i]else(Region.ready .any ops listed).contains i)&& !((bif root then fT t else fs).contains i)
   |_=>bif root then Region.ready .any ops listed==[i]else(Region.ready .any ops listed).contains i)&&lL P ops t true [] (listed.setIfInBounds i true)
 | .alt x y,root,fs,listed=>(bif root then(Region.ready .any ops listed).all λi=>(rX x++rX y).contains i else true)&&
   (lL P ops x false (bif root then fT x++fT y else fs) listed&&lL P ops y false (bif root then fT x++fT y else fs) listed)
def Bs (n:Nat):List Oper→Bool
 | []=>true
 |o::l=>(match o.dst with|some d=>Nat.blt d n|none=>true)&&Bs n l
def fu (P:Program)(n:Nat):Code→Ann→Bool
 | .skip,_=>true
 | .region _ ops draw,an=>Bs n ops.toList&&match an with
  | .d plan=>draw&&Region.noSelect ops&&Nat.ble (un plan) ops.size&&lL P ops plan true [] (Array.replicate ops.size false)
  |_=>bif draw then Region.lexB .any ops else true
 | .seq x y,an=>match an with
  | .s a b=>fu P n x a&&fu P n y b
  | .j ws _ a b=>z7 ws (fI x)&&(fu P n x a&&fu P n y b)
  |_=>false
 | .cond _ x y,an=>match an with
  | .s a b=>fu P n x a&&fu P n y b
  |_=>false
 | .block _ x,an=>match an with
  | .m ws _ a=>z7 ws (fI x)&&fu P n x a
  |a=>fu P n x a
 | .loop x,an=>match an with
  | .l ws _ a=>z7 ws (fI x)&&fu P n x a
  |_=>false
 | .exit _,_=>true
 | .ret,_=>true
 |_,_=>false
def Rel (n:Nat)(a:Act)(ρ:Env):Prop:=a.tmps.size=n∧a.defers=[]∧∀t,a.tmps.getD t undef=ρ t
theorem Rel.eval {n:Nat}{a:Act}{ρ:Env}(h:Rel n a ρ):a.eval=ev ρ:=by
 funext x
 cases x<;>simp only[Act.eval,ev]
 exact h.2.2 _
theorem Rel.put {n:Nat}{a:Act}{ρ:Env}(h:Rel n a ρ){d:Option Tmp}(hd:(match d with|some d=>Nat.blt d n|none=>true)=true)(v:Value):Rel n (a.put d v) (up ρ d v):=by
 cases d with
 |none=>exact h
 | some d=>
  refine⟨by simp[Act.put,h.1],h.2.1,λt=>?_⟩;have hd':d<a.tmps.size:=by rw[h.1];simpa[Nat.blt_eq]using hd
  simp only[Act.put,up];have:=h.2.2 t;by_cases ht:t=d
  ·subst ht;simp[hd']
  ·have hb:Nat.beq t d=false:=by rw[Bool.eq_false_iff];intro hb;exact ht (Nat.eq_of_beq_eq_true hb)
   simp only[hb];rw[←this];simp only[Array.getD_eq_getD_getElem?];rw[Array.getElem?_setIfInBounds_ne (Ne.symm ht)]
def Em (n:Nat)(ρ:Env)(ws:List Tmp)(w0:World)(Q:Ex→Env→af→Prop):Exit→Act→World→Prop:=λe a w=>
 ∃ρ2,Rel n a ρ2∧(∀t,wg t ws=false→ρ2 t=ρ t)∧cW w0 w∧match e with
  | .normal=>Q .nx ρ2 w.heap
  | .exit id=>Q (.br id) ρ2 w.heap
  | .ret=>Q .rt ρ2 w.heap
  |_=>False
theorem pB (t:Nat):∀a b:List Nat,wg t (a++b)=(wg t a||wg t b)
 | [],b=>by simp[wg]
 |c::a,b=>by
  simp only[List.cons_append,wg,pB t a b];cases Nat.beq t c<;>simp
theorem CM {n:Nat}{a:Act}{ρ:Env}(hr:Rel n a ρ){all:Array Oper}{j:Nat}{want:Bool}{o:Oper}(hg:o.guard=some (j,want)):
  Region.wanted o (yielded all a.tmps)=(match gOf all ρ j with| .bool b=>b==want|_=>false):=by
 unfold Region.wanted;rw[hg];simp only;unfold yielded gOf;cases hd:(all[j]?).bind (·.dst)with
 |none=>rfl
 |some t=>
  have h2:=hr.2.2 t;simp only[Option.bind_some];rw[←h2];simp only[Array.getD_eq_getD_getElem?];cases h3:a.tmps[t]? with
  |none=>rfl
  |some v=>cases v<;>simp
section
variable {P:Program}{ρ:Env}{w:World}{n:Nat}{a:Act}
theorem vN {o:Oper}{K:Value→af→Prop}{next:Act→World→Prop}{Q:Exit→Act→World→Prop}(h:iU P K w ((execOp a.eval o).run P w))
  (hn:∀v w',cW w w'→K v w'.heap→next (a.put o.dst v) w'):o.wp P a w next Q:=by
 unfold Oper.wp;generalize(execOp a.eval o).run P w=r at h;unfold iU at h;split at h
 ·exact hn _ _ h.1 h.2
 ·exact hn _ _ h.1 h.2
 ·obtain⟨rfl,hc⟩:=h;refine(hc.2 _ rfl).mono ?_;rintro e w' ⟨v,rfl,hs,hk⟩;exact hn v w' hs hk
 ·exact h.elim
theorem Mo [jA P]{all:Array Oper}{o:Oper}{K:Value→af→Prop}{next:Act→World→Prop}{Q:Exit→Act→World→Prop}(hr:Rel n a ρ)(h:cOp P all ρ o w.heap K)
  (hn:∀v w',cW w w'→K v w'.heap→next (a.put o.dst v) w'):
  if Region.wanted o (yielded all a.tmps)then o.wp P a w next Q∨(o.asks P a w∧LetsOut Q)else next (a.put o.dst undef) w:=by
 have h:=VW h;unfold XN at h;cases hro:roV P ρ o.op w.heap with
 | some r=>
  simp only[roG,hro]at h;cases hg:o.guard with
  | none=>
   simp only[hg]at h;have hw:Region.wanted o (yielded all a.tmps)=true:=by simp[Region.wanted,hg]
   rw[if_pos hw];refine .inl ?_;unfold vK at h;split at h
   ·rename_i v;refine vN (K:=K) ?_ hn;rw[hr.eval,vh o rfl hro rfl];exact⟨cW.refl w,h⟩
   ·exact h.elim
  | some p=>
   obtain⟨j,want⟩:=p;simp only[hg]at h;rw[CM hr hg];unfold gV at h;split at h
   ·rename_i b hb;by_cases hbw:(b==want)=true
    ·rw[hbw]at h;simp only[cond_true]at h;rw[if_pos hbw];refine .inl ?_;unfold vK at h;split at h
     ·rename_i v;refine vN (K:=K) ?_ hn;rw[hr.eval,vh o rfl hro rfl];exact⟨cW.refl w,h⟩
     ·exact h.elim
    ·have hbw':(b==want)=false:=by simpa using hbw
     rw[hbw']at h;simp only[cond_false,vK]at h;rw[if_neg hbw];exact hn _ _ (cW.refl w) h
   ·rename_i hb;simp only[vK]at h;rw[if_neg (by simp)];exact hn _ _ (cW.refl w) h
 | none=>
  simp only[roG,hro,effG]at h;cases hg:o.guard with
  |none=>
   simp only[hg]at h;have hw:Region.wanted o (yielded all a.tmps)=true:=by simp[Region.wanted,hg]
   rw[if_pos hw];refine .inl (vN (K:=K) ?_ hn);rw[hr.eval];exact JE o rfl h
  | some p=>
   obtain⟨j,want⟩:=p;simp only[hg]at h;rw[CM hr hg];unfold gK at h;split at h
   ·rename_i b hb;by_cases hbw:(b==want)=true
    ·rw[hbw]at h;simp only[cond_true]at h;rw[if_pos hbw];refine .inl (vN (K:=K) ?_ hn);rw[hr.eval];exact JE o rfl h
    ·have hbw':(b==want)=false:=by simpa using hbw
     rw[hbw']at h;simp only[cond_false]at h;rw[if_neg hbw];exact hn _ _ (cW.refl w) h
   ·rename_i hb;rw[if_neg (by simp)];exact hn _ _ (cW.refl w) h
theorem BH {o:Oper}{l:List Oper}(h:Bs n (o::l)=true):(match o.dst with|some d=>Nat.blt d n|none=>true)=true∧Bs n l=true:=by
 simpa[Bs]using h
theorem NX {d:Option Tmp}{v:Value}{t:Nat}{rest:List Tmp}(ht:wg t (match d with|some d=>d::rest|none=>rest)=false):up ρ d v t=ρ t∧wg t rest=false:=by
 cases d with
 |none=>exact⟨rfl,ht⟩
 |some d=>
  simp only[wg]at ht;simp only[up];cases hb:Nat.beq t d with
  |true=>rw[hb]at ht;cases ht
  |false=>rw[hb]at ht;exact⟨rfl,ht⟩
theorem Ka [jA P]{all:Array Oper}{Q:Ex→Env→af→Prop}{Q':Exit→Act→World→Prop}:∀(l:List Oper) (k:Nat) (ρ:Env) (a:Act) (w:World),all.toList.drop k=l→Bs n l=true→Rel n a ρ→
  VV P all l ρ w.heap (Q .nx)→(∀e a' w',Em n ρ (l.filterMap (·.dst)) w Q e a' w'→Q' e a' w')→wpOps P all Q' (List.range' k l.length) a w
 | [],k,ρ,a,w,_,_,hr,h,hQ=>by
  simp only[List.length_nil,List.range'_zero,wpOps];exact hQ _ _ _ ⟨ρ,hr,λ_ _=>rfl,cW.refl w,h⟩
 | o::l,k,ρ,a,w,hd,hok,hr,h,hQ=>by
  have hk:all[k]? =some o:=by
   rw[←Array.getElem?_toList];have:(all.toList.drop k)[0]? =some o:=by rw[hd];rfl
   simpa using this
  have hd':all.toList.drop (k+1)=l:=by
   have:(all.toList.drop k).drop 1=l:=by rw[hd];rfl
   simpa[List.drop_drop]using this
  obtain⟨h1,h2⟩:=BH hok;simp only[List.length_cons,List.range'_succ,wpOps,hk];rw[T7]at h;refine Mo (n:=n) hr h λv w' hs hK=>?_
  refine Ka l (k+1) (up ρ o.dst v) _ w' hd' h2 (hr.put h1 v) hK λe a' w'' ⟨ρ2,g1,g2,g3,g4⟩=>hQ e a' w'' ⟨ρ2,g1,λt ht=>?_,hs.trans g3,g4⟩
  have:=NX (ρ:=ρ) (d:=o.dst) (v:=v) (t:=t) (rest:=l.filterMap (·.dst)) (by cases hdst:o.dst<;>simp[hdst]at ht ⊢ <;>exact ht);rw[g2 t this.2,this.1]
theorem Mw [jA P]{all:Array Oper}{o:Oper}{C:World→Prop}{K:Act→Prop}{h:af}{K0:Value→Prop}(hr:Rel n a ρ)(hC:∀w,C w→w.heap=h)
  (hv:roK P all ρ o h K0) (hn:∀v,K0 v→K (a.put o.dst v)):
  if Region.wanted o (yielded all a.tmps)then o.quiet P a C K else K (a.put o.dst undef):=by
 have hv:=Ur hv;unfold roG at hv;cases hro:roV P ρ o.op h with
 |none=>simp[hro]at hv
 | some r=>
  simp only[hro]at hv;have hq:∀v,r=some v→∀w,C w→o.quietAt P a C w v:=by
   intro v hrv w hw;unfold Oper.quietAt;rw[hr.eval,vh (w:=w) o rfl (by rw[hC w hw];exact hro) hrv];exact⟨rfl,rfl⟩
  cases hg:o.guard with
  | none=>
   simp only[hg]at hv;rw[if_pos (by simp[Region.wanted,hg])];unfold vK at hv;split at hv
   ·rename_i v;exact⟨v,hq v rfl,hn v hv⟩
   ·exact hv.elim
  | some p=>
   obtain⟨j,want⟩:=p;simp only[hg]at hv;rw[CM hr hg];unfold gV at hv;split at hv
   ·rename_i b hb;by_cases hbw:(b==want)=true
    ·rw[hbw]at hv;simp only[cond_true]at hv;rw[if_pos hbw];unfold vK at hv;split at hv
     ·rename_i v;exact⟨v,hq v rfl,hn v hv⟩
     ·exact hv.elim
    ·have hbw':(b==want)=false:=by simpa using hbw
     rw[hbw']at hv;simp only[cond_false,vK]at hv;rw[if_neg hbw];exact hn _ hv
   ·rename_i hb;simp only[vK]at hv;rw[if_neg (by simp)];exact hn _ hv
theorem Ge [jA P]{all:Array Oper}{Q:Ex→Env→af→Prop}{C:World→Prop}{h:af}{Q':Act→Prop}(hC:∀w,C w→w.heap=h):∀(l:List Oper) (ρ:Env) (a:Act),Bs n l=true→Rel n a ρ→
  SK P all l ρ h (Q .nx)→(∀a' ρ2,Rel n a' ρ2→(∀t,wg t (l.filterMap (·.dst))=false→ρ2 t=ρ t)→Q .nx ρ2 h→Q' a')→wpQuiet P all C Q' l a
 | [],ρ,a,_,hr,hh,hQ=>hQ _ ρ hr (λ_ _=>rfl) hh
 |o::l,ρ,a,hok,hr,hh,hQ=>by
  obtain⟨h1,h2⟩:=BH hok;simp only[wpQuiet];refine Mw (n:=n) (h:=h) hr hC (K0:=λv=>SK P all l (up ρ o.dst v) h (Q .nx)) hh λv hK=>?_
  refine Ge hC l (up ρ o.dst v) _ h2 (hr.put h1 v) hK λa' ρ2 g1 g2 g3=>hQ a' ρ2 g1 (λt ht=>?_) g3
  have:=NX (ρ:=ρ) (d:=o.dst) (v:=v) (t:=t) (rest:=l.filterMap (·.dst)) (by cases hdst:o.dst<;>simp[hdst]at ht ⊢ <;>exact ht);rw[g2 t this.2,this.1]
theorem Hp (w:World):cW w {w with drawn:=w.drawn+1}:=⟨rfl,rfl,rfl⟩
theorem Region.wanted_eq {all:Array Oper}{o:Oper}(hr:Rel n a ρ):Region.wanted o (yielded all a.tmps)=match o.guard with
  |none=>true
  |some (j,want)=>match gOf all ρ j with| .bool b=>b==want|_=>false:=by
 cases hg:o.guard with
 |none=>simp[Region.wanted,hg]
 |some p=>obtain⟨j,want⟩:=p;exact CM hr hg
theorem Fw [jA P]{all:Array Oper}{o:Oper}{S:af→Prop}{v:Value}{h0:af}(hr:Rel n a ρ)(h0S:S h0)
  (hv:∀h,S h→(match roG P all ρ o h with|some r=>r|none=>none)=some v):YieldsIf P all (λw=>S w.heap) o v a:=by
 unfold YieldsIf;rw[Region.wanted_eq hr];have key:∀h,S h→∃r,roV P ρ o.op h=some r∧(match o.guard with|none=>r|some (j,want)=>gV (gOf all ρ j) want r)=some v:=by
  intro h hh;have:=hv h hh;unfold roG at this;cases hro:roV P ρ o.op h with
  |none=>simp[hro]at this
  |some r=>
   simp only[hro]at this;refine⟨r,rfl,?_⟩;cases hg:o.guard with
   |none=>simpa[hg]using this
   |some p=>simpa[hg]using this
 cases hg:o.guard with
 |none=>
  refine .inl ⟨rfl,λw hw=>?_⟩;obtain⟨r,h1,h2⟩:=key _ hw;simp only[hg]at h2;rw[hr.eval];exact vh o rfl h1 h2
 | some p=>
  obtain⟨j,want⟩:=p;simp only[hg]at key;cases hgo:gOf all ρ j with
  | bool b=>
   simp only[hgo,gV]at key;cases hbw:(b==want)with
   |true=>
    refine .inl ⟨by simp only[hgo];exact hbw,λw hw=>?_⟩;obtain⟨r,h1,h2⟩:=key _ hw;rw[hbw,cond_true]at h2;rw[hr.eval];exact vh o rfl h1 h2
   |false=>
    obtain⟨r,h1,h2⟩:=key _ h0S;rw[hbw,cond_false]at h2;exact .inr ⟨by simp only[hgo];exact hbw,(Option.some.inj h2).symm⟩
  |_=>
   obtain⟨r,h1,h2⟩:=key _ h0S;simp only[hgo,gV]at h2;exact .inr ⟨by simp only[hgo],(Option.some.inj h2).symm⟩
theorem xK [jA P]{all:Array Oper}{i:Nat}{o:Oper}{K:Value→af→Prop}{next:Act→World→Prop}{Q:Exit→Act→World→Prop}(hi:all[i]? =some o)(hr:Rel n a ρ)(h:cOp P all ρ o w.heap K)
  (hn:∀v w',cW w w'→K v w'.heap→next (a.put o.dst v) w'):wpOp P all Q i next a w:=by
 unfold wpOp;simp only[hi];exact Mo hr h hn
theorem Tf {o:Oper}:∀(l:List Oper) (i:Nat),Bs n l=true→l[i]? =some o→(match o.dst with|some d=>Nat.blt d n|none=>true)=true:=by
 intro l;induction l with
 |nil=>intro i _ h;simp at h
 | cons o' l ih=>
  intro i h hi;obtain⟨h1,h2⟩:=BH h;cases i with
  |zero=>
   simp only[List.getElem?_cons_zero,Option.some.injEq]at hi;subst hi;exact h1
  |succ i=>
   simp only[List.getElem?_cons_succ]at hi;exact ih i h2 hi
theorem FR:∀{t:Nat} {l:List Nat},t∈l→wg t l=true
 | t,c::l,h=>by
  simp only[wg];cases hb:Nat.beq t c with
  |true=>rfl
  |false=>
   rcases List.mem_cons.1 h with rfl|h
   ·simp at hb
   ·exact FR h
theorem MD {all:Array Oper}{o:Oper}(h:y9 P o.op=true)(h1 h2:af):roG P all ρ o h1=roG P all ρ o h2:=by
 have:roV P ρ o.op h1=roV P ρ o.op h2:=by
  cases ho:o.op with
  | binOp op t x y z=>
   rw[ho]at h;have h:(match JD P t with| .p=>OZ x||OZ y|_=>true)=true:=h;unfold roV;cases he:JD P t with
   |p=>
    rw[he]at h;have h:(OZ x||OZ y)=true:=h;simp only[h]
   |_=>simp only[he]
  |_=>first|rfl|(rename_i m;cases m<;>rfl)|(exfalso;rw[ho]at h;cases h)
 unfold roG;rw[this]
def CH (ops:Array Oper)(listed:Array Bool):Prop:=
 ∀k o,ops[k]? =some o→listed.getD k false=true→∀e∈o.after,Region.binds .any e=true→listed.getD e.on false=true
theorem CH.step {ops:Array Oper}{listed:Array Bool}{j:Nat}(h:CH ops listed)(hj:j∈Region.ready .any ops listed):CH ops (listed.setIfInBounds j true):=by
 intro k o hk hl e he hb;refine getD_set_true ?_;by_cases hkj:k=j
 ·subst hkj;obtain⟨_,o',ho',hall⟩:=mem_ready.1 hj;rw[hk]at ho';cases ho';exact hall e he hb
 ·exact h k o hk (by rw[←getD_set_ne false (Ne.symm hkj)];exact hl) e he hb
theorem FQ {ops:Array Oper}{listed:Array Bool}(h:CH ops listed){i:Nat}:∀(n k:Nat),pd ops n k i=true→(∀o,ops[k]? =some o→∀e∈o.after,Region.binds .any e=true→listed.getD e.on false=true)→listed.getD i false=true
 |0,k,hp,_=>by simp[pd]at hp
 | n+1,k,hp,hk=>by
  unfold pd at hp;cases ho:ops[k]? with
  |none=>simp[ho]at hp
  |some o=>
   simp only[ho,Array.any_eq_true',Bool.and_eq_true,Bool.or_eq_true,beq_iff_eq]at hp;obtain⟨e,he,hb,hp⟩:=hp;have hl:=hk o ho e he hb;rcases hp with rfl|hp
   ·exact hl
   ·exact FQ h n e.on hp λo' ho' e' he' hb'=>h e.on o' ho' hl e' he' hb'
theorem VX (m e i:Nat):mU (Nat.lor m (Nat.pow 2 e)) i=true→mU m i=true∨i=e:=by
 have hb:∀m t,mU m t=m.testBit t:=by
  intro m t;unfold mU;have h1:Nat.land (Nat.shiftRight m t) 1=(m>>>t)%2:=Nat.and_one_is_mod _;rw[h1,Nat.shiftRight_eq_div_pow,Nat.testBit_eq_decide_div_mod_eq];cases h:Nat.beq (m/2^t%2) 1 with
  |true=>simp[Nat.eq_of_beq_eq_true h]
  |false=>have:¬m/2^t%2=1:=Nat.ne_of_beq_eq_false h;simp[this]
 rw[hb,hb];intro h;have h:(m|||2^e).testBit i=true:=h;rw[Nat.testBit_or,Nat.testBit_two_pow,Bool.or_eq_true,decide_eq_true_eq]at h;rcases h with h|h
 ·exact .inl h
 ·exact .inr h.symm
theorem HU {ops:Array Oper}{j i:Nat}{o:Oper}(ho:ops[j]? =some o){e:Edge}(he:e∈o.after)(hb:Region.binds .any e=true)(hi:e.on=i):∀(n k:Nat),pd ops n k j=true→∃n,pd ops n k i=true
 |0,k,h=>by simp[pd]at h
 | n+1,k,h=>by
  unfold pd at h;cases hk:ops[k]? with
  |none=>simp[hk]at h
  | some o'=>
   simp only[hk,Array.any_eq_true',Bool.and_eq_true,Bool.or_eq_true,beq_iff_eq]at h;obtain⟨e',he',hb',h⟩:=h;have fin:∀m,pd ops m e'.on i=true→∃n,pd ops n k i=true:=λm hm=>⟨m+1,by
    unfold pd;simp only[hk,Array.any_eq_true',Bool.and_eq_true,Bool.or_eq_true,beq_iff_eq];exact⟨e',he',hb',.inr hm⟩⟩
   rcases h with h|h
   ·refine fin 1 ?_;unfold pd;rw[h];simp only[ho,Array.any_eq_true',Bool.and_eq_true,Bool.or_eq_true,beq_iff_eq];exact⟨e,he,hb,.inl hi⟩
   ·obtain⟨m,hm⟩:=HU ho he hb hi n e'.on h;exact fin m hm
theorem Fh {i:Nat}:∀(l:List Edge) (m:Nat),mU (Pw l m) i=true→mU m i=true∨∃e∈l,Region.binds .any e=true∧e.on=i
 | [],m,h=>.inl h
 | e::l,m,h=>by
  unfold Pw at h;rcases Fh l _ h with h1|⟨e',h1,h2⟩
  ·cases hb:Region.binds .any e with
   |true=>
    simp only[hb]at h1;rcases VX _ _ _ h1 with h1|h1
    ·exact .inl h1
    ·exact .inr ⟨e,by simp,hb,h1.symm⟩
   |false=>
    simp only[hb]at h1;exact .inl h1
  ·exact .inr ⟨e',by simp[h1],h2⟩
theorem P8 {ops:Array Oper}{k:Nat}:∀(j m:Nat),(∀i,mU m i=true→∃n,pd ops n k i=true)→∀i,mU (XQ ops j m) i=true→∃n,pd ops n k i=true
 |0,m,H,i,h=>H i h
 | j +1,m,H,i,h=>by
  unfold XQ at h;refine P8 j _ ?_ i h;intro i h;cases hb:mU m j with
  |false=>simp only[hb]at h;exact H i h
  | true=>
   simp only[hb]at h;cases ho:ops[j]? with
   |none=>simp only[ho]at h;exact H i h
   | some o=>
    simp only[ho]at h;rcases Fh _ _ h with h|⟨e,h1,h2,h3⟩
    ·exact H i h
    ·obtain⟨n,hn⟩:=H j hb;exact HU ho (by simpa using h1) h2 h3 n k hn
theorem OD {ops:Array Oper}{k i:Nat}(h:UF ops k i=true):∃n,pd ops n k i=true:=by
 refine P8 ops.size _ ?_ i h;intro i h;cases ho:ops[k]? with
 |none=>
  simp only[ho]at h;simp[mU,Nat.shiftRight_eq_div_pow]at h
 | some o=>
  simp only[ho]at h;rcases Fh _ _ h with h|⟨e,h1,h2,h3⟩
  ·have:Nat.land (Nat.shiftRight 0 i) 1=0:=by
    have h1:Nat.land (Nat.shiftRight 0 i) 1=(0>>>i)%2:=Nat.and_one_is_mod _;rw[h1,Nat.shiftRight_eq_div_pow];simp
   unfold mU at h;rw[this]at h;cases h
  ·refine⟨1,?_⟩;unfold pd;simp only[ho,Array.any_eq_true',Bool.and_eq_true,Bool.or_eq_true,beq_iff_eq];exact⟨e,by simpa using h1,h2,.inl h3⟩
def mZ (P:Program)(ops:Array Oper)(Q:Exit→Act→World→Prop)(S:World→Prop)(F:Nat→Bool):Nat→Array Bool→Act→World→Prop
 |0,listed,a,w=>Region.ready .any ops listed=[]∧Q .normal a w
 |fuel+1,listed,a,w=>
  (Region.ready .any ops listed=[]→Q .normal a w)∧
  ∀i∈Region.ready .any ops listed,wpOp P ops Q i (λa' w'=>if F i=true then wpAny P .any ops Q fuel (listed.setIfInBounds i true) a' w' else S w'∧mZ P ops Q S F fuel (listed.setIfInBounds i true) a' w') a w
theorem rj {P:Program}{ops:Array Oper}{Q:Exit→Act→World→Prop}{S:World→Prop}{F:Nat→Bool}:∀(fuel:Nat) (listed:Array Bool) (a:Act) (w:World),mZ P ops Q S F fuel listed a w→wpAny P .any ops Q fuel listed a w
 |0,_,_,_,h=>h
 | fuel+1,_,_,_,h=>⟨h.1,λi hi=>wpOp_mono (λa' w' h'=>by
   split at h'
   ·exact h'
   ·exact rj fuel _ a' w' h'.2) (h.2 i hi)⟩
theorem Mv {P:Program}{ops:Array Oper}{Q:Exit→Act→World→Prop}{S:World→Prop}{F:Nat→Bool}{i:Nat}{oi:Oper}{v:Value}(hi:ops[i]? =some oi)(hsel:∀(j:Nat) (o:Oper) cs b,ops[j]? =some o→o.op≠ .select cs b)
  (hQ:∀c a w,Q (.panic c) (a.put oi.dst v) w→Q (.panic c) a w) (hFi:F i=false) (hF:∀k,F k=true→∃n,pd ops n k i=true):
  ∀(fuel:Nat) (listed:Array Bool) (a:Act) (w:World),
   (∀j oj,ops[j]? =some oj→j≠i→listed.getD j true=false→(∀e∈oj.after,Region.binds .any e=true→e.on≠i)→oi.apart ops oj=true)→
   CH ops listed→i∈Region.ready .any ops listed→YieldsIf P ops S oi v a→S w→
   mZ P ops Q S F fuel (listed.setIfInBounds i true) (a.put oi.dst v) w→mZ P ops Q S F (fuel+1) listed a w:=by
 have notF:∀{listed:Array Bool} {j:Nat},CH ops listed→i∈Region.ready .any ops listed→j∈Region.ready .any ops listed→¬F j=true:=by
  intro listed j hc hr hj hfj;obtain⟨n,hn⟩:=hF j hfj;obtain⟨_,oj,hoj,hall⟩:=mem_ready.1 hj;have h1:=FQ hc n j hn λo ho e he hb=>by rw[hoj]at ho;cases ho;exact hall e he hb
  have h0:=(mem_ready.1 hr).1;rcases Nat.lt_or_ge i listed.size with h'|h'
  ·simp[h']at h0 h1;rw[h0]at h1;cases h1
  ·simp[Array.getElem?_eq_none h']at h1
 have hnF:¬F i=true:=by rw[hFi];simp
 intro fuel;induction fuel with
 | zero=>
  intro listed a w _ hc hr hy hS H;refine⟨λh=>(by rw[h]at hr;cases hr),λj hj=>?_⟩;by_cases hji:j=i
  ·subst hji;exact hy.wpOp hi hS (by rw[if_neg hnF];exact⟨hS,H⟩)
  ·have:=ready_mono hj hji;rw[H.1]at this;cases this
 | succ fuel ih=>
  intro listed a w hfree hc hr hy hS H;refine⟨λh=>(by rw[h]at hr;cases hr),λj hj=>?_⟩;by_cases hji:j=i
  ·subst hji;exact hy.wpOp hi hS (by rw[if_neg hnF];exact⟨hS,H⟩)
  ·have h1:=H.2 j (ready_mono hj hji);have hnFj:=notF hc hr hj;simp only[if_neg hnFj]at h1 ⊢;obtain⟨hjun,oj,hoj,hall⟩:=mem_ready.1 hj;have hnot:∀e∈oj.after,Region.binds .any e=true→e.on≠i:=λe he hb heq=>by
    have h1:=hall e he hb;have h0:=(mem_ready.1 hr).1;rw[heq]at h1;rcases Nat.lt_or_ge i listed.size with h'|h'
    ·simp[h']at h0 h1;rw[h0]at h1;cases h1
    ·simp[Array.getElem?_eq_none h']at h1
   have h2:=wpOp_putIf hoj (hfree j oj hoj hji hjun hnot) (λcs b=>hsel i oi cs b hi) (λcs b=>hsel j oj cs b hoj) hQ hy h1;have hfree':∀k ok,ops[k]? =some ok→k≠i→(listed.setIfInBounds j true).getD k true=false→
     (∀e∈ok.after,Region.binds .any e=true→e.on≠i)→oi.apart ops ok=true:=λk ok hk hki hun hno=>by
    refine hfree k ok hk hki ?_ hno;by_cases hjk:j=k
    ·subst hjk;exact hjun
    ·rw[getD_set_ne true hjk]at hun;exact hun
   refine wpOp_mono (λa' w' h3=>⟨h3.2.1,ih (listed.setIfInBounds j true) a' w' hfree' (hc.step hj) (ready_mono hr (Ne.symm hji)) h3.1 h3.2.1 ?_⟩) h2;rw[Array.setIfInBounds_comm _ _ hji];exact h3.2.2
theorem Kq {P:Program}{ops:Array Oper}{Q:Exit→Act→World→Prop}{S:World→Prop}{F:Nat→Bool}{i:Nat}{oi:Oper}{v:Value}(hi:ops[i]? =some oi)(hsel:∀(j:Nat) (o:Oper) cs b,ops[j]? =some o→o.op≠ .select cs b)
  (hQ:∀c a w,Q (.panic c) (a.put oi.dst v) w→Q (.panic c) a w) (hFi:F i=false):
  ∀(fuel:Nat) (listed:Array Bool) (a:Act) (w:World),
   (∀j oj,ops[j]? =some oj→j≠i→listed.getD j true=false→(∀e∈oj.after,Region.binds .any e=true→e.on≠i)→oi.apart ops oj=true)→
   i∈Region.ready .any ops listed→Yields P ops oi v a→S w→
   mZ P ops Q S F fuel (listed.setIfInBounds i true) (a.put oi.dst v) w→mZ P ops Q S F (fuel+1) listed a w:=by
 have hnF:¬F i=true:=by rw[hFi];simp
 intro fuel;induction fuel with
 | zero=>
  intro listed a w _ hr hy hS H;refine⟨λh=>(by rw[h]at hr;cases hr),λj hj=>?_⟩;by_cases hji:j=i
  ·subst hji;exact hy.wpOp hi (by rw[if_neg hnF];exact⟨hS,H⟩)
  ·have:=ready_mono hj hji;rw[H.1]at this;cases this
 | succ fuel ih=>
  intro listed a w hfree hr hy hS H;refine⟨λh=>(by rw[h]at hr;cases hr),λj hj=>?_⟩;by_cases hji:j=i
  ·subst hji;exact hy.wpOp hi (by rw[if_neg hnF];exact⟨hS,H⟩)
  ·have h1:=H.2 j (ready_mono hj hji);obtain⟨hjun,oj,hoj,hall⟩:=mem_ready.1 hj;have hnot:∀e∈oj.after,Region.binds .any e=true→e.on≠i:=λe he hb heq=>by
    have h1:=hall e he hb;have h0:=(mem_ready.1 hr).1;rw[heq]at h1;rcases Nat.lt_or_ge i listed.size with h'|h'
    ·simp[h']at h0 h1;rw[h0]at h1;cases h1
    ·simp[Array.getElem?_eq_none h']at h1
   have h2:=wpOp_put hoj (hfree j oj hoj hji hjun hnot) (λcs b=>hsel i oi cs b hi) (λcs b=>hsel j oj cs b hoj) hQ hy h1;have hfree':∀k ok,ops[k]? =some ok→k≠i→(listed.setIfInBounds j true).getD k true=false→
     (∀e∈ok.after,Region.binds .any e=true→e.on≠i)→oi.apart ops ok=true:=λk ok hk hki hun hno=>by
    refine hfree k ok hk hki ?_ hno;by_cases hjk:j=k
    ·subst hjk;exact hjun
    ·rw[getD_set_ne true hjk]at hun;exact hun
   refine wpOp_mono (λa' w' h3=>?_) h2;obtain⟨hy',h3⟩:=h3;by_cases hF:F j=true
   ·rw[if_pos hF]at h3 ⊢;rw[Array.setIfInBounds_comm _ _ (Ne.symm hji)]at h3;exact wpAny_first hi hsel hQ fuel (listed.setIfInBounds j true) a' w' hfree' (ready_mono hr (Ne.symm hji)) hy' h3
   ·rw[if_neg hF]at h3 ⊢;refine⟨h3.1,ih (listed.setIfInBounds j true) a' w' hfree' (ready_mono hr (Ne.symm hji)) hy' h3.1 ?_⟩;rw[Array.setIfInBounds_comm _ _ hji];exact h3.2
theorem Fx {P:Program}{ops:Array Oper}{Q:Exit→Act→World→Prop}{S:World→Prop}{F F':Nat→Bool}(hF:∀k,F k=true→F' k=true):∀(fuel:Nat) (listed:Array Bool) (a:Act) (w:World),mZ P ops Q S F fuel listed a w→mZ P ops Q S F' fuel listed a w
 |0,_,_,_,h=>h
 | fuel+1,_,_,_,h=>⟨h.1,λi hi=>wpOp_mono (λa' w' h'=>by
   by_cases h1:F i=true
   ·rw[if_pos h1]at h';rw[if_pos (hF i h1)];exact h'
   ·rw[if_neg h1]at h';by_cases h2:F' i=true
    ·rw[if_pos h2];exact rj fuel _ a' w' h'.2
    ·rw[if_neg h2];exact⟨h'.1,Fx hF fuel _ a' w' h'.2⟩) (h.2 i hi)⟩
theorem NQ {P:Program}{ops:Array Oper}{Q:Exit→Act→World→Prop}{S:World→Prop}{F:Nat→Bool}{listed:Array Bool}{a:Act}{w:World}(h0:Region.ready .any ops listed=[])(hQ:Q .normal a w):∀fuel,mZ P ops Q S F fuel listed a w
 |0=>⟨h0,hQ⟩
 |fuel+1=>⟨λ_=>hQ,λi hi=>by rw[h0]at hi;cases hi⟩
theorem Br {ops:Array Oper}{listed:Array Bool}:∀(t:PT) (gs:List Nat),lL P ops t false gs listed=true→Region.ready .any ops listed≠[]
 | .nil,gs,h=>by simp[lL]at h
 | .op i q t,gs,h=>by
  intro h0;cases q<;>simp[lL,h0]at h
 | .alt x y,gs,h=>by
  simp only[lL,Bool.and_eq_true,cond_false]at h;exact Br x gs h.2.1
theorem iz [jA P]{all:Array Oper}{Q:Ex→Env→af→Prop}{Q':Exit→Act→World→Prop}{ρ0:Env}{w0:World}(hns:Region.noSelect all=true)(hok:Bs n all.toList=true)
  (hQp:∀c a w,¬Q' (.panic c) a w):∀(plan:PT) (root:Bool) (fs:List Nat) (S:af→Prop) (listed:Array Bool) (ρ:Env) (a:Act) (w:World) (fuel:Nat),lL P all plan root fs listed=true→un plan≤fuel→CH all listed→Rel n a ρ→(∀t,wg t (all.toList.filterMap (·.dst))=false→ρ t=ρ0 t)→cW w0 w→S w.heap→
  zE P all plan S ρ w.heap (Q .nx)→(∀e a' w',Em n ρ0 (all.toList.filterMap (·.dst)) w0 Q e a' w'→Q' e a' w')→
  (root=true→mZ P all Q' (λw=>S w.heap) (λj=>(fT plan).contains j) fuel listed a w)∧
  (root=false→(∀k,(fT plan).contains k=true→fs.contains k=true)→∀i∈Region.ready .any all listed,i∈rX plan→∃fuel',fuel=fuel'+1∧
   wpOp P all Q' i (λa' w'=>if fs.contains i=true then wpAny P .any all Q' fuel' (listed.setIfInBounds i true) a' w' else S w'.heap∧mZ P all Q' (λw=>S w.heap) (λj=>fs.contains j) fuel' (listed.setIfInBounds i true) a' w') a w)
 | .nil,root,fs,S,listed,ρ,a,w,fuel,hp,hf,hcl,hr,hρ,hs,hS,h,hQ=>by
  simp only[lL,Bool.and_eq_true]at hp;refine⟨λ_=>NQ (by simpa using hp.2) (hQ _ _ _ ⟨ρ,hr,hρ,hs,h⟩) fuel,λh0=>?_⟩;rw[h0]at hp;cases hp.1
 | .alt x y,root,fs,S,listed,ρ,a,w,fuel,hp,hf,hcl,hr,hρ,hs,hS,h,hQ=>by
  simp only[lL,Bool.and_eq_true]at hp;obtain⟨hp0,hp1,hp2⟩:=hp;rw[T8]at h;have hfx:un x≤fuel:=Nat.le_trans (Nat.le_max_left _ _) hf;have hfy:un y≤fuel:=Nat.le_trans (Nat.le_max_right _ _) hf;have key:∀gs:List Nat,lL P all x false gs listed=true→lL P all y false gs listed=true→(∀k,(fT x++fT y).contains k=true→gs.contains k=true)→∀i∈Region.ready .any all listed,i∈rX (.alt x y)→∃fuel',fuel=fuel'+1∧
    wpOp P all Q' i (λa' w'=>if gs.contains i=true then wpAny P .any all Q' fuel' (listed.setIfInBounds i true) a' w' else S w'.heap∧mZ P all Q' (λw=>S w.heap) (λj=>gs.contains j) fuel' (listed.setIfInBounds i true) a' w') a w:=by
   intro gs g1 g2 g3 i hi hih;rcases List.mem_append.1 hih with hih|hih
   ·exact(iz hns hok hQp x false gs S listed ρ a w fuel g1 hfx hcl hr hρ hs hS h.1 hQ).2 rfl (λk hk=>g3 k (by simp at hk ⊢;exact .inl hk)) i hi hih
   ·exact(iz hns hok hQp y false gs S listed ρ a w fuel g2 hfy hcl hr hρ hs hS h.2 hQ).2 rfl (λk hk=>g3 k (by simp at hk ⊢;exact .inr hk)) i hi hih
  refine⟨λh0=>?_,λh0 hk=>?_⟩
  ·subst h0;simp only[cond_true]at hp0 hp1 hp2;have k2:=key _ hp1 hp2 (λk hk=>hk);have hne:=Br x _ hp1;cases fuel with
   |zero=>
    obtain⟨i,hi⟩:=List.exists_mem_of_ne_nil _ hne;have:=List.all_eq_true.1 hp0 i hi;obtain⟨fuel',h1,_⟩:=k2 i hi (by simpa[rX]using this);cases h1
   | succ fuel=>
    refine⟨λhnone=>absurd hnone hne,λi hi=>?_⟩
    ·have hih:=List.all_eq_true.1 hp0 i hi;obtain⟨fuel',h1,h2⟩:=k2 i hi (by simpa[rX]using hih);cases h1;exact h2
  ·subst h0;simp only[cond_false]at hp1 hp2;exact key fs hp1 hp2 (λk hk'=>hk k hk')
 | .op i q plan,root,fs,S,listed,ρ,a,w,fuel,hp,hf,hcl,hr,hρ,hs,hS,h,hQ=>by
  obtain⟨fuel,rfl⟩:∃f,fuel=f+1:=⟨fuel-1,by simp only[un]at hf;omega⟩
  have hf':un plan≤fuel:=by simp only[un]at hf;omega
  simp only[lL,Bool.and_eq_true]at hp;obtain⟨hp1,hp2⟩:=hp;rw[RH]at h;cases hi:all[i]? with
  |none=>simp[hi]at h
  | some o=>
   simp only[hi]at h;have hd:=Tf (o:=o) all.toList i hok (by simpa using hi);have hρ':∀v t,wg t (all.toList.filterMap (·.dst))=false→up ρ o.dst v t=ρ0 t:=by
    intro v t ht;rw[←hρ t ht];cases hdst:o.dst with
    |none=>rfl
    | some d=>
     simp only[up];cases hb:Nat.beq t d with
     |false=>rfl
     |true=>
      have htd:=Nat.eq_of_beq_eq_true hb;subst htd;rw[FR (List.mem_filterMap.2 ⟨o,List.mem_of_getElem? (i:=i) (by simpa using hi),hdst⟩)]at ht;cases ht
   cases q with
   | r =>
    simp only[Bool.and_eq_true]at hp1;obtain⟨hroot,⟨hfree,hready⟩,hnext⟩:=hp1;refine⟨λ_=>?_,λh0=>by rw[hroot]at h0;cases h0⟩;have hin:i∈Region.ready .any all listed:=by simpa using hready
    simp only at h;have hall:∀k,(fT plan).contains k=true→¬k=i∧(QA P all i=true∨UF all k i=true):=by
     intro k hk;have:=List.all_eq_true.1 hnext k (by simpa using hk);simpa using this
    have hFi:(fT plan).contains i=false:=by
     rw[Bool.eq_false_iff];intro hc;exact(hall i hc).1 rfl
    cases hl:y9 P o.op with
    |false=>
     simp only[hl]at h;obtain⟨v,hv,hK⟩:=h;have ih:=(iz hns hok hQp plan true [] S _ _ _ w fuel hp2 hf' (hcl.step hin) (hr.put hd v) (hρ' v) hs hS hK hQ).1 rfl;refine Mv (F:=λj=>(fT plan).contains j) hi (Region.noSelect_spec hns) (λc a w hq=>absurd hq (hQp _ _ _)) hFi ?_ fuel listed a w (Region.free_spec hi hfree) hcl hin (Fw hr hS hv) hS ih;intro k hk;rcases(hall k hk).2 with h1|h1
     ·simp[QA,hi,hl]at h1
     ·exact OD h1
    | true=>
     simp only[hl]at h;have h:=Ur h;cases hg:roG P all ρ o w.heap with
     |none=>rw[hg]at h;exact h.elim
     | some r=>
      rw[hg]at h;simp only[vK]at h;split at h
      ·rename_i v;have ih:=(iz hns hok hQp plan true [] S _ _ _ w fuel hp2 hf' (hcl.step hin) (hr.put hd v) (hρ' v) hs hS h hQ).1 rfl;have hyI:=Fw (all:=all) (S:=λ_=>True) (v:=v) (h0:=w.heap) hr trivial (λh' _=>by rw[MD hl h' w.heap,hg]);have hy:Yields P all o v a:=hyI.imp (λ⟨g1,g2⟩=>⟨g1,λw=>g2 w trivial⟩) id;exact Kq (F:=λj=>(fT plan).contains j) hi (Region.noSelect_spec hns) (λc a w hq=>absurd hq (hQp _ _ _)) hFi fuel listed a w (Region.free_spec hi hfree) hin hy hS ih
      ·exact h.elim
   | e=>
    simp only[Bool.and_eq_true,Bool.not_eq_true']at hp1;obtain⟨hready,hnext⟩:=hp1;have step:∀gs:List Nat,gs.contains i=false→(∀k,(fT plan).contains k=true→gs.contains k=true)→i∈Region.ready .any all listed→
      wpOp P all Q' i (λa' w'=>if gs.contains i=true then wpAny P .any all Q' fuel (listed.setIfInBounds i true) a' w' else S w'.heap∧mZ P all Q' (λw=>S w.heap) (λj=>gs.contains j) fuel (listed.setIfInBounds i true) a' w') a w:=by
     intro gs hg hsub hin;refine xK hi hr h λv w' hs' hK=>?_
     refine Eq.mpr (if_neg (by rw[hg];exact Bool.false_ne_true)) ?_;exact⟨hK.1,Fx hsub _ _ _ _ ((iz hns hok hQp plan true [] S _ _ _ w' fuel hp2 hf' (hcl.step hin) (hr.put hd v) (hρ' v) (hs.trans hs') hK.1 hK.2 hQ).1 rfl)⟩
    refine⟨λh0=>?_,λh0 hsub j hj hjh=>?_⟩
    ·subst h0;simp only[cond_true]at hready hnext;have hready:Region.ready .any all listed=[i]:=by simpa using hready
     refine⟨λh0=>(by rw[h0]at hready;cases hready),λj hj=>?_⟩;obtain rfl:j=i:=by rw[hready]at hj;simpa using hj
     exact step (fT plan) hnext (λk hk=>hk) hj
    ·subst h0;obtain rfl:j=i:=by simpa[rX]using hjh
     simp only[cond_false]at hnext;exact⟨fuel,rfl,step fs hnext hsub hj⟩
   | f=>
    have step:i∈Region.ready .any all listed→wpOp P all Q' i (λa' w'=>wpAny P .any all Q' fuel (listed.setIfInBounds i true) a' w') a w:=by
     intro hin;refine xK hi hr h λv w' hs' hK=>?_
     obtain⟨S',hS',hK⟩:=hK;exact rj _ _ _ _ ((iz hns hok hQp plan true [] S' _ _ _ w' fuel hp2 hf' (hcl.step hin) (hr.put hd v) (hρ' v) (hs.trans hs') hS' hK hQ).1 rfl)
    refine⟨λh0=>?_,λh0 hsub j hj hjh=>?_⟩
    ·subst h0;have hready:Region.ready .any all listed=[i]:=by simpa using hp1
     refine⟨λh0=>(by rw[h0]at hready;cases hready),λj hj=>?_⟩;obtain rfl:j=i:=by rw[hready]at hj;simpa using hj
     exact wpOp_mono (λa' w' h'=>Eq.mpr (if_pos (by simp[fT])) h') (step hj)
    ·obtain rfl:j=i:=by simpa[rX]using hjh
     exact⟨fuel,rfl,wpOp_mono (λa' w' h'=>Eq.mpr (if_pos (hsub j (by simp[fT]))) h') (step hj)⟩
   | n=>
    have step:i∈Region.ready .any all listed→wpOp P all Q' i (λa' w'=>wpAny P .any all Q' fuel (listed.setIfInBounds i true) a' w') a w:=by
     intro hin;refine xK hi hr h λv w' hs' hK=>?_
     exact rj _ _ _ _ ((iz hns hok hQp plan true [] (λ_=>True) _ _ _ w' fuel hp2 hf' (hcl.step hin) (hr.put hd v) (hρ' v) (hs.trans hs') trivial hK hQ).1 rfl)
    refine⟨λh0=>?_,λh0 hsub j hj hjh=>?_⟩
    ·subst h0;have hready:Region.ready .any all listed=[i]:=by simpa using hp1
     refine⟨λh0=>(by rw[h0]at hready;cases hready),λj hj=>?_⟩;obtain rfl:j=i:=by rw[hready]at hj;simpa using hj
     exact wpOp_mono (λa' w' h'=>Eq.mpr (if_pos (by simp[fT])) h') (step hj)
    ·obtain rfl:j=i:=by simpa[rX]using hjh
     exact⟨fuel,rfl,wpOp_mono (λa' w' h'=>Eq.mpr (if_pos (hsub j (by simp[fT]))) h') (step hj)⟩
theorem sV {ws:Nat}:∀{l:List Nat},z7 ws l=true→∀{t:Nat},mU ws t=false→wg t l=false
 | [],_,_,_=>rfl
 | c::l,h,t,ht=>by
  simp only[z7,Bool.and_eq_true]at h;simp only[wg];cases hb:Nat.beq t c with
  |true=>
   have:=Nat.eq_of_beq_eq_true hb;subst this;rw[h.1]at ht;cases ht
  |false=>exact sV h.2 ht
theorem Cf {ρ ρ':Env}{ws:Nat}{cs:List Nat}(h:∀t,mU ws t=false→ρ' t=ρ t):Js ρ ρ' ws cs (cs.map ρ')=ρ':=by
 funext t
 have key:∀(cs:List Nat) (k:Nat),match LA t k cs with|some i=>k≤i∧cs[i-k]? =some t|none=>True:=by
  intro cs;induction cs with
  |nil=>intro k;simp[LA]
  | cons c cs ih=>
   intro k;simp only[LA];cases hb:Nat.beq t c with
   |true=>have:=Nat.eq_of_beq_eq_true hb;subst this;simp
   | false=>
    simp only[cond_false];have:=ih (k+1);split
    ·rename_i i hi;rw[hi]at this;refine⟨by omega,?_⟩;rw[show i-k=(i-(k+1))+1 from by omega];simpa using this.2
    ·trivial
 have k0:=key cs 0;unfold Js;cases hp:LA t 0 cs with
 |some i=>
  rw[hp]at k0;simp only;have:cs[i]? =some t:=by simpa using k0.2
  unfold ix;rw[List.getD_eq_getElem?_getD,List.getElem?_map,this];rfl
 |none=>
  simp only;cases hm:mU ws t with
  |true=>rfl
  |false=>exact(h t hm).symm
theorem P4 [jA P](hm:P.follows .mixedOrders=true):∀(c:Code) (an:Ann) (ρ:Env) (a:Act) (w:World) (Q:Ex→Env→af→Prop),fu P n c an=true→Rel n a ρ→Mp P c an ρ w.heap Q→
  c.wp P (Em n ρ (fI c) w Q) a w:=by
 intro c;induction c with
 |skip=>intro an ρ a w Q _ hr h;exact wp_skip ⟨ρ,hr,λ_ _=>rfl,cW.refl w,h⟩
 |exit id=>intro an ρ a w Q _ hr h;exact wp_exit ⟨ρ,hr,λ_ _=>rfl,cW.refl w,h⟩
 |ret=>intro an ρ a w Q _ hr h;exact wp_ret ⟨ρ,hr,λ_ _=>rfl,cW.refl w,h⟩
 | region id ops draw=>
  intro an ρ a w Q hok hr h;have hops:Bs n ops.toList=true:=by simp only[fu,Bool.and_eq_true]at hok;exact hok.1
  have seqCase:VV P ops ops.toList ρ w.heap (Q .nx)→(Code.region id ops false).wp P (Em n ρ (fI (.region id ops false)) w Q) a w:=by
   intro h;refine wp_region ?_;have:=Ka (Q:=Q) (Q':=Em n ρ (ops.toList.filterMap (·.dst)) w Q) ops.toList 0 ρ a w (by simp) hops hr h (λ_ _ _ h=>h);rw[List.range_eq_range'];have e:wpOps P ops (Em n ρ (ops.toList.filterMap (·.dst)) w Q) (List.range' 0 ops.size) a w:=by simpa using this
   exact e
  have roCase:Region.lexB .any ops=true→SK P ops ops.toList ρ w.heap (Q .nx)→(Code.region id ops true).wp P (Em n ρ (fI (.region id ops true)) w Q) a w:=by
   intro hl h;refine wp_region_quiet (C:=λw'=>cW w w'∧w'.heap=w.heap) hm hl ⟨Hp w,rfl⟩ ?_;refine Ge (C:=λw'=>cW w w'∧w'.heap=w.heap) (λw' h=>h.2) ops.toList ρ a hops hr h λa' ρ2 g1 g2 g3 w' hw'=>?_
   exact⟨ρ2,g1,g2,hw'.1,by simp only[hw'.2];exact g3⟩
  have other:(∀plan,an≠ .d plan)→(Code.region id ops draw).wp P (Em n ρ (fI (.region id ops draw)) w Q) a w:=by
   intro hne;cases draw with
   |false=>cases an<;>first|exact absurd rfl (hne _)|exact seqCase h
   |true=>cases an<;>first|exact absurd rfl (hne _)|exact roCase (by simp only[fu,Bool.and_eq_true]at hok;exact hok.2) h
  by_cases hd:∃plan,an=.d plan
  ·obtain⟨plan,rfl⟩:=hd;simp only[fu,Bool.and_eq_true]at hok;obtain⟨_,⟨⟨h1,h2⟩,h3⟩,h4⟩:=hok;subst h1;obtain⟨S,hS,h⟩:=h;refine wp_region_any hm ?_;have:=iz (P:=P) (Q:=Q) (Q':=Em n ρ (ops.toList.filterMap (·.dst)) w Q) (ρ0:=ρ) (w0:=w) h2 hops (λc a w hq=>by obtain⟨_,_,_,_,hf⟩:=hq;exact hf)
    plan true [] S (Array.replicate ops.size false) ρ a {w with drawn:=w.drawn+1} ops.size h4 (Nat.le_of_ble_eq_true h3) (λk o hk hl=>by simp[Array.getElem?_replicate]at hl;split at hl<;>simp at hl) hr (λ_ _=>rfl) (Hp w) hS h (λ_ _ _ h=>h)
   exact rj _ _ _ _ (this.1 rfl)
  ·exact other (λplan he=>hd ⟨plan,he⟩)
 | seq x y ihx ihy=>
  intro an ρ a w Q hok hr h;have lift:∀{ρ1:Env} {w1:World} (_:∀t,wg t (fI x)=false→ρ1 t=ρ t) (_:cW w w1) (e:Exit) (a2:Act) (w2:World),Em n ρ1 (fI y) w1 Q e a2 w2→Em n ρ (fI (.seq x y)) w Q e a2 w2:=by
   intro ρ1 w1 h1 h2 e a2 w2 ⟨ρ2,g1,g2,g3,g4⟩;refine⟨ρ2,g1,λt ht=>?_,h2.trans g3,g4⟩;simp only[fI,pB,Bool.or_eq_false_iff]at ht;rw[g2 t ht.2,h1 t ht.1]
  have liftx:∀(e:Exit) (a2:Act) (w2:World),Em n ρ (fI x) w Q e a2 w2→Em n ρ (fI (.seq x y)) w Q e a2 w2:=by
   intro e a2 w2 ⟨ρ2,g1,g2,g3,g4⟩;refine⟨ρ2,g1,λt ht=>?_,g3,g4⟩;simp only[fI,pB,Bool.or_eq_false_iff]at ht;exact g2 t ht.1
  cases an with
  |s p q=>
   simp only[fu,Bool.and_eq_true]at hok;refine wp_seq (wp_mono (ihx p ρ a w _ hok.1 hr h) ?_);intro e a1 w1 ⟨ρ1,g1,g2,g3,g4⟩;cases e with
   |normal=>exact wp_mono (ihy q ρ1 a1 w1 Q hok.2 g1 g4) (lift g2 g3)
   |exit id=>exact liftx (.exit id) a1 w1 ⟨ρ1,g1,g2,g3,g4⟩
   |ret=>exact liftx .ret a1 w1 ⟨ρ1,g1,g2,g3,g4⟩
   |_=>exact g4.elim
  | j ws cs p q=>
   simp only[fu,Bool.and_eq_true]at hok;obtain⟨hws,hok⟩:=hok;obtain⟨J,h1,h2⟩:=h;refine wp_seq (wp_mono (ihx p ρ a w _ hok.1 hr h1) ?_);intro e a1 w1 ⟨ρ1,g1,g2,g3,g4⟩;cases e with
   |normal=>
    have this:Mp P y q (Js ρ ρ1 ws cs (cs.map ρ1)) w1.heap Q:=h2 (cs.map ρ1) ρ1 w1.heap g4;rw[Cf (λt ht=>g2 t (sV hws ht))]at this;exact wp_mono (ihy q ρ1 a1 w1 Q hok.2 g1 this) (lift g2 g3)
   |exit id=>exact liftx (.exit id) a1 w1 ⟨ρ1,g1,g2,g3,g4⟩
   |ret=>exact liftx .ret a1 w1 ⟨ρ1,g1,g2,g3,g4⟩
   |_=>exact g4.elim
  |_=>simp[fu]at hok
 | cond c x y ihx ihy=>
  intro an ρ a w Q hok hr h;cases an with
  | s p q=>
   simp only[fu,Bool.and_eq_true]at hok;have h:aA (ev ρ c) (Mp P x p ρ w.heap Q) (Mp P y q ρ w.heap Q):=h;unfold aA at h;split at h
   ·rename_i b hb;refine wp_cond (t:=b) (by rw[hr.eval];exact hb) ?_;cases b with
    |true=>
     refine wp_mono (ihx p ρ a w Q hok.1 hr h) ?_;intro e a2 w2 ⟨ρ2,g1,g2,g3,g4⟩;refine⟨ρ2,g1,λt ht=>?_,g3,g4⟩;simp only[fI,pB,Bool.or_eq_false_iff]at ht;exact g2 t ht.1
    |false=>
     refine wp_mono (ihy q ρ a w Q hok.2 hr h) ?_;intro e a2 w2 ⟨ρ2,g1,g2,g3,g4⟩;refine⟨ρ2,g1,λt ht=>?_,g3,g4⟩;simp only[fI,pB,Bool.or_eq_false_iff]at ht;exact g2 t ht.2
   ·exact h.elim
  |_=>simp[fu]at hok
 | block id x ih=>
  intro an ρ a w Q hok hr h;have plain:∀an',fu P n x an'=true→Mp P x an' ρ w.heap (λe ρ h=>match e with
   | .nx=>Q .nx ρ h
   | .br n=>bif Nat.beq n id then Q .nx ρ h else Q (.br n) ρ h
   | .rt=>Q .rt ρ h)→(Code.block id x).wp P (Em n ρ (fI (.block id x)) w Q) a w:=by
   intro an' hok h;refine wp_block (wp_mono (ih an' ρ a w _ hok hr h) ?_);intro e a1 w1 ⟨ρ1,g1,g2,g3,g4⟩;cases e with
   |normal=>exact⟨ρ1,g1,g2,g3,g4⟩
   | exit id'=>
    simp only[Exit.inBlock];simp only at g4;by_cases hid:id'=id
    ·subst hid;rw[if_pos rfl];simp only[Nat.beq_refl]at g4;exact⟨ρ1,g1,g2,g3,g4⟩
    ·rw[if_neg hid];have hb:Nat.beq id' id=false:=by rw[Bool.eq_false_iff];intro hb;exact hid (Nat.eq_of_beq_eq_true hb)
     simp only[hb]at g4;exact⟨ρ1,g1,g2,g3,g4⟩
   |ret=>exact⟨ρ1,g1,g2,g3,g4⟩
   |_=>exact g4.elim
  cases an with
  | m ws cs p=>
   simp only[fu,Bool.and_eq_true]at hok;obtain⟨hws,hok⟩:=hok;obtain⟨J,h1,h2⟩:=h;refine wp_block (wp_mono (ih p ρ a w _ hok hr h1) ?_);intro e a1 w1 ⟨ρ1,g1,g2,g3,g4⟩;have meet:J (cs.map ρ1) w1.heap→Q .nx ρ1 w1.heap:=by
    intro hJ;have this:Q .nx (Js ρ ρ1 ws cs (cs.map ρ1)) w1.heap:=h2 (cs.map ρ1) ρ1 w1.heap hJ
    rwa [Cf (λt ht=>g2 t (sV hws ht))]at this
   cases e with
   |normal=>exact⟨ρ1,g1,g2,g3,meet g4⟩
   | exit id'=>
    simp only[Exit.inBlock];simp only at g4;by_cases hid:id'=id
    ·subst hid;rw[if_pos rfl];simp only[Nat.beq_refl]at g4;exact⟨ρ1,g1,g2,g3,meet g4⟩
    ·rw[if_neg hid];have hb:Nat.beq id' id=false:=by rw[Bool.eq_false_iff];intro hb;exact hid (Nat.eq_of_beq_eq_true hb)
     simp only[hb]at g4;exact⟨ρ1,g1,g2,g3,g4⟩
   |ret=>exact⟨ρ1,g1,g2,g3,g4⟩
   |_=>exact g4.elim
  |_=>exact plain _ hok h
 | loop x ih=>
  intro an ρ a w Q hok hr h;cases an with
  | l ws cs p=>
   simp only[fu,Bool.and_eq_true]at hok;obtain⟨hws,hok⟩:=hok;obtain⟨I,m,h0,h1⟩:=h
   let val:Act→Nat→Value:=λa t=>a.tmps.getD t undef
   refine wp_loop (λa' w'=>Rel n a' (val a')∧(∀t,wg t (fI x)=false→val a' t=ρ t)∧cW w w'∧I (cs.map (val a')) w'.heap) (λa' w'=>m (cs.map (val a')) w'.heap) ?_ ?_
   ·have e:val a=ρ:=funext hr.2.2;rw[e];exact⟨hr,λ_ _=>rfl,cW.refl w,h0⟩
   ·intro a' w' ⟨i1,i2,i3,i4⟩;have hb:=h1 (cs.map (val a')) (val a') w'.heap i4;simp only at hb;rw[Cf (λt ht=>i2 t (sV hws ht))]at hb;refine wp_mono (ih p (val a') a' w' _ hok i1 hb) ?_;intro e a2 w2 ⟨ρ2,g1,g2,g3,g4⟩;have e2:val a2=ρ2:=funext g1.2.2;cases e with
    |normal=>
     simp only[Exit.then];rw[e2];exact⟨⟨g1,λt ht=>by rw[g2 t ht,i2 t ht],i3.trans g3,g4.1⟩,g4.2⟩
    |exit id=>exact⟨ρ2,g1,λt ht=>by rw[g2 t ht,i2 t ht],i3.trans g3,g4⟩
    |ret=>exact⟨ρ2,g1,λt ht=>by rw[g2 t ht,i2 t ht],i3.trans g3,g4⟩
    |_=>exact g4.elim
  |_=>simp[fu]at hok
 |_=>intro an ρ a w Q hok hr h;simp[fu]at hok
end
noncomputable def Gi (P:Program)(rs:List ResultVar):List Value→Env→af→(Value→af→Prop)→Prop:=
 List.rec (motive:=λ_=>List Value→Env→af→(Value→af→Prop)→Prop)
  (λacc _ h R=>R (match acc with| [v]=>v|l=>.tuple l.reverse.toArray) h)
  (λr _ ih acc ρ h R=>match r with
   | .tmp t=>ih (ρ t::acc) ρ h R
   | .cell a t=>match w7 P t with
    |some false=>vK (ldV h (ρ a)) λv=>ih (v::acc) ρ h R
    |some true=>match dH P t with
     |some n=>vK (aH n h (ρ a)) λv=>ih (v::acc) ρ h R
     |none=>False
    |none=>False) rs
theorem Ut {P:Program}{acc:List Value}{ρ:Env}{h:af}{R:Value→af→Prop}:Gi P [] acc ρ h R=R (match acc with| [v]=>v|l=>.tuple l.reverse.toArray) h:=rfl
theorem Us {P:Program}{t:Tmp}{rs:List ResultVar}{acc:List Value}{ρ:Env}{h:af}{R:Value→af→Prop}:Gi P (.tmp t::rs) acc ρ h R=Gi P rs (ρ t::acc) ρ h R:=rfl
theorem Tb {P:Program}{a:Tmp}{t:TypeId}{rs:List ResultVar}{acc:List Value}{ρ:Env}{h:af}{R:Value→af→Prop}:Gi P (.cell a t::rs) acc ρ h R=match w7 P t with
  |some false=>vK (ldV h (ρ a)) λv=>Gi P rs (v::acc) ρ h R
  |some true=>match dH P t with
   |some n=>vK (aH n h (ρ a)) λv=>Gi P rs (v::acc) ρ h R
   |none=>False
  |none=>False:=rfl
def Vf (args:List Value):Env:=λt=>args.getD t undef
noncomputable def X5 (P:Program)(c:Code)(an:Ann)(rs:List ResultVar)(args:List Value)(h:af)(R:Value→af→Prop):Prop:=
 Mp P c an (Vf args) h λe ρ h=>match e with
  | .nx=>Gi P rs [] ρ h R
  | .rt=>Gi P rs [] ρ h R
  | .br _=>False
theorem yF {P:Program} {w:World} {R:Value→af→Prop} {tmps:Array Value}:∀(rs:List ResultVar) (acc:List Value),Gi P rs acc (λt=>tmps.getD t undef) w.heap R→
  ∃l,(rs.mapM (λ| .tmp t=>pure (tmps.getD t undef)| .cell a t=>do loadVar t (←asAddr (tmps.getD a undef)):ResultVar→Sem Value)).run P w=.ok l w∧R (match l.reverse++acc with| [v]=>v|l=>.tuple l.reverse.toArray) w.heap
 | [],acc,h=>⟨[],rfl,by rw[Ut]at h;simpa using h⟩
 | .tmp t::rs,acc,h=>by
  rw[Us]at h;obtain⟨l,h1,h2⟩:=yF rs (tmps.getD t undef::acc) h;refine⟨tmps.getD t undef::l,?_,by simpa using h2⟩;simp only[List.mapM_cons,Sem.run_bind,Sem.run_pure,Result.andThen_ok,h1]
 | .cell a t::rs,acc,h=>by
  rw[Tb]at h;cases hta:w7 P t with
  |none=>simp[hta]at h
  | some b=>
   simp only[hta]at h;have key:∀v,(∃ad,tmps.getD a undef=.pointer (some ad)∧(loadVar t ad).run P w=.ok v w)→Gi P rs (v::acc) (λt=>tmps.getD t undef) w.heap R→∃l,((ResultVar.cell a t::rs).mapM (λ| .tmp t=>pure (tmps.getD t undef)| .cell a t=>do loadVar t (←asAddr (tmps.getD a undef)):ResultVar→Sem Value)).run P w=.ok l w∧R (match l.reverse++acc with| [v]=>v|l=>.tuple l.reverse.toArray) w.heap:=by
    intro v ⟨ad,hp,hl⟩ h;obtain⟨l,h1,h2⟩:=yF rs (v::acc) h;refine⟨v::l,?_,by simpa using h2⟩;have has:(asAddr (tmps.getD a undef)).run P w=.ok ad w:=by rw[hp];rfl
    simp only[List.mapM_cons,Sem.run_bind,Sem.run_pure,Result.andThen_ok,has,hl,h1]
   cases b with
   | false=>
    simp only at h;unfold vK at h;split at h
    ·rename_i v hv;refine key v ?_ h;unfold ldV at hv;split at hv
     ·rename_i ad hp;exact⟨ad,hp,xt hta hv⟩
     ·cases hv
    ·exact h.elim
   | true=>
    simp only at h;cases hs:dH P t with
    |none=>simp[hs]at h
    | some n=>
     simp only[hs]at h;unfold vK at h;split at h
     ·rename_i v hv;refine key v ?_ h;unfold aH at hv;split at hv
      ·rename_i ad hp;cases hl:dy w.heap ad 0 n with
       |none=>simp[hl]at hv
       |some l=>
        simp only[hl,Option.map_some,Option.some.injEq]at hv;subst hv;exact⟨ad,hp,xu hta hs hl⟩
      ·cases hv
     ·exact h.elim
theorem Qv {P:Program}{ρ:Env}{w:World}{R:Value→af→Prop}{fn:Func}{tmps:Array Value}(ht:∀t,tmps.getD t undef=ρ t)(h:Gi P fn.results.toList [] ρ w.heap R):
  ∃v,(results fn tmps).run P w=.ok v w∧R v w.heap:=by
 obtain rfl:ρ=λt=>tmps.getD t undef:=funext λt=>(ht t).symm
 obtain⟨l,h1,h2⟩:=yF _ [] h;have e:(fn.results.mapM (λ| .tmp t=>pure (tmps.getD t undef)| .cell a t=>do loadVar t (←asAddr (tmps.getD a undef)):ResultVar→Sem Value)).run P w=.ok l.toArray w:=by
  rw[Array.mapM_eq_mapM_toList,Sem.run_map,h1];rfl
 have hres:results fn tmps=(do
  let vs←fn.results.mapM (λ| .tmp t=>pure (tmps.getD t undef)| .cell a t=>do loadVar t (←asAddr (tmps.getD a undef)):ResultVar→Sem Value)
  pure (if h:vs.size=1 then vs[0]else .tuple vs)):=rfl
 rw[hres];simp only[Sem.run_bind];rw[e];simp only[Result.andThen_ok,Sem.run_pure];refine⟨_,rfl,?_⟩;cases l with
 |nil=>simpa using h2
 | cons v l=>
  cases l with
  |nil=>simpa using h2
  | cons u l=>
   have:¬((v::u::l).toArray.size=1):=by simp
   rw[dif_neg this];simp only[List.append_nil]at h2;split at h2
   ·rename_i hh;have:=congrArg List.length hh;simp at this
   ·simpa using h2
theorem Ve {P:Program}[jA P](hm:P.follows .mixedOrders=true){f:FuncId}{fn:Func}{c:Code}{an:Ann}(hf:P.funcs[f]? =some fn)(hb:fn.body=some c)(hc:pg P f=true)
  (hok:fu P fn.ntmps c an=true) {args:Array Value} (ha:Nat.ble args.size fn.ntmps=true) {h:af} {R:Value→af→Prop} (H:X5 P c an fn.results.toList args.toList h R):ae P f args h R:=by
 refine ae.ofCalls hc λw hw=>?_
 subst hw;have ha':args.size≤fn.ntmps:=by simpa using ha
 have hr:Rel fn.ntmps {tmps:=args++Array.replicate (fn.ntmps-args.size) undef,defers:=[]} (Vf args.toList):=by
  refine⟨by simp;omega,rfl,λt=>?_⟩;simp only[Vf,Array.getD_eq_getD_getElem?,List.getD_eq_getElem?_getD,Array.getElem?_append,Array.getElem?_toList];split
  ·rfl
  ·rw[Array.getElem?_replicate,Array.getElem?_eq_none (by omega)];split<;>rfl
 refine calls_of_wp hf hb (wp_mono (P4 hm c an _ _ w _ hok hr H) ?_);intro e a' w' ⟨ρ2,g1,_,g3,g4⟩;have fin:Gi P fn.results.toList [] ρ2 w'.heap R→a'.defers=[]∧∃v,(results fn a'.tmps).run P w'=.ok v w'∧∃u,Ending.returned v=.returned u∧cW w w'∧R u w'.heap:=by
  intro hret;obtain⟨v,h1,h2⟩:=Qv g1.2.2 hret;exact⟨g1.2.1,v,h1,v,rfl,g3,h2⟩
 cases e with
 |normal=>exact fin g4
 |ret=>exact fin g4
 |exit id=>exact g4.elim
 |_=>exact g4.elim
def fkB (P:Program)(f:FuncId)(fn:Func)(an:Ann)(n:Nat):Bool:=P.follows .mixedOrders&&(fn.body.isSome&&(pg P f&&(fu P fn.ntmps (fn.body.getD .skip) an&&Nat.ble n fn.ntmps)))
theorem fk {P:Program}[jA P](fn:Func)(an:Ann){f:FuncId}{args:Array Value}{h:af}{R:Value→af→Prop}{X:Prop}(H:X)
  (hf:P.funcs[f]? =some fn:=by kernel_rfl) (hb:fkB P f fn an args.size=true:=by kernel_rfl) (e:X=X5 P (fn.body.getD .skip) an fn.results.toList args.toList h R:=by kernel_rfl):ae P f args h R:=by
 unfold fkB at hb;simp only[Bool.and_eq_true]at hb;obtain⟨h1,h2,h3,h4,h5⟩:=hb;obtain⟨c,hc⟩:=Option.isSome_iff_exists.1 h2;rw[hc,Option.getD_some]at h4 e;exact Ve h1 hf hc h3 h4 h5 (e.mp H)
end
end Go.Crisp
namespace Go.Crisp
open Go
theorem ah (v:Value)(K:Value→Prop):vK (some v) K=K v:=Eq.trans rfl rfl
theorem GV (r:Option (Array Value))(c:Array Value)(h:r=some c)(K:Value→Prop):vK (r.map .agg) K=K (.agg c):=by rw[h];rfl
theorem fP (x y:Prop):aA (.bool true) x y=x:=Eq.trans rfl rfl
theorem cf (x y:Prop):aA (.bool false) x y=y:=Eq.trans rfl rfl
theorem iI {b:Bool}{x y:Prop}(h1:b=true→x)(A:b=false→y):aA (.bool b) x y:=by
 cases b
 ·exact A rfl
 ·exact h1 rfl
theorem aj {p:Prop}[Decidable p]{x y:Prop}(h1:p→x)(A:¬p→y):aA (.bool (decide p)) x y:=
 iI (λh=>h1 (of_decide_eq_true h)) (λh=>A (of_decide_eq_false h))
theorem WU (r:Option Value):gV (.bool true) true r=r:=Eq.trans rfl rfl
theorem rY (r:Option Value):gV (.bool false) false r=r:=Eq.trans rfl rfl
theorem gV_tf (r:Option Value):gV (.bool true) false r=some undef:=Eq.trans rfl rfl
theorem gV_ft (r:Option Value):gV (.bool false) true r=some undef:=Eq.trans rfl rfl
theorem Yp (w:Bool)(r:Option Value):gV undef w r=some undef:=Eq.trans rfl rfl
theorem Xa (m:(Value→af→Prop)→Prop)(h:af)(K:Value→af→Prop):gK (.bool true) true m h K=m K:=Eq.trans rfl rfl
theorem Jx (m:(Value→af→Prop)→Prop)(h:af)(K:Value→af→Prop):gK (.bool false) false m h K=m K:=Eq.trans rfl rfl
theorem gK_tf (m:(Value→af→Prop)→Prop)(h:af)(K:Value→af→Prop):gK (.bool true) false m h K=K undef h:=Eq.trans rfl rfl
theorem gK_ft (m:(Value→af→Prop)→Prop)(h:af)(K:Value→af→Prop):gK (.bool false) true m h K=K undef h:=Eq.trans rfl rfl
theorem Yv (w:Bool)(m:(Value→af→Prop)→Prop)(h:af)(K:Value→af→Prop):gK undef w m h K=K undef h:=Eq.trans rfl rfl
theorem QF (x y:Value):az (.bool true) x y=some x:=Eq.trans rfl rfl
theorem yK (x y:Value):az (.bool false) x y=some y:=Eq.trans rfl rfl
theorem gJ (a:Value)(l:List Value):ix (a::l) 0=a:=Eq.trans rfl rfl
theorem vy (a b:Value)(l:List Value):ix (a::b::l) 1=b:=Eq.trans rfl rfl
theorem WR (a b c:Value)(l:List Value):ix (a::b::c::l) 2=c:=Eq.trans rfl rfl
theorem Ym (a b c d:Value)(l:List Value):ix (a::b::c::d::l) 3=d:=Eq.trans rfl rfl
theorem ix_4 (a b c d e:Value)(l:List Value):ix (a::b::c::d::e::l) 4=e:=Eq.trans rfl rfl
theorem ix_5 (a b c d e f:Value)(l:List Value):ix (a::b::c::d::e::f::l) 5=f:=Eq.trans rfl rfl
theorem cO (e:EK)(k:IntKind)(a b:Int):ag e .add (.int k a) (.int k b)=some (.int k (k.wrap (a+b))):=by simp[ag,D7]
theorem fU (e:EK)(k:IntKind)(a b:Int):ag e .sub (.int k a) (.int k b)=some (.int k (k.wrap (a-b))):=by simp[ag,D7]
theorem ks (e:EK)(k:IntKind)(a b:Int):ag e .mul (.int k a) (.int k b)=some (.int k (k.wrap (a*b))):=by simp[ag,D7]
theorem kr (e:EK)(k:IntKind)(a b:Int)(h:b≠0):ag e .quo (.int k a) (.int k b)=some (.int k (k.wrap (a.tdiv b))):=by simp[ag,D7,h]
theorem cV (e:EK)(k:IntKind)(a b:Int)(h:b≠0):ag e .rem (.int k a) (.int k b)=some (.int k (a.tmod b)):=by simp[ag,D7,h]
theorem cj (e:EK)(k:IntKind)(a b:Int):ag e .lss (.int k a) (.int k b)=some (.bool (decide (a<b))):=by simp[ag,D7]
theorem Kd (e:EK)(k:IntKind)(a b:Int):ag e .leq (.int k a) (.int k b)=some (.bool (decide (a≤b))):=by simp[ag,D7]
theorem vD (e:EK)(k:IntKind)(a b:Int):ag e .gtr (.int k a) (.int k b)=some (.bool (decide (b<a))):=by simp[ag,D7]
theorem Ke (e:EK)(k:IntKind)(a b:Int):ag e .geq (.int k a) (.int k b)=some (.bool (decide (b≤a))):=by simp[ag,D7]
theorem si (e:EK)(k:IntKind)(a b:Int):ag e .eql (.int k a) (.int k b)=some (.bool (decide (a=b))):=by
 simp[ag,D7];rw[Bool.eq_iff_iff];simp
theorem vC (e:EK)(k:IntKind)(a b:Int):ag e .neq (.int k a) (.int k b)=some (.bool (!decide (a=b))):=by
 simp[ag,D7];rw[Bool.eq_iff_iff];simp
theorem VZ (a b:Bool):ag .b .eql (.bool a) (.bool b)=some (.bool (a==b)):=Eq.trans rfl rfl
theorem VY (a b:Bool):ag .b .neq (.bool a) (.bool b)=some (.bool !(a==b)):=Eq.trans rfl rfl
theorem RS (b:Bool):unV .not (.bool b)=some (.bool !b):=Eq.trans rfl rfl
theorem Wh (k:IntKind)(a:Int):unV .neg (.int k a)=some (.int k (k.wrap (0-a))):=Eq.trans rfl rfl
theorem zn (k k':IntKind)(a:Int):dY k (.int k' a)=some (.int k (k.wrap a)):=Eq.trans rfl rfl
theorem I9 (k:IntKind)(a b:Int):iG (.int k a) (.int k b)=some (.int k (max a b)):=by
 simp only[iG,Option.some.injEq,Value.int.injEq,true_and];split<;>omega
theorem IV (k:IntKind)(a b:Int):pA (.int k a) (.int k b)=some (.int k (min a b)):=by
 simp only[pA,Option.some.injEq,Value.int.injEq,true_and];split<;>omega
theorem w64 {n:Int}(h1: -9223372036854775808≤n)(A:n≤9223372036854775807):IntKind.i64.wrap n=n:=by
 show(if(true&&decide (n%(2^64:Int)≥(2^63:Int)))=true then n%(2^64:Int)-(2^64:Int)else n%(2^64:Int))=n;split
 ·rename_i hh;simp only[Bool.true_and,decide_eq_true_eq]at hh;omega
 ·rename_i hh;simp only[Bool.true_and,decide_eq_true_eq]at hh;omega
theorem SR {n:Int}(h1:0≤n)(A:n≤65535):IntKind.u16.wrap n=n:=by
 simp only[IntKind.wrap,IntKind.bits,IntKind.signed];simp;omega
theorem wu64 {n:Int}(h1:0≤n)(A:n≤18446744073709551615):IntKind.u64.wrap n=n:=by
 simp only[IntKind.wrap,IntKind.bits,IntKind.signed];simp;omega
theorem Fb (a:Option Addr)(n c:Nat):aq (.slice a n c)=some (.int .i64 n):=Eq.trans rfl rfl
theorem Tp (s:ByteArray):Fa (.string s)=some (.int .i64 s.size):=Eq.trans rfl rfl
theorem YB (a:Value)(l:List Value):aF (.tuple ⟨a::l⟩) 0=some a:=Eq.trans rfl rfl
theorem YA (a b:Value)(l:List Value):aF (.tuple ⟨a::b::l⟩) 1=some b:=Eq.trans rfl rfl
theorem Yz (a b c:Value)(l:List Value):aF (.tuple ⟨a::b::c::l⟩) 2=some c:=Eq.trans rfl rfl
theorem Yy (a b c d:Value)(l:List Value):aF (.tuple ⟨a::b::c::d::l⟩) 3=some d:=Eq.trans rfl rfl
theorem UK (a:Addr):aK (.pointer (some a))=some (.pointer (some a)):=Eq.trans rfl rfl
theorem Yw (b o:Nat):am 0 (.pointer (some ⟨b,o,none⟩))=some (.pointer (some ⟨b,o,none⟩)):=Eq.trans rfl rfl
theorem kG (b o n:Nat):(⟨b,o,none⟩:Addr).add n=⟨b,o+n,none⟩:=by
 unfold Addr.add;split<;>simp_all
theorem Po (n b o:Nat):am n (.pointer (some ⟨b,o,none⟩))=some (.pointer (some ⟨b,o+n,none⟩)):=by
 show some (Value.pointer (some ((⟨b,o,none⟩:Addr).add n)))=_;rw[kG]
theorem wj (h:af)(a:Addr):ldV h (.pointer (some a))=aB h a:=Eq.trans rfl rfl
theorem pF {s b o len cap:Nat}{k:IntKind}{i:Nat}(hi:i<len):aR s (.slice (some ⟨b,o,none⟩) len cap) (.int k (i:Int))=some (.pointer (some ⟨b,o+i*s,none⟩)):=by
 show(if 0≤(i:Int)∧(i:Int)<(len:Int)then some (Value.pointer (some ((⟨b,o,none⟩:Addr).add ((i:Int).toNat*s))))else none)=_;rw[if_pos (by omega),kG,Int.toNat_natCast]
theorem ai {h:af}{b o:Nat}{c:Array Value}{t:TypeId}{f:Nat×Nat}(A:h[b]? =some (.cells c t f)):aB h ⟨b,o,none⟩=c[o]? :=by
 unfold aB;simp[A]
theorem Uz {h:af}{o:Obj}{b:Nat}(A:b<h.size):(h.push o)[b]? =h[b]? :=by
 rw[Array.getElem?_push,if_neg (by omega)]
theorem o0 {h:af}{o:Obj}:(h.push o)[h.size]? =some o:=by simp
def Ext (h h':af):Prop:=h.size≤h'.size∧∀b,b<h.size→h'[b]? =h[b]?
theorem Ext.refl (h:af):Ext h h:=⟨Nat.le_refl _,λ_ _=>rfl⟩
theorem Ext.trans {a b c:af}(h:Ext a b)(k:Ext b c):Ext a c:=⟨Nat.le_trans h.1 k.1,λi hi=>(k.2 i (Nat.lt_of_lt_of_le hi h.1)).trans (h.2 i hi)⟩
theorem Ext.push (h:af)(o:Obj):Ext h (h.push o):=⟨by simp,λb A=>Uz A⟩
theorem Ext.cell {h h':af}(e:Ext h h'){a:Addr}{v:Value}(hc:aB h a=some v):aB h' a=some v:=by
 unfold aB at*;rcases Nat.lt_or_ge a.block h.size with A|A
 ·rw[e.2 _ A];exact hc
 ·rw[Array.getElem?_eq_none A]at hc;cases hc
theorem Ui {r A:Option Value}{K:Value→Prop}(h:r=A):vK r K=vK A K:=by rw[h]
theorem QW {c c':Value}{x y:Prop}(h:c=c'):aA c x y=aA c' x y:=by rw[h]
theorem Qd {P:Program}{f:FuncId}{args A:Array Value}{h h':af}{K:Value→af→Prop}(D:args=A)(hh:h=h'):ae P f args h K=ae P f A h' K:=by rw[D,hh]
theorem Pb {a A:List Value}{h h':af}{body:List Value→Env→af→(List Value→af→Prop)→Prop}(D:a=A)(hh:h=h'):aS a h body=aS A h' body:=by rw[D,hh]
theorem U9 {g A:Value}{w:Bool}{m:(Value→af→Prop)→Prop}{h:af}{K:Value→af→Prop}(D:g=A):gK g w m h K=gK A w m h K:=by rw[D]
theorem QO {c c':Array Value}{t:TypeId}{h:af}{K:Value→af→Prop}(hc:c=c'):aP c t h K=aP c' t h K:=by rw[hc]
theorem S0 {n:Nat}{x A v D:Value}{h:af}{K:Value→af→Prop}(G:x=A)(F:v=D):stK n x v h K=stK n A D h K:=by rw[G,F]
theorem Qu {c:Array Value}{e:TypeId}{n:Nat}{l A:List (Nat×Nat×Value)}{h:af}{K:Value→af→Prop}(D:l=A):cF c e n l h K=cF c e n A h K:=by rw[D]
theorem Tk {z:Value}{e:TypeId}{s b:Nat}{l A c c':Value}{h:af}{K:Value→af→Prop}(D:l=A)(hc:c=c'):mkK z e s b l c h K=mkK z e s b A c' h K:=by rw[D,hc]
theorem RK {z:Value}{e:TypeId}{s b:Nat}{l A c c':Value}{h:af}{K:Value→af→Prop}(D:l=A)(hc:c=c'):cG z e s b l c h K=cG z e s b A c' h K:=by rw[D,hc]
theorem Rk {s:Nat}{l A c c':Value}{h:af}{K:Value→af→Prop}(D:l=A)(hc:c=c'):Cn s l c h K=Cn s A c' h K:=by rw[D,hc]
theorem Pz {h h':af}{b:(af→Prop)→Prop}(hh:h=h'):bD h b=bD h' b:=by rw[hh]
theorem Uy {S:af→Prop}{r A:af→Option Value}{K:Value→Prop}(D:r=A):qK S r K=qK S A K:=by rw[D]
theorem Ld {d:TypeDesc}{m A k k' v D:Value}{h:af}{K:Value→af→Prop}(h1:m=A)(F:k=k')(G:v=D):qN d m k v h K=qN d A k' D h K:=by rw[h1,F,G]
theorem Lf {d:TypeDesc}{m A k k':Value}{h:af}{K:Value→af→Prop}(h1:m=A)(D:k=k'):lS d m k h K=lS d A k' h K:=by rw[h1,D]
attribute [congr] Ui QW Qd Pb U9 QO S0 Qu Tk RK Rk Pz Uy Ld Lf
theorem aC {c:Array Value}{t:TypeId}{h:af}{K:Value→af→Prop}(H:∀b h',h'[b]? =some (.cells c t (0,0))→Ext h h'→h.size≤b→K (.pointer (some ⟨b,0,none⟩)) h'):aP c t h K:=
 H h.size (h.push (.cells c t)) o0 (Ext.push h _) (Nat.le_refl _)
theorem Ext.row {h h':af}(e:Ext h h'){b:Nat}{o:Obj}(A:h[b]? =some o):h'[b]? =some o:=by
 rw[e.2 b (Array.getElem?_eq_some_iff.1 A).1];exact A
theorem bC (c:Array Value):Value.cells (.agg c)=c:=Eq.trans rfl rfl
theorem QT (h:af)(b o i n:Nat):dy h ⟨b,o,none⟩ i (n+1)=match aB h ⟨b,o+i,none⟩with
  |some v=>match dy h ⟨b,o,none⟩ (i+1) n with
   |some l=>some (v::l)
   |none=>none
  |none=>none:=by
 have e:dy h ⟨b,o,none⟩ i (n+1)=match aB h ((⟨b,o,none⟩:Addr).add i)with
  |some v=>match dy h ⟨b,o,none⟩ (i+1) n with
   |some l=>some (v::l)
   |none=>none
  |none=>none:=rfl
 rw[e,kG]
theorem US (n:Nat)(h:af)(a:Addr):aH n h (.pointer (some a))=(dy h a 0 n).map λl=>.agg l.toArray:=Eq.trans rfl rfl
theorem Ag {h:af}{b o:Nat}:∀(l:List Value) (i:Nat),(∀j (A:j<l.length),aB h ⟨b,o+i+j,none⟩=some l[j])→dy h ⟨b,o,none⟩ i l.length=some l
 | [],_,_=>rfl
 | v::l,i,H=>by
  rw[List.length_cons,QT];have h0:=H 0 (by simp);simp only[Nat.add_zero,List.getElem_cons_zero]at h0;rw[h0];have:=Ag l (i+1) λj A=>by
   have:=H (j+1) (by simpa using A);simpa[Nat.add_assoc,Nat.add_comm 1 j]using this
  simp only[this]
theorem D3 {h:af}{b o:Nat}(l:List Value)(n:Nat)(A:l.length=n)(H:∀j (D:j<l.length),aB h ⟨b,o+j,none⟩=some l[j]):aH n h (.pointer (some ⟨b,o,none⟩))=some (.agg l.toArray):=by
 subst A;rw[US,Ag l 0 (by simpa using H)];rfl
theorem aI {h:af}{b:Nat}{l:List Value}{t:TypeId}{f:Nat×Nat}(D:h[b]? =some (.cells l.toArray t f))(n:Nat)(A:l.length=n):aH n h (.pointer (some ⟨b,0,none⟩))=some (.agg l.toArray):=
 D3 l n A λj F=>by rw[Nat.zero_add,ai D];simp
theorem Ext.loads {h h':af}(e:Ext h h'){a:Addr}:∀{n i:Nat} {l:List Value},dy h a i n=some l→dy h' a i n=some l
 |0,_,_,H=>H
 | n+1,i,l,H=>by
  unfold dy at H ⊢;cases hc:aB h (a.add i)with
  |none=>simp[hc]at H
  | some v=>
   simp only[hc]at H;rw[e.cell hc];cases A:dy h a (i+1) n with
   |none=>simp[A]at H
   |some D=>
    simp only[A]at H;simp only[e.loads A];exact H
theorem Ext.lds {h h':af}(e:Ext h h'){n:Nat}{x v:Value}(H:aH n h x=some v):aH n h' x=some v:=by
 unfold aH at*;split at H
 ·rename_i a;cases A:dy h a 0 n with
  |none=>simp[A]at H
  |some l=>
   simp only[A]at H;simp only[e.loads A];exact H
 ·cases H
theorem rO (h:af)(b k:Nat)(o:Obj):(dQ h b o)[k]? =if k=b then(if b<h.size then some o else none)else h[k]? :=by
 unfold dQ;rw[Array.getElem?_setIfInBounds];by_cases A:k=b
 ·subst A;simp
 ·rw[if_neg (Ne.symm A),if_neg A]
theorem tH (h:af)(b:Nat)(o:Obj):(dQ h b o).size=h.size:=by simp[dQ]
theorem Oj (h:af)(x y:Obj):dQ (h.push x) h.size y=h.push y:=by
 unfold dQ;apply Array.ext';simp
theorem Ol {h:af}{b o:Nat}{cur:Array Value}{t:TypeId}{f:Nat×Nat}{v:Value}(D:h[b]? =some (.cells cur t f)):Hl h ⟨b,o,none⟩ v=dQ h b (.cells (cur.setIfInBounds o v) t f):=by
 have A:b<h.size:=(Array.getElem?_eq_some_iff.1 D).1;unfold Hl;apply Array.ext
 ·simp[tH]
 ·intro i h1 F;apply Option.some.inj;rw[←Array.getElem?_eq_getElem,←Array.getElem?_eq_getElem,rO,Array.getElem?_modify];by_cases hi:i=b
  ·subst hi;have e:h[i]=.cells cur t f:=by rw[Array.getElem?_eq_getElem A]at D;exact Option.some.inj D
   simp[A,e]
  ·rw[if_neg (Ne.symm hi),if_neg hi]
def wrL (cur:Array Value):Nat→List Value→Array Value
 |_,[]=>cur
 |o,v::l=>wrL (cur.setIfInBounds o v) (o+1) l
theorem bZ:∀(l:List Value) (cur:Array Value) (o:Nat),(wrL cur o l).size=cur.size
 | [],_,_=>rfl
 |v::l,cur,o=>by simp[wrL,bZ l]
theorem RQ:∀(l:List Value) (cur:Array Value) (o k:Nat),o+l.length≤cur.size→(wrL cur o l)[k]? =if o≤k∧k<o+l.length then l[k-o]? else cur[k]?
 | [],cur,o,k,_=>by simp only[wrL,List.length_nil];rw[if_neg (by omega)]
 | v::l,cur,o,k,h=>by
  simp only[List.length_cons]at h;simp only[wrL];rw[RQ l _ (o+1) k (by simp;omega)];by_cases A:k=o
  ·subst A;rw[if_neg (by omega),if_pos (by simp)];rw[Array.getElem?_setIfInBounds];simp;omega
  ·by_cases D:o+1≤k∧k<o+1+l.length
   ·rw[if_pos D,if_pos (by simp only[List.length_cons];omega)];rw[show k-o=(k-(o+1))+1 from by omega];simp
   ·rw[if_neg D,if_neg (by simp only[List.length_cons];omega)];rw[Array.getElem?_setIfInBounds_ne (Ne.symm A)]
theorem Mu (l:List Value)(cur:Array Value)(h:l.length=cur.size):wrL cur 0 l=l.toArray:=by
 apply Array.ext
 ·simp[bZ,h]
 ·intro i h1 A;apply Option.some.inj;rw[←Array.getElem?_eq_getElem,←Array.getElem?_eq_getElem,RQ l cur 0 i (by omega)];simp only[bZ]at h1;rw[if_pos (by omega)];simp
theorem kO {t:TypeId}{b o:Nat}:∀(l:List Value) (i:Nat) (h:af) (cur:Array Value),h[b]? =some (.cells cur t (0,0))→o+i+l.length≤cur.size→(∀v∈l,aJ v=true)→
  iO h ⟨b,o,none⟩ i l=some (dQ h b (.cells (wrL cur (o+i) l) t (0,0)))
 | [],i,h,cur,hb,_,_=>by
  simp only[iO,wrL,Option.some.injEq];have A:b<h.size:=(Array.getElem?_eq_some_iff.1 hb).1;apply Array.ext
  ·simp[tH]
  ·intro k h1 G;apply Option.some.inj;rw[←Array.getElem?_eq_getElem,←Array.getElem?_eq_getElem,rO];split
   ·rename_i D;subst D;first|rw[if_pos A,hb]|exact hb
   ·rfl
 |v::l,i,h,cur,hb,hs,h1=>by
  simp only[List.length_cons]at hs;have A:b<h.size:=(Array.getElem?_eq_some_iff.1 hb).1;have hc:aB h ⟨b,o+i,none⟩=some cur[o+i]:=by rw[ai hb,Array.getElem?_eq_getElem (by omega)]
  have F:rZ h ⟨b,o+i,none⟩=false:=by unfold rZ;simp[hb]
  unfold iO;rw[kG];simp only[hc,F,h1 v (by simp),Bool.not_false,Bool.and_self,cond_true];rw[Ol hb];rw[kO l (i+1) _ (cur.setIfInBounds (o+i) v) (by rw[rO,if_pos rfl,if_pos A]) (by simp;omega) (λu hu=>h1 u (by simp[hu]))];simp only[wrL,Nat.add_assoc,Option.some.injEq];unfold dQ;simp
theorem stN {t:TypeId}{b o n:Nat}{h:af}{cur:Array Value}{l:List Value}{K:Value→af→Prop}(F:h[b]? =some (.cells cur t (0,0)))(A:o+l.length≤cur.size)(h1:∀v∈l,aJ v=true)(D:l.length=n)
  (G:K undef (dQ h b (.cells (wrL cur o l) t (0,0)))):stK n (.pointer (some ⟨b,o,none⟩)) (.agg l.toArray) h K:=by
 unfold stK;have:=kO (t:=t) (b:=b) (o:=o) l 0 h cur F (by simpa using A) h1;simp only[Value.cells,List.size_toArray,D,if_true,this];exact G
theorem bU {v:Value}(h:aJ v=true):v.cells=#[v]:=by cases v<;>first|rfl|cases h
theorem st1 {t:TypeId}{b o:Nat}{h:af}{cur:Array Value}{v:Value}{K:Value→af→Prop}(A:h[b]? =some (.cells cur t (0,0)))(F:o<cur.size)(h1:aJ v=true)
  (D:K undef (dQ h b (.cells (cur.setIfInBounds o v) t (0,0)))):stK 1 (.pointer (some ⟨b,o,none⟩)) v h K:=by
 unfold stK;have:=kO (t:=t) (b:=b) (o:=o) [v] 0 h cur A (by simp;omega) (by simpa using h1);simp only[bU h1,List.size_toArray,List.length_cons,List.length_nil,if_true,this];exact D
theorem st_new {t:TypeId}{n:Nat}{h:af}{A:Array Value}{l:List Value}{K:Value→af→Prop}(D:l.length=A.size)(h1:∀v∈l,aJ v=true)(F:l.length=n)
  (G:K undef (h.push (.cells l.toArray t))):stK n (.pointer (some ⟨h.size,0,none⟩)) (.agg l.toArray) (h.push (.cells A t)) K:=by
 refine stN (cur:=A) (t:=t) (by simp) (by omega) h1 F ?_;rw[Oj,Mu l A D];exact G
def Upd (b:Nat)(h h':af):Prop:=h'.size=h.size∧∀k,k≠b→h'[k]? =h[k]?
theorem Upd.row {b k:Nat}{h h':af}(u:Upd b h h')(A:k≠b){o:Obj}(r:h[k]? =some o):h'[k]? =some o:=by rw[u.2 k A];exact r
theorem Upd.set {b:Nat}{h:af}{o:Obj}:Upd b h (dQ h b o):=⟨tH h b o,λk A=>by rw[rO,if_neg A]⟩
theorem Ext.upd {h h1 A:af}{b:Nat}(e:Ext h h1)(F:h.size≤b)(u:Upd b h1 A):Ext h A:=
 ⟨by rw[u.1];exact e.1,λk D=>by rw[u.2 k (by omega)];exact e.2 k D⟩
theorem kB {h:af}{b:Nat}{o o':Obj}(r:h[b]? =some o):(dQ h b o')[b]? =some o':=by
 rw[rO,if_pos rfl,if_pos (Array.getElem?_eq_some_iff.1 r).1]
theorem ce {t:TypeId}{b n:Nat}{h:af}{A:Array Value}{l:List Value}{K:Value→af→Prop}(r:h[b]? =some (.cells A t (0,0)))(D:l.length=A.size)(h1:∀v∈l,aJ v=true)(F:l.length=n)
  (G:∀h',h'[b]? =some (.cells l.toArray t (0,0))→Upd b h h'→K undef h'):stK n (.pointer (some ⟨b,0,none⟩)) (.agg l.toArray) h K:=by
 refine stN r (by omega) h1 F ?_;rw[Mu l A D];exact G _ (kB r) Upd.set
theorem bJ {t:TypeId}{b o:Nat}{h:af}{cur:Array Value}{v:Value}{K:Value→af→Prop}(r:h[b]? =some (.cells cur t (0,0)))(A:o<cur.size)(h1:aJ v=true)
  (D:∀h',h'[b]? =some (.cells (cur.setIfInBounds o v) t (0,0))→Upd b h h'→K undef h'):stK 1 (.pointer (some ⟨b,o,none⟩)) v h K:=
 st1 r A h1 (D _ (kB r) Upd.set)
theorem cH {c c':Array Value}{e:TypeId}{n:Nat}{l:List (Nat×Nat×Value)}{h:af}{K:Value→af→Prop}(A:aE c l=some c')
  (H:∀b h',h'[b]? =some (.cells c' e (0,0))→Ext h h'→h.size≤b→K (.slice (some ⟨b,0,none⟩) n n) h'):cF c e n l h K:=by
 unfold cF;rw[A];exact H h.size (h.push (.cells c' e)) o0 (Ext.push h _) (Nat.le_refl _)
theorem least {p:Nat→Prop}:∀(n:Nat),p n→∃m,p m∧∀k,p k→m≤k:=by
 intro n;induction n using Nat.strongRecOn with
 | _ n H=>
  intro G;by_cases F:∃k,k<n∧p k
  ·obtain⟨k,A,I⟩:=F;exact H k A I
  ·exact⟨n,G,λk A=>Nat.le_of_not_lt λD=>F ⟨k,D,A⟩⟩
theorem cP {init:List Value}{h:af}{body:List Value→Env→af→(List Value→af→Prop)→Prop}(I:Nat→List Value→af→Prop)(d0:Nat)(h0:I d0 init h)
  (step:∀d A ρj h again,I d A h→(∀L h' F,F<d→I F L h'→again L h')→body A ρj h again):aS init h body:=by
 have G:∀A h,∃m:Nat,(∃d,I d A h)→I m A h∧∀k,I k A h→m≤k:=by
  intro A h;by_cases U:∃d,I d A h
  ·obtain⟨d,hd⟩:=U;obtain⟨m,H,hl⟩:=least (p:=λd=>I d A h) d hd;exact⟨m,λ_=>⟨H,hl⟩⟩
  ·exact⟨0,λh=>absurd h U⟩
 let m:List Value→af→Nat:=λA h=>Classical.choose (G A h)
 have H:∀A h,(∃d,I d A h)→I (m A h) A h∧∀k,I k A h→m A h≤k:=λA h=>Classical.choose_spec (G A h)
 refine⟨λA h=>∃d,I d A h,m,⟨d0,h0⟩,?_⟩;intro A ρj h W;refine step (m A h) A ρj h _ (H A h W).1 ?_;intro L h' F hd D;exact⟨⟨F,D⟩,Nat.lt_of_le_of_lt ((H L h' ⟨F,D⟩).2 F D) hd⟩
theorem aV {body:(List Value→af→Prop)→Prop}{rest:List Value→Env→af→Prop}(J:List Value→af→Prop)(h1:body J)(D:∀A ρj h,J A h→rest A ρj h):dE body rest:=⟨J,h1,D⟩
theorem L4 {h:af}{body:(af→Prop)→Prop}(H:body (Ext h)):bD h body:=⟨Ext h,Ext.refl h,H⟩
theorem ao {S:af→Prop}{r:af→Option Value}{K:Value→Prop}(v:Value)(h:∀h,S h→r h=some v)(A:K v):qK S r K:=⟨v,h,A⟩
attribute [go_sem] Yp Yv ah fP cf WU rY gV_tf gV_ft Xa Jx gK_tf gK_ft QF yK gJ vy WR Ym ix_4 ix_5 cO fU ks cj Kd vD Ke si vC VZ VY RS Wh zn I9 IV bC Fb Tp List.getElem?_toArray List.getElem?_cons_zero List.getElem?_cons_succ Nat.zero_add decide_true decide_false Bool.not_true Bool.not_false Bool.and_true Bool.and_false Bool.or_true Bool.or_false Bool.true_and Bool.false_and Bool.true_or Bool.false_or not_true_eq_false not_false_eq_true YB YA Yz Yy UK Yw Po wj
def Fr (M:Nat→Prop)(h h':af):Prop:=h.size≤h'.size∧∀b,b<h.size→¬M b→h'[b]? =h[b]?
theorem Fr.refl (M:Nat→Prop)(h:af):Fr M h h:=⟨Nat.le_refl _,λ_ _ _=>rfl⟩
theorem Fr.trans {M:Nat→Prop}{a b c:af}(h:Fr M a b)(k:Fr M b c):Fr M a c:=
 ⟨Nat.le_trans h.1 k.1,λi hi A=>(k.2 i (Nat.lt_of_lt_of_le hi h.1) A).trans (h.2 i hi A)⟩
theorem Fr.mono {M M':Nat→Prop}{a b:af}(h:Fr M a b)(k:∀i,i<a.size→M i→M' i):Fr M' a b:=⟨h.1,λi hi A=>h.2 i hi λx=>A (k i hi x)⟩
theorem Ext.fr {M:Nat→Prop}{a b:af}(h:Ext a b):Fr M a b:=⟨h.1,λi hi _=>h.2 i hi⟩
theorem Ext.then_fr {M:Nat→Prop}{a b c:af}(h:Ext a b)(k:Fr M b c)(n:∀i,M i→a.size≤i):Ext a c:=
 ⟨Nat.le_trans h.1 k.1,λi hi=>(k.2 i (Nat.lt_of_lt_of_le hi h.1) λm=>Nat.not_le.2 hi (n i m)).trans (h.2 i hi)⟩
theorem Fr.row {M:Nat→Prop}{h h':af}(e:Fr M h h'){b:Nat}{o:Obj}(A:h[b]? =some o)(D:¬M b):h'[b]? =some o:=by
 rw[e.2 b (Array.getElem?_eq_some_iff.1 A).1 D];exact A
theorem Fr.cell {M:Nat→Prop}{h h':af}(e:Fr M h h'){a:Addr}{v:Value}(hc:aB h a=some v)(D:¬M a.block):aB h' a=some v:=by
 unfold aB at*;rcases Nat.lt_or_ge a.block h.size with A|A
 ·rw[e.2 _ A D];exact hc
 ·rw[Array.getElem?_eq_none A]at hc;cases hc
theorem Sq {h:af}{a:Addr}{v:Value}(hc:aB h a=some v):a.block<h.size:=by
 unfold aB at hc;rcases Nat.lt_or_ge a.block h.size with A|A
 ·exact A
 ·rw[Array.getElem?_eq_none A]at hc;cases hc
def blk:Value→Nat→Prop
 | .slice (some a) _ _,b=>b=a.block
 | .pointer (some a),b=>b=a.block
 |_,_=>False
def SlC (w:Nat)(h:af)(v:Value)(n:Nat)(cs:List Value):Prop:=
 cs.length=n*w∧∃a cap,v=.slice a n cap∧(cs=[]∨∃b o,a=some ⟨b,o,none⟩∧∀j (hj:j<cs.length),aB h ⟨b,o+j,none⟩=some cs[j])
def Own (w:Nat)(h:af)(v:Value)(n:Nat)(cs:List Value):Prop:=
 (v=.slice none 0 0∧n=0∧cs=[])∨∃b cap r e,v=.slice (some ⟨b,0,none⟩) n cap∧n≤cap∧cs.length=n*w∧(cs++r).length=cap*w∧h[b]? =some (.cells (cs++r).toArray e (0,0))
theorem SlC.fr {w:Nat}{M:Nat→Prop}{h h':af}{v:Value}{n:Nat}{cs:List Value}(H:SlC w h v n cs)(e:Fr M h h')(D:∀b,b<h.size→blk v b→¬M b):SlC w h' v n cs:=by
 obtain⟨F,a,cap,rfl,H⟩:=H;refine⟨F,a,cap,rfl,?_⟩;rcases H with H|⟨b,o,rfl,H⟩
 ·exact .inl H
 ·exact .inr ⟨b,o,rfl,λj A=>e.cell (H j A) (D b (Sq (H j A)) rfl)⟩
theorem SlC.ext {w:Nat}{h h':af}{v:Value}{n:Nat}{cs:List Value}(H:SlC w h v n cs)(e:Ext h h'):SlC w h' v n cs:=H.fr (M:=λ_=>False) e.fr λ_ _ _=>id
theorem Own.sl {w:Nat}{h:af}{v:Value}{n:Nat}{cs:List Value}(H:Own w h v n cs):SlC w h v n cs:=by
 rcases H with⟨rfl,rfl,rfl⟩|⟨b,cap,r,e,rfl,hc,F,_,D⟩
 ·exact⟨by simp,none,0,rfl,.inl rfl⟩
 ·refine⟨F,_,cap,rfl,.inr ⟨b,0,rfl,λj A=>?_⟩⟩;rw[Nat.zero_add,ai D];simp[List.getElem?_append_left A,A]
theorem Own.fr {w:Nat}{M:Nat→Prop}{h h':af}{v:Value}{n:Nat}{cs:List Value}(H:Own w h v n cs)(f:Fr M h h')(A:∀b,blk v b→¬M b):Own w h' v n cs:=by
 rcases H with⟨rfl,rfl,rfl⟩|⟨b,cap,r,e,rfl,hc,G,D,F⟩
 ·exact .inl ⟨rfl,rfl,rfl⟩
 ·exact .inr ⟨b,cap,r,e,rfl,hc,G,D,f.row F (A b rfl)⟩
theorem Own.lt {w:Nat}{h:af}{v:Value}{n:Nat}{cs:List Value}(H:Own w h v n cs){b:Nat}(A:blk v b):b<h.size:=by
 rcases H with⟨rfl,rfl,rfl⟩|⟨D,cap,r,e,rfl,hc,G,F,h'⟩
 ·cases A
 ·rw[show b=D from A];exact(Array.getElem?_eq_some_iff.1 h').1
theorem SlC.loads {w:Nat}{h:af}{v:Value}{n:Nat}{cs:List Value}(H:SlC w h v n cs):sW w h n v=some cs:=by
 obtain⟨A,a,cap,rfl,H⟩:=H;cases a with
 |none=>
  rcases H with rfl|⟨b,o,h1,_⟩
  ·rfl
  ·cases h1
 | some a=>
  show dy h a 0 (n*w)=_;rcases H with rfl|⟨b,o,h1,H⟩
  ·rw[←A];rfl
  ·cases h1;rw[←A];exact Ag cs 0 (by simpa using H)
theorem CI:∀(ds cs r:List Value),ds.length≤r.length→wrL (cs++r).toArray cs.length ds=(cs++ds++r.drop ds.length).toArray
 | [],cs,r,_=>by simp[wrL]
 | v::ds,cs,r,h=>by
  cases r with
  |nil=>simp at h
  |cons x r=>
   have e:((cs++x::r).toArray).setIfInBounds cs.length v=((cs++[v])++r).toArray:=by simp
   rw[wrL,e];have:=CI ds (cs++[v]) r (by simpa using h);rw[List.length_append,List.length_singleton]at this;rw[this];simp
theorem Upd.fr {b:Nat}{h h':af}(u:Upd b h h'):Fr (λk=>k=b) h h':=⟨Nat.le_of_eq u.1.symm,λk _ A=>u.2 k A⟩
theorem My (z:Array Value)(n:Nat):(Builtin.zeroCells z n).size=n*z.size:=by simp[Builtin.zeroCells]
theorem sr {z:Value}{e:TypeId}{w bytes n m:Nat}{s x:Value}{h:af}{cs ds:List Value}{K:Value→af→Prop}
  (hs:Own w h s n cs) (hx:SlC w h x m ds) (ho:∀v∈ds,aJ v=true) (hz:z.cells.size=w) (G:(n+m)*bytes≤140737488355328) (hn:n+m≤9223372036854775807)
  (H:∀s' h',Own w h' s' (n+m) (cs++ds)→Fr (blk s) h h'→(∀b,blk s' b→blk s b∨h.size≤b)→K s' h'):cG z e w bytes s x h K:=by
 have I:=hs.sl.loads;have F:=hx.loads;obtain⟨D,a',ab,rfl,ad⟩:=hx;rcases hs with⟨rfl,rfl,rfl⟩|⟨b,cap,r,e0,rfl,hc,U,hr,L⟩
 ·unfold cG;simp only[Lg];split
  ·rename_i h0;have:m=0:=by omega
   subst this;rw[F];have:ds=[]:=List.eq_nil_of_length_eq_zero (by simpa using D);subst this;exact H _ _ (.inl ⟨rfl,rfl,rfl⟩) (Fr.refl _ _) (λb G=>G.elim)
  ·rename_i h0;rw[I,F];refine⟨by simp only[IntKind.max];simp only[IntKind.signed,IntKind.bits];omega,Nat.le_trans (growslice_fits (by omega) G) (by decide),λA h1 h2=>?_⟩;refine H _ _ (.inr ⟨h.size,A,(Builtin.zeroCells z.cells (A-(0+m))).toList,e,rfl,h1,?_,?_,?_⟩) (Ext.push h _).fr (λb G=>.inr (by rw[show b=h.size from G];exact Nat.le_refl _))
   ·simp[D]
   ·simp[D,My,hz];rw[←Nat.add_mul];congr 1;omega
   ·rw[o0];simp
 ·unfold cG;simp only[Lg];split
  ·rename_i h0;rw[F];have W:ds.length≤r.length:=by
    rw[List.length_append]at hr;rw[D];have:(n+m)*w≤cap*w:=Nat.mul_le_mul_right w h0;rw[Nat.add_mul]at this;omega
   have aa:=kO (o:=n*w) ds 0 h _ L (by simp;omega) ho;simp only[kG,Nat.zero_add,aa];rw[Nat.add_zero,←U,CI ds cs r W];refine H _ _ (.inr ⟨b,cap,r.drop ds.length,e0,rfl,h0,?_,?_,kB L⟩) (Upd.set.fr) (λk hk=>.inl hk)
   ·simp[U,D,Nat.add_mul]
   ·rw[←hr];simp;omega
  ·rename_i h0;rw[I,F];refine⟨by simp only[IntKind.max];simp only[IntKind.signed,IntKind.bits];omega,Nat.le_trans (growslice_fits (by omega) G) (by decide),λA h1 h2=>?_⟩;refine H _ _ (.inr ⟨h.size,A,(Builtin.zeroCells z.cells (A-(n+m))).toList,e,rfl,h1,?_,?_,?_⟩) (Ext.push h _).fr (λb G=>.inr (by rw[show b=h.size from G];exact Nat.le_refl _))
   ·simp[U,D,Nat.add_mul]
   ·simp[U,D,My,hz];rw[←Nat.add_mul,←Nat.add_mul];congr 1;omega
   ·rw[o0];simp
theorem SlC.at1 {h:af}{v:Value}{n:Nat}{cs:List Value}(H:SlC 1 h v n cs){k:IntKind}{i:Nat}(hi:i<n):∃p,aR 1 v (.int k (i:Int))=some p∧ldV h p=some (cs[i]'(by rw[H.1];omega)):=by
 have A:=H.1;obtain⟨_,a,cap,rfl,H⟩:=H;rcases H with rfl|⟨b,o,rfl,H⟩
 ·simp at A;omega
 ·refine⟨_,pF hi,?_⟩;rw[wj,Nat.mul_one];exact H i (by omega)
theorem SlC.atw {w:Nat}{h:af}{v:Value}{n:Nat}{cs:List Value}(H:SlC w h v n cs)(G:0<w){k:IntKind}{i:Nat}(hi:i<n):
  ∃p,aR w v (.int k (i:Int))=some p∧aH w h p=some (.agg ((cs.drop (i*w)).take w).toArray):=by
 have D:=H.1;obtain⟨_,a,cap,rfl,H⟩:=H;have A:i*w+w≤cs.length:=by rw[D,←Nat.succ_mul];exact Nat.mul_le_mul_right w hi
 rcases H with rfl|⟨b,o,rfl,H⟩
 ·simp at A;omega
 ·refine⟨_,pF hi,?_⟩;refine D3 _ w (by simp;omega) λj F=>?_
  simp at F;have:=H (i*w+j) (by omega);rw[←Nat.add_assoc]at this;rw[this];simp
theorem Own.at1 {h:af}{v:Value}{n:Nat}{cs:List Value}(H:Own 1 h v n cs){k:IntKind}{i:Nat}(hi:i<n):
  ∃p,aR 1 v (.int k (i:Int))=some p∧ldV h p=some (cs[i]'(by rw[H.sl.1];omega))∧∀(x:Value) (K:Value→af→Prop),aJ x=true→
   (∀h',Own 1 h' v n (cs.set i x)→Fr (blk v) h h'→h'.size=h.size→K undef h')→stK 1 p x h K:=by
 have U:=H.sl.1;rcases H with⟨rfl,rfl,rfl⟩|⟨b,cap,r,e,rfl,hc,_,I,D⟩
 ·omega
 ·refine⟨_,pF hi,?_,λx K L G=>?_⟩
  ·rw[wj,Nat.mul_one,ai D];have A:i<cs.length:=by omega
   simp only[Nat.zero_add,List.getElem?_toArray];rw[List.getElem?_append_left A,List.getElem?_eq_getElem A]
  ·refine bJ D (by simp;omega) L λh' F u=>?_
   refine G h' (.inr ⟨b,cap,r,e,rfl,hc,by simpa using U,by simpa using I,?_⟩) (u.fr.mono λk _ W=>W) u.1;rw[F]
   congr 2
   simp[List.set_append_left,show i<cs.length by omega]
theorem SQ {z:Value}(A:z.cells=#[z])(n:Nat):gT z n=(List.replicate n z).toArray:=by
 unfold gT;rw[A];apply Array.ext
 ·simp
 ·intro i h1 D;simp[Nat.mod_one]
theorem lQ {z:Value}{e:TypeId}{bytes n:Nat}{k k':IntKind}{h:af}{K:Value→af→Prop}(D:z.cells=#[z])(A:bytes*n≤281474976710656)(G:n≤9223372036854775807)
  (H:∀v h',Own 1 h' v n (List.replicate n z)→Ext h h'→(∀b,blk v b→h.size≤b)→K v h'):mkK z e 1 bytes (.int k n) (.int k' n) h K:=by
 unfold mkK;have F:IntKind.i64.wrap (n:Int)=n:=w64 (by omega) (by omega);simp only[F];refine⟨by omega,by omega,by exact_mod_cast A,?_⟩;rw[Int.toNat_natCast,Nat.mul_one,SQ D];refine H _ _ (.inr ⟨h.size,n,[],e,rfl,Nat.le_refl _,by simp,by simp,?_⟩) (Ext.push h _) (λb A=>by rw[show b=h.size from A];exact Nat.le_refl _);rw[o0];simp
theorem SlC.load_some {w:Nat}{h:af}{v:Value}{n:Nat}{cs:List Value}(H:SlC w h v n cs){k:Nat}(G:k≤n):sW w h k v=some (cs.take (k*w)):=by
 obtain⟨L,a,cap,rfl,H⟩:=H;have F:k*w≤n*w:=Nat.mul_le_mul_right w G;have A:(cs.take (k*w)).length=k*w:=by rw[List.length_take];omega
 cases a with
 |none=>
  rcases H with rfl|⟨b,o,h1,_⟩
  ·simp[sW]
  ·cases h1
 | some a=>
  show dy h a 0 (k*w)=_;rcases H with rfl|⟨b,o,h1,H⟩
  ·simp at A;rw[←A];simp[dy]
  ·cases h1;have:=Ag (h:=h) (b:=b) (o:=o) (cs.take (k*w)) 0 (λj I=>by
    have D:j<cs.length:=by rw[List.length_take]at I;omega
    simpa using H j D)
   rw[A]at this;exact this
theorem Ef {n m:Nat}{d x:Value}{h:af}{cs ds:List Value}{K:Value→af→Prop}(hd:Own 1 h d n cs)(W:SlC 1 h x m ds)(ho:∀v∈ds,aJ v=true)
  (H:∀h',Own 1 h' d n (ds.take n++cs.drop m)→Fr (blk d) h h'→h'.size=h.size→K (.int .i64 (Nat.min m n:Nat)) h'):Cn 1 d x h K:=by
 have A:=W.load_some (k:=Nat.min m n) (Nat.min_le_left ..);obtain⟨ab,a',L,rfl,aa⟩:=W;unfold Cn;rcases hd with⟨rfl,rfl,rfl⟩|⟨b,cap,r,e,rfl,hc,hl,hr,U⟩
 ·simp only[Lg];rw[A];refine H _ (.inl ⟨rfl,rfl,by simp⟩) (Fr.refl _ _) rfl
 ·simp only[Lg];rw[A];have G:ds.take (Nat.min m n*1)=ds.take n:=by
   rw[Nat.mul_one];rcases Nat.le_total m n with h1|h1
   ·rw[show Nat.min m n=m from Nat.min_eq_left h1,List.take_of_length_le (by omega),List.take_of_length_le (by omega)]
   ·rw[show Nat.min m n=n from Nat.min_eq_right h1]
  rw[G];have D:(ds.take n).length≤(cs++r).length:=by simp;omega
  have F:=kO (o:=0) (ds.take n) 0 h _ U (by simp;omega) (λv hv=>ho v (List.mem_of_mem_take hv));simp only[F];have I:=CI (ds.take n) [] (cs++r) D;simp only[List.nil_append,List.length_nil]at I;rw[show(0+0:Nat)=0 from rfl,I];refine H _ (.inr ⟨b,cap,r,e,rfl,hc,?_,?_,?_⟩) Upd.set.fr (tH ..)
  ·simp;omega
  ·simp at hr ⊢;omega
  ·rw[kB U]
   congr 3
   rw[List.append_assoc]
   congr 1
   rcases Nat.le_total m n with h1|h1
   ·rw[List.length_take,List.drop_append_of_le_length (by omega)]
    congr 2;omega
   ·rw[List.length_take,Nat.min_eq_left (by omega), @List.drop_eq_nil_of_le _ cs _ (by omega),List.nil_append];rw[show n=cs.length by omega,List.drop_left]
theorem LI {h:af}{body:List Value→Env→af→(List Value→af→Prop)→Prop}(n A:Nat)(I:Nat→af→Prop)(h0:I A h)
  (step:∀k h again ρj,A≤k→I k h→(∀h',k<n→I (k+1) h'→again [.int .i64 ((k:Int)+1)] h')→body [.int .i64 (k:Int)] ρj h again):aS [.int .i64 (A:Int)] h body:=by
 refine cP (λd L h=>∃k,A≤k∧d=n-k∧L=[.int .i64 (k:Int)]∧I k h) (n-A) ⟨A,Nat.le_refl _,rfl,rfl,h0⟩ ?_;rintro d _ ρj h1 again ⟨k,F,hd,rfl,H⟩ G;exact step k h1 again ρj F H λh' U D=>G _ _ (n-(k+1)) (by omega) ⟨k+1,by omega,rfl,by simp,D⟩
theorem Cd {h:af}{body:List Value→Env→af→(List Value→af→Prop)→Prop}(n:Nat)(I:Nat→af→Prop)(h0:I 0 h)
  (step:∀k h again ρj,I k h→(∀h',k<n→I (k+1) h'→again [.int .i64 ((k:Int)+1)] h')→body [.int .i64 (k:Int)] ρj h again):aS [.int .i64 0] h body:=
 LI n 0 I h0 λk h again ρj _=>step k h again ρj
structure Rp (α:Type) where
 w:Nat
 R:(Nat→Prop)→af→List Value→α→Prop
 len:∀{Z:Nat→Prop} {h:af} {cs:List Value} {x:α},R Z h cs x→cs.length=w
 one:∀{Z:Nat→Prop} {h:af} {cs:List Value} {x:α},R Z h cs x→∀v∈cs,aJ v=true
 fr:∀{Z M:Nat→Prop} {h h':af} {cs:List Value} {x:α},R Z h cs x→Fr M h h'→(∀b,b<h.size→Z b→¬M b)→R Z h' cs x
 mono:∀{Z Z':Nat→Prop} {h:af} {cs:List Value} {x:α},R Z h cs x→(∀b,b<h.size→Z b→Z' b)→R Z' h cs x
theorem Rp.ext {α:Type}(e:Rp α){Z:Nat→Prop}{h h':af}{cs:List Value}{x:α}(H:e.R Z h cs x)(k:Ext h h'):e.R Z h' cs x:=e.fr (M:=λ_=>False) H k.fr λ_ _ _=>id
theorem SlC.nil {w:Nat}{h h':af}{v:Value}{n:Nat}(H:SlC w h v n []):SlC w h' v n []:=by
 obtain⟨A,a,cap,rfl,H⟩:=H;exact⟨A,a,cap,rfl,.inl rfl⟩
theorem SlC.isSl {w:Nat}{h:af}{v:Value}{n:Nat}{cs:List Value}(H:SlC w h v n cs):∃a cap,v=.slice a n cap:=by
 obtain⟨_,a,cap,rfl,_⟩:=H;exact⟨a,cap,rfl⟩
theorem Own.isSl {w:Nat}{h:af}{v:Value}{n:Nat}{cs:List Value}(H:Own w h v n cs):∃a cap,v=.slice a n cap:=H.sl.isSl
theorem SlC.lt {w:Nat}{h:af}{v:Value}{n:Nat}{cs:List Value}(H:SlC w h v n cs)(h0:cs≠[]){b:Nat}(D:blk v b):b<h.size:=by
 obtain⟨F,a,cap,rfl,H⟩:=H;rcases H with rfl|⟨A,o,rfl,H⟩
 ·exact absurd rfl h0
 ·have:=Sq (H 0 (List.length_pos_iff.2 h0));rw[show b=A from D];exact this
namespace Rp
def int (k:IntKind):Rp Int where
 w:=1
 R:=λ_ _ cs n=>cs=[.int k n]
 len:=by rintro _ _ _ _ rfl;rfl
 one:=by rintro _ _ _ _ rfl;simp[aJ]
 fr:=λH _ _=>H
 mono:=λH _=>H
def bool:Rp Bool where
 w:=1
 R:=λ_ _ cs n=>cs=[.bool n]
 len:=by rintro _ _ _ _ rfl;rfl
 one:=by rintro _ _ _ _ rfl;simp[aJ]
 fr:=λH _ _=>H
 mono:=λH _=>H
def str:Rp ByteArray where
 w:=1
 R:=λ_ _ cs n=>cs=[.string n]
 len:=by rintro _ _ _ _ rfl;rfl
 one:=by rintro _ _ _ _ rfl;simp[aJ]
 fr:=λH _ _=>H
 mono:=λH _=>H
abbrev el (w:Nat)(ds:List Value)(i:Nat):List Value:=(ds.drop (i*w)).take w
def Sl {α:Type}(e:Rp α)(Z:Nat→Prop)(h:af)(v:Value)(l:List α):Prop:=
 ∃ds,SlC e.w h v l.length ds∧(ds≠[]→∀b,blk v b→Z b)∧∀i (hi:i<l.length),e.R Z h (el e.w ds i) l[i]
theorem Sl.fr {α:Type}{e:Rp α}{Z M:Nat→Prop}{h h':af}{v:Value}{l:List α}(H:Sl e Z h v l)(f:Fr M h h')(q:∀b,b<h.size→Z b→¬M b):Sl e Z h' v l:=by
 obtain⟨ds,D,F,G⟩:=H;refine⟨ds,?_,F,λi hi=>e.fr (G i hi) f q⟩;by_cases h0:ds=[]
 ·subst h0;exact D.nil
 ·exact D.fr f λb I A=>q b I (F h0 b A)
theorem Sl.ext {α:Type}{e:Rp α}{Z:Nat→Prop}{h h':af}{v:Value}{l:List α}(H:Sl e Z h v l)(k:Ext h h'):Sl e Z h' v l:=H.fr (M:=λ_=>False) k.fr λ_ _ _=>id
theorem Sl.mono {α:Type}{e:Rp α}{Z Z':Nat→Prop}{h:af}{v:Value}{l:List α}(H:Sl e Z h v l)(q:∀b,b<h.size→Z b→Z' b):Sl e Z' h v l:=by
 obtain⟨ds,A,G,F⟩:=H;exact⟨ds,A,λh0 b D=>q b (A.lt h0 D) (G h0 b D),λi hi=>e.mono (F i hi) q⟩
theorem Sl.isSl {α:Type}{e:Rp α}{Z:Nat→Prop}{h:af}{v:Value}{l:List α}(H:Sl e Z h v l):∃a cap,v=.slice a l.length cap:=by
 obtain⟨ds,A,_⟩:=H;exact A.isSl
theorem Sl.one {α:Type}{e:Rp α}{Z:Nat→Prop}{h:af}{v:Value}{l:List α}(H:Sl e Z h v l):aJ v=true:=by
 obtain⟨a,cap,rfl⟩:=H.isSl;rfl
theorem Sl.nil {α:Type}{e:Rp α}{Z:Nat→Prop}{h:af}:Sl e Z h (.slice none 0 0) []:=⟨[],⟨by simp,none,0,rfl,.inl rfl⟩,λh=>absurd rfl h,λi hi=>absurd hi (by simp)⟩
def sl {α:Type}(e:Rp α):Rp (List α) where
 w:=1
 R:=λZ h cs l=>∃v,cs=[v]∧Sl e Z h v l
 len:=by rintro _ _ _ _ ⟨v,rfl,_⟩;rfl
 one:=by
  rintro _ _ _ _ ⟨v,rfl,H⟩ u hu;rw[List.mem_singleton.1 hu];exact H.one
 fr:=by rintro _ _ _ _ _ _ ⟨v,rfl,H⟩ f q;exact⟨v,rfl,H.fr f q⟩
 mono:=by rintro _ _ _ _ _ ⟨v,rfl,H⟩ q;exact⟨v,rfl,H.mono q⟩
def Pt {α:Type}(e:Rp α)(Z:Nat→Prop)(h:af)(v:Value)(x:α):Prop:=
 ∃b ds t,v=.pointer (some ⟨b,0,none⟩)∧h[b]? =some (.cells (List.toArray ds) t (0,0))∧Z b∧e.R Z h ds x
theorem Pt.fr {α:Type}{e:Rp α}{Z M:Nat→Prop}{h h':af}{v:Value}{x:α}(H:Pt e Z h v x)(f:Fr M h h')(q:∀b,b<h.size→Z b→¬M b):Pt e Z h' v x:=by
 obtain⟨b,ds,t,rfl,r,A,D⟩:=H;exact⟨b,ds,t,rfl,f.row r (q b (Array.getElem?_eq_some_iff.1 r).1 A),A,e.fr D f q⟩
theorem Pt.ext {α:Type}{e:Rp α}{Z:Nat→Prop}{h h':af}{v:Value}{x:α}(H:Pt e Z h v x)(k:Ext h h'):Pt e Z h' v x:=H.fr (M:=λ_=>False) k.fr λ_ _ _=>id
theorem Pt.mono {α:Type}{e:Rp α}{Z Z':Nat→Prop}{h:af}{v:Value}{x:α}(H:Pt e Z h v x)(q:∀b,b<h.size→Z b→Z' b):Pt e Z' h v x:=by
 obtain⟨b,ds,t,rfl,r,D,A⟩:=H;exact⟨b,ds,t,rfl,r,q b (Array.getElem?_eq_some_iff.1 r).1 D,e.mono A q⟩
def pt {α:Type}(e:Rp α):Rp α where
 w:=1
 R:=λZ h cs x=>∃v,cs=[v]∧Pt e Z h v x
 len:=by rintro _ _ _ _ ⟨v,rfl,_⟩;rfl
 one:=by
  rintro _ _ _ _ ⟨v,rfl,b,ds,t,rfl,_⟩ u hu;rw[List.mem_singleton.1 hu];rfl
 fr:=by rintro _ _ _ _ _ _ ⟨v,rfl,H⟩ f q;exact⟨v,rfl,H.fr f q⟩
 mono:=by rintro _ _ _ _ _ ⟨v,rfl,H⟩ q;exact⟨v,rfl,H.mono q⟩
theorem Rc {w:Nat}{ds:List Value}{n i:Nat}(A:ds.length=n*w)(hi:i<n):(el w ds i).length=w:=by
 have:i*w+w≤n*w:=by rw[←Nat.succ_mul];exact Nat.mul_le_mul_right w hi
 show((ds.drop (i*w)).take w).length=w;rw[List.length_take,List.length_drop];omega
theorem el_one {ds:List Value}{i:Nat}(hi:i<ds.length):el 1 ds i=[ds[i]]:=by
 show(ds.drop (i*1)).take 1=[ds[i]];rw[Nat.mul_one,List.drop_eq_getElem_cons hi];rfl
theorem Re {w:Nat}{ds cs:List Value}{n i:Nat}(A:ds.length=n*w)(hi:i<n):el w (ds++cs) i=el w ds i:=by
 have:i*w+w≤n*w:=by rw[←Nat.succ_mul];exact Nat.mul_le_mul_right w hi
 show((ds++cs).drop (i*w)).take w=(ds.drop (i*w)).take w;rw[List.drop_append_of_le_length (by omega),List.take_append_of_le_length (by rw[List.length_drop];omega)]
theorem Rf {w:Nat}{ds cs:List Value}{n i:Nat}(A:ds.length=n*w)(hi:n≤i):el w (ds++cs) i=el w cs (i-n):=by
 have:n*w≤i*w:=Nat.mul_le_mul_right w hi;show((ds++cs).drop (i*w)).take w=(cs.drop ((i-n)*w)).take w;rw[List.drop_append, @List.drop_eq_nil_of_le _ ds _ (by omega),List.nil_append,A,Nat.sub_mul]
theorem el_self {w:Nat}{cs:List Value}(A:cs.length=w):el w cs 0=cs:=by
 show(cs.drop (0*w)).take w=cs;rw[Nat.zero_mul,List.drop_zero];exact List.take_of_length_le (by omega)
theorem Sl.atw {α:Type}{e:Rp α}{Z:Nat→Prop}{h:af}{v:Value}{l:List α}(H:Sl e Z h v l)(G:0<e.w){k:IntKind}{i:Nat}(hi:i<l.length):
  ∃p cs,aR e.w v (.int k (i:Int))=some p∧aH e.w h p=some (.agg (List.toArray cs))∧e.R Z h cs l[i]:=by
 obtain⟨ds,A,I,F⟩:=H;obtain⟨p,D,hq⟩:=A.atw G (k:=k) hi;exact⟨p,_,D,hq,F i hi⟩
theorem Sl.atp {α:Type}{e:Rp α}{Z:Nat→Prop}{h:af}{v:Value}{l:List α}(H:Sl e Z h v l)(hw:0<e.w){k:IntKind}{i:Nat}(hi:i<l.length):
  ∃b o cs,aR e.w v (.int k (i:Int))=some (.pointer (some ⟨b,o,none⟩))∧cs.length=e.w∧(∀j (I:j<cs.length),aB h ⟨b,o+j,none⟩=some cs[j])∧e.R Z h cs l[i]∧Z b:=by
 obtain⟨ds,⟨G,a,cap,rfl,F⟩,U,W⟩:=H;have D:i*e.w+e.w≤ds.length:=by rw[G,←Nat.succ_mul];exact Nat.mul_le_mul_right e.w hi
 have A:ds≠[]:=λh0=>by rw[h0]at D;simp at D;omega
 rcases F with h0|⟨b,o,rfl,F⟩
 ·exact absurd h0 A
 ·refine⟨b,o+i*e.w,el e.w ds i,pF hi,Rc G hi,λj I=>?_,W i hi,U A b rfl⟩;have L:j<e.w:=by rw[Rc G hi]at I;exact I
  have:=F (i*e.w+j) (by omega);rw[←Nat.add_assoc]at this;rw[this];simp
theorem Sl.at1 {α:Type}{e:Rp α}(D:e.w=1){Z:Nat→Prop}{h:af}{v:Value}{l:List α}(H:Sl e Z h v l){k:IntKind}{i:Nat}(hi:i<l.length):
  ∃p c,aR 1 v (.int k (i:Int))=some p∧ldV h p=some c∧e.R Z h [c] l[i]:=by
 obtain⟨ds,A,L,F⟩:=H;have G:=A.1;rw[D]at A;obtain⟨p,I,hq⟩:=A.at1 (k:=k) hi;refine⟨p,_,I,hq,?_⟩;have:=F i hi;rw[D,el_one (by rw[G,D];omega)]at this;exact this
def Ow {α:Type}(e:Rp α)(Z:Nat→Prop)(h:af)(v:Value)(l:List α):Prop:=
 ∃ds,Own e.w h v l.length ds∧(∀b,blk v b→¬Z b)∧∀i (hi:i<l.length),e.R Z h (el e.w ds i) l[i]
theorem Ow.nil {α:Type}{e:Rp α}{Z:Nat→Prop}{h:af}:Ow e Z h (.slice none 0 0) []:=⟨[],.inl ⟨rfl,rfl,rfl⟩,λb A=>A.elim,λi hi=>absurd hi (by simp)⟩
theorem Ow.fr {α:Type}{e:Rp α}{Z M:Nat→Prop}{h h':af}{v:Value}{l:List α}(H:Ow e Z h v l)(f:Fr M h h')(q:∀b,b<h.size→Z b→¬M b)(A:∀b,blk v b→¬M b):Ow e Z h' v l:=by
 obtain⟨ds,D,G,F⟩:=H;exact⟨ds,D.fr f A,G,λi hi=>e.fr (F i hi) f q⟩
theorem Ow.ext {α:Type}{e:Rp α}{Z:Nat→Prop}{h h':af}{v:Value}{l:List α}(H:Ow e Z h v l)(k:Ext h h'):Ow e Z h' v l:=H.fr (M:=λ_=>False) k.fr (λ_ _ _=>id) λ_ _=>id
theorem Ow.mono {α:Type}{e:Rp α}{Z Z':Nat→Prop}{h:af}{v:Value}{l:List α}(H:Ow e Z h v l)(q:∀b,b<h.size→Z b→Z' b)(A:∀b,blk v b→¬Z' b):Ow e Z' h v l:=by
 obtain⟨ds,D,G,F⟩:=H;exact⟨ds,D,A,λi hi=>e.mono (F i hi) q⟩
theorem Ow.lt {α:Type}{e:Rp α}{Z:Nat→Prop}{h:af}{v:Value}{l:List α}(H:Ow e Z h v l){b:Nat}(D:blk v b):b<h.size:=by
 obtain⟨ds,A,_⟩:=H;exact A.lt D
theorem Ow.isSl {α:Type}{e:Rp α}{Z:Nat→Prop}{h:af}{v:Value}{l:List α}(H:Ow e Z h v l):∃a cap,v=.slice a l.length cap:=by
 obtain⟨ds,A,_⟩:=H;exact A.isSl
theorem Ow.one {α:Type}{e:Rp α}{Z:Nat→Prop}{h:af}{v:Value}{l:List α}(H:Ow e Z h v l):aJ v=true:=by
 obtain⟨a,cap,rfl⟩:=H.isSl;rfl
theorem Ow.sl {α:Type}{e:Rp α}{Z:Nat→Prop}{h:af}{v:Value}{l:List α}(H:Ow e Z h v l):Sl e (λb=>Z b∨blk v b) h v l:=by
 obtain⟨ds,D,G,F⟩:=H;exact⟨ds,D.sl,λ_ b A=>.inr A,λi hi=>e.mono (F i hi) λ_ _ A=>.inl A⟩
theorem app_ow {α:Type}{e:Rp α}{Z:Nat→Prop}{z:Value}{t:TypeId}{bytes:Nat}{s x:Value}{h:af}{l l2:List α}{K:Value→af→Prop}
  {cs:List Value} (hs:Ow e Z h s l) (hc:SlC e.w h x l2.length cs) (F:∀i (hi:i<l2.length),e.R Z h (el e.w cs i) l2[i]) (hz:z.cells.size=e.w) (D:(l.length+l2.length)*bytes≤140737488355328) (hn:l.length+l2.length≤9223372036854775807) (hZ:∀b,Z b→b<h.size)
  (H:∀G h',Ow e Z h' G (l++l2)→Fr (blk s) h h'→(∀b,blk G b→blk s b∨h.size≤b)→K G h'):cG z t e.w bytes s x h K:=by
 obtain⟨ds,L,hd,he⟩:=hs;refine sr L hc ?_ hz D hn λG h' o' I n'=>H G h' ⟨ds++cs,?_,?_,?_⟩ I n'
 ·intro v hv;obtain⟨j,hj,rfl⟩:=List.mem_iff_getElem.1 hv;have W:=hc.1;have U:0<e.w:=by
   rcases Nat.eq_zero_or_pos e.w with h0|h0
   ·rw[h0,Nat.mul_zero]at W;omega
   ·exact h0
  have hi:j/e.w<l2.length:=by rw[Nat.div_lt_iff_lt_mul U];omega
  have:=e.one (F _ hi) (cs[j]) ?_
  ·exact this
  ·rw[List.mem_iff_getElem];have h1:j/e.w*e.w+j%e.w=j:=by rw[Nat.mul_comm];exact Nat.div_add_mod j e.w
   have h2:j%e.w<e.w:=Nat.mod_lt _ U;refine⟨j%e.w,by rw[Rc W hi];exact h2,?_⟩;simp only[List.getElem_take,List.getElem_drop,h1]
 ·rw[List.length_append];exact o'
 ·intro b D A;rcases n' b D with h1|h1
  ·exact hd b h1 A
  ·have:=hZ b A;omega
 ·intro i hi;rw[List.length_append]at hi;by_cases h1:i<l.length
  ·rw[Re L.sl.1 h1,List.getElem_append_left h1];exact e.fr (he i h1) I λb _ A D=>hd b D A
  ·rw[Rf L.sl.1 (by omega),List.getElem_append_right (by omega)];exact e.fr (F _ (by omega)) I λb _ A D=>hd b D A
theorem SlC.single {h:af}{b:Nat}{t:TypeId}{cs:List Value}(r:h[b]? =some (.cells cs.toArray t (0,0))):SlC cs.length h (.slice (some ⟨b,0,none⟩) 1 1) 1 cs:=
 ⟨by simp,_,1,rfl,.inr ⟨b,0,rfl,λj A=>by rw[Nat.zero_add,ai r];simp[A]⟩⟩
theorem LY:∀(cs:List Value) (c:Array Value) (o:Nat),(cs.zipIdx o).foldl (λcs (p:Value×Nat)=>cs.setIfInBounds p.2 p.1) c=wrL c o cs
 | [],c,o=>rfl
 |v::cs,c,o=>by
  simp only[List.zipIdx_cons,List.foldl_cons,wrL];exact LY cs _ (o+1)
theorem fill_whole {c:Array Value}{w:Nat}{cs:List Value}(hc:c.size=w)(A:cs.length=w):aE c [(0,w,.agg cs.toArray)]=some cs.toArray:=by
 simp only[aE,bC];rw[if_neg (by simp[A,hc])]
 congr 1
 rw[Array.zipIdx_toArray,List.foldl_toArray']
 ·simp only[Nat.zero_add];rw[LY,Mu cs c (by omega)]
 ·simp
theorem fill_one {z v:Value}(A:aJ v=true):aE #[z] [(0,1,v)]=some #[v]:=by
 simp only[aE,bU A];rw[if_neg (by simp)];simp
theorem push_ow {α:Type}{e:Rp α}{Z:Nat→Prop}{z:Value}{c:Array Value}{t t':TypeId}{bytes:Nat}{s:Value}{h:af}{l:List α}{cs:List Value}{x:α}{K:Value→af→Prop}
  (L:Ow e Z h s l) (F:e.R Z h cs x) (hc:c.size=e.w) (U:z.cells.size=e.w) (hb:(l.length+1)*bytes≤140737488355328) (hn:l.length+1≤9223372036854775807) (hZ:∀b,Z b→b<h.size)
  (H:∀A h',Ow e Z h' A (l++[x])→Fr (blk s) h h'→(∀b,blk A b→blk s b∨h.size≤b)→K A h'):cF c t 1 [(0,e.w,.agg cs.toArray)] h λv2 h3=>cG z t' e.w bytes s v2 h3 K:=by
 refine cH (fill_whole hc (e.len F)) λb h1 r1 D n1=>?_
 have I:=SlC.single r1;rw[e.len F]at I;refine app_ow (l2:=[x]) (L.ext D) I (λi hi=>?_) U (by simpa using hb) (by simpa using hn) (λk G=>Nat.lt_of_lt_of_le (hZ k G) D.1) λA h' o' W n'=>
  H A h' o' (D.fr.trans W) λk G=>(n' k G).imp id λh2=>Nat.le_trans D.1 h2
 have hi:i=0:=by simpa using hi
 subst hi;rw[el_self (e.len F)];exact e.ext F D
theorem push_ow1 {α:Type}{e:Rp α}{Z:Nat→Prop}{z z' c:Value}{t L:TypeId}{bytes:Nat}{s:Value}{h:af}{l:List α}{x:α}{K:Value→af→Prop}(F:e.w=1)
  (W:Ow e Z h s l) (G:e.R Z h [c] x) (hz:z.cells.size=1) (hb:(l.length+1)*bytes≤140737488355328) (hn:l.length+1≤9223372036854775807) (hZ:∀b,Z b→b<h.size)
  (H:∀A h',Ow e Z h' A (l++[x])→Fr (blk s) h h'→(∀b,blk A b→blk s b∨h.size≤b)→K A h'):cF #[z'] t 1 [(0,1,c)] h λv2 h3=>cG z L 1 bytes s v2 h3 K:=by
 refine cH (fill_one (e.one G c (by simp))) λb h1 r1 D n1=>?_
 have U:=SlC.single (cs:=[c]) r1;rw[show[c].length=e.w by rw[F];rfl]at U;have ee:cG z L 1 bytes s (.slice (some ⟨b,0,none⟩) 1 1) h1 K=cG z L e.w bytes s (.slice (some ⟨b,0,none⟩) 1 1) h1 K:=by rw[F]
 rw[ee];refine app_ow (l2:=[x]) (W.ext D) U (λi hi=>?_) (hz.trans F.symm) (by simpa using hb) (by simpa using hn) (λk I=>Nat.lt_of_lt_of_le (hZ k I) D.1) λA h' o' f' n'=>
  H A h' o' (D.fr.trans f') λk I=>(n' k I).imp id λh2=>Nat.le_trans D.1 h2
 have hi:i=0:=by simpa using hi
 subst hi;rw[el_self (e.len G)];exact e.ext G D
end Rp
theorem aQ:∀v∈([]:List Value),aJ v=true:=λv h=>absurd h (by simp)
theorem ak {a:Value}{l:List Value}(h:aJ a=true)(H:∀v∈l,aJ v=true):∀v∈a::l,aJ v=true:=λv A=>by
 rcases List.mem_cons.1 A with rfl|A
 ·exact h
 ·exact H v A
theorem aU {h:af}{b:Nat}{o:Obj}(r:h[b]? =some o):b<h.size:=(Array.getElem?_eq_some_iff.1 r).1
theorem aG {h:af}{body:(af→Prop)→Prop}(S:af→Prop)(A:S h)(H:body S):bD h body:=⟨S,A,H⟩
theorem cD {c:Array Value}{t:TypeId}{n:Nat}{cs:List Value}{h:af}{K:Value→af→Prop}(G:cs.length=c.size)(h1:∀v∈cs,aJ v=true)(U:cs.length=n)
  (H:∀b h',h'[b]? =some (.cells cs.toArray t (0,0))→Ext h h'→h.size≤b→K (.pointer (some ⟨b,0,none⟩)) h'):aP c t h λv F=>stK n v (.agg cs.toArray) F λ_ A=>K v A:=
 aC λb F r2 L D=>ce r2 G h1 U λA W I=>H b A W (L.upd D I) D
def I64 (n:Int):Prop:= -9223372036854775808≤n∧n≤9223372036854775807
def iy (m:Nat)(below:Bool):Int:=
 if below then(if 9223372036854775808≤m then-9223372036854775808 else-(m:Int))else(if 9223372036854775807<m then 9223372036854775807 else(m:Int))
def jl (a b:Int):Bool:= !(decide (a<0)==decide (b<0))
def tO (m d:Nat)(below:Bool):Nat:=m/d+(if below then(if d<2*(m%d)then 1 else 0)else(if d≤2*(m%d)then 1 else 0))
def Cl (m d:Nat)(below:Bool):Nat:=m/d+(if below∧m%d≠0 then 1 else 0)
def Fg (a b:Int):Int:=if b=0 then 0 else iy (Cl a.natAbs b.natAbs (jl a b)) (jl a b)
def ch (a b d:Int):Int:=if d=0 then 0 else iy (tO (a.natAbs*b.natAbs) d.natAbs (jl a b != decide (d<0))) (jl a b != decide (d<0))
def AE (a b:Int):Int:=max (-9223372036854775808) (min (a+b) 9223372036854775807)
def WL (a b:Int):Int:=iy (a.natAbs*b.natAbs) (jl a b)
theorem LW (m:Nat)(b:Bool):I64 (iy m b):=by
 unfold iy I64;cases b
 ·simp only[Bool.false_eq_true,if_false];split<;>omega
 ·simp only[if_true];split<;>omega
theorem vF (a b:Int):I64 (AE a b):=by unfold AE I64;omega
theorem gG (n:Int):IntKind.i64.wrap n=(n+9223372036854775808)%18446744073709551616-9223372036854775808:=by
 show(if(true&&decide (n%(2^64:Int)≥(2^63:Int)))=true then n%(2^64:Int)-(2^64:Int)else n%(2^64:Int))=_;split
 ·rename_i hh;simp only[Bool.true_and,decide_eq_true_eq]at hh;omega
 ·rename_i hh;simp only[Bool.true_and,decide_eq_true_eq]at hh;omega
theorem dG (n:Int):IntKind.u64.wrap n=n%18446744073709551616:=by simp[IntKind.wrap,IntKind.bits,IntKind.signed]
theorem eO {m:Nat}(h:m<18446744073709551616):IntKind.u64.wrap (m:Int)=(m:Int):=by rw[dG];omega
theorem Og {x:Int}(h:I64 x)(A:x<0):IntKind.u64.wrap (0-IntKind.u64.wrap x)=(x.natAbs:Int):=by
 unfold I64 at h;rw[dG,dG];omega
theorem Of {x:Int}(h:I64 x)(A:¬x<0):IntKind.u64.wrap x=(x.natAbs:Int):=by
 unfold I64 at h;rw[dG];omega
theorem Pj (n i:Nat):n/2^i=2*(n/2^(i+1))+n/2^i%2:=by
 rw[Nat.pow_succ,←Nat.div_div_eq_div_mul];omega
theorem Te {n d q r bit:Nat}(hd:0<d)(F:n/d=q)(D:n%d=r)(H:bit≤1):
  (2*n+bit)/d=2*q+(if d≤2*r+bit then 1 else 0)∧(2*n+bit)%d=(if d≤2*r+bit then 2*r+bit-d else 2*r+bit):=by
 have h:=Nat.div_add_mod n d;rw[F,D]at h;have G:r<d:=D▸Nat.mod_lt _ hd;have e:2*n+bit=d*(2*q)+(2*r+bit):=by
  rw[←h,Nat.mul_left_comm,Nat.mul_add];omega
 by_cases hc:d≤2*r+bit
 ·rw[if_pos hc,if_pos hc];have A:2*n+bit=(2*r+bit-d)+d*(2*q+1):=by rw[e,Nat.mul_add d (2*q) 1];omega
  rw[A];constructor
  ·rw[Nat.add_mul_div_left _ _ hd,Nat.div_eq_of_lt (by omega)];omega
  ·rw[Nat.add_mul_mod_self_left,Nat.mod_eq_of_lt (by omega)]
 ·rw[if_neg hc,if_neg hc];have A:2*n+bit=(2*r+bit)+d*(2*q):=by rw[e];omega
  rw[A];constructor
  ·rw[Nat.add_mul_div_left _ _ hd,Nat.div_eq_of_lt (by omega)];omega
  ·rw[Nat.add_mul_mod_self_left,Nat.mod_eq_of_lt (by omega)]
def lX (n:Nat):Value:=.agg #[.int .u64 ((n/18446744073709551616:Nat):Int),.int .u64 ((n%18446744073709551616:Nat):Int)]
end Go.Crisp
namespace Go.Proofs.YtcoimlclclnlkaaGreatDoor
open Go Go.Crisp
abbrev rI:Rp Int:=Rp.int .i64
structure OpD where
 kind:Int
 border:Int
 sigma:Int
 radius:Int
 x:List Int
 y:List Int
 filter:Int
 w:Int
 hh:Int
structure OpD.Wf (o:OpD):Prop where
 kind:I64 o.kind
 border:I64 o.border
 sigma:I64 o.sigma
 radius:I64 o.radius
 filter:I64 o.filter
 w:I64 o.w
 hh:I64 o.hh
 x:∀n∈o.x,I64 n
 y:∀n∈o.y,I64 n
def rOp:Rp OpD where
 w:=9
 R:=λZ h cs o=>∃s t,cs=[.int .i64 o.kind,.int .i64 o.border,.int .i64 o.sigma,.int .i64 o.radius,s,t,.int .i64 o.filter,.int .i64 o.w,.int .i64 o.hh]∧Rp.Sl rI Z h s o.x∧Rp.Sl rI Z h t o.y
 len:=by rintro _ _ _ _ ⟨s,t,rfl,_⟩;rfl
 one:=by
  rintro _ _ _ _ ⟨s,t,rfl,H,K⟩ v hv;have:=H.one;have:=K.one;simp only[List.mem_cons,List.not_mem_nil,or_false]at hv;rcases hv with rfl|rfl|rfl|rfl|rfl|rfl|rfl|rfl|rfl<;>first|rfl|assumption
 fr:=by rintro _ _ _ _ _ _ ⟨s,t,rfl,H,K⟩ f q;exact⟨s,t,rfl,H.fr f q,K.fr f q⟩
 mono:=by rintro _ _ _ _ _ ⟨s,t,rfl,H,K⟩ q;exact⟨s,t,rfl,H.mono q,K.mono q⟩
end Go.Proofs.YtcoimlclclnlkaaGreatDoor
namespace Go.Crisp
open Go Go.ChangeShapes Go.WideShapes Go.ChangeAt Go.RowKit
inductive TS where
 |int (k:IntKind)
 |bool
 |str
 |sl (e:TS) (z:Nat)
 |st (b:TS)
 |unit
 |pair (a b:TS)
def TS.T:TS→Type
 | .int _=>Int
 | .bool=>Bool
 | .str=>ByteArray
 | .sl e _=>List e.T
 | .st b=>b.T
 | .unit=>Unit
 | .pair a b=>a.T×b.T
def TS.w:TS→Nat
 | .int _=>1
 | .bool=>1
 | .str=>1
 | .sl _ _=>1
 | .st b=>b.w
 | .unit=>0
 | .pair a b=>a.w+b.w
def Rd:(t:TS)→af→List Value→t.T→Prop
 | .int k,_,cs,n=>cs=[.int k n]∧(Lit.int k n).wf=true
 | .bool,_,cs,b=>cs=[.bool b]
 | .str,_,cs,s=>cs=[.string s]∧s.size≤140737488351232
 | .sl e z,h,cs,l=>∃a cap,cs=[.slice a (List.length l) cap]∧List.length l≤cap∧cap≤maxLen∧cap*z≤140737488351232∧
   (List.length l=0∨∃b o,(e.w=0∨a=some ⟨b,o,none⟩)∧∀i (hi:i<List.length l),∃ds:List Value,ds.length=e.w∧
    (∀j (hj:j<ds.length),aB h ⟨b,o+i*e.w+j,none⟩=some ds[j])∧Rd e h ds (List.get (α:=e.T) l ⟨i,hi⟩))
 | .st b,h,cs,x=>Rd b h cs x
 | .unit,_,cs,_=>cs=[]
 | .pair a b,h,cs,x=>∃c1 c2,cs=c1++c2∧Rd a h c1 x.1∧Rd b h c2 x.2
mutual
/--The type has this shape. -/
def TS.okB (P:Program):TS→TypeId→Bool
 | .int k,t=>match P.underlying t with|some (.int k')=>decide (k'=k)|_=>false
 | .bool,t=>match P.underlying t with|some .bool=>true|_=>false
 | .str,t=>match P.underlying t with|some .string=>true|_=>false
 | .sl e z,t=>match P.underlying t with|some (.slice e')=>P.cellsOf e'==e.w&&P.bytesOf e'==z&&e.okB P e'|_=>false
 | .st b,t=>match P.underlying t with|some (.struct fs)=>P.cellsOf t==b.w&&b.okF P fs.toList 0|_=>false
 |_,_=>false
/--The fields have these shapes,from this place on. -/
def TS.okF (P:Program):TS→List Field→Nat→Bool
 | .unit,fs,_=>match fs with| []=>true|_=>false
 | .pair a b,fs,n=>match fs with| []=>false|f::fs=>f.offset==n&&P.cellsOf f.type==a.w&&a.okB P f.type&&b.okF P fs (n+a.w)
 |_,_,_=>false
end
def xx (l:List Nat):Prop:=∀n∈l,n≤140737488351232
theorem El (b o n:Nat):(⟨b,o,none⟩:Addr).add n=⟨b,o+n,none⟩:=by
 unfold Addr.add;split<;>simp_all
theorem Co {w:World}{a:Addr}{n:Nat}{l:List Value}(h:w.cells? 0 a n=some l):l.length=n∧∀j (A:j<l.length),aB w.heap (a.add j)=some l[j]:=by
 unfold World.cells? at h;rw[if_pos (Nat.zero_le _)]at h;have D:l.length=n:=by simpa using mapM_some_length h
 refine⟨D,λj A=>?_⟩;have:=mapM_some_get h j j (by simp[←D,A]);rw[List.getElem?_eq_getElem A]at this;exact this
theorem vv {a b:List Nat}(h:xx (a++b)):xx a∧xx b:=⟨λn A=>h n (List.mem_append.2 (.inl A)),λn A=>h n (List.mem_append.2 (.inr A))⟩
theorem Jf {a:Nat}{b:List Nat}(h:xx (a::b)):a≤140737488351232∧xx b:=⟨h a (List.mem_cons_self ..),λn A=>h n (List.mem_cons_of_mem _ A)⟩
theorem LK {H:Type}{P:Program}{e:TypeId}:∀{l:List (DataW H)},xx (DataW.weightsAll P e l)→∀d∈l,xx (d.weights P e)
 | [],_,d,hd=>by cases hd
 |x::r,h,d,hd=>by
  rw[DataW.weightsAll]at h;rcases List.mem_cons.1 hd with rfl|hd
  ·exact(vv h).1
  ·exact LK (vv h).2 d hd
theorem Wy {H:Type}{ab:TypeId×Value→H}{P:Program}{w:World}{held:Bool}(t:TS):
  (∀(id:TypeId) (A:Nat) (cs:List Value) (x:DataW H×List MemPlace),t.okB P id=true→DataW.trod ab P w 0 (λ_=>true) held A id cs=some x→xx (x.1.weights P id)→∃d:t.T,Rd t w.heap cs d)∧
  (∀(U:List Field) (off A:Nat) (cs:List Value) (xs:List (DataW H×List MemPlace)),t.okF P U off=true→off+t.w=cs.length→
   U.mapM (λf=>DataW.trod ab P w 0 (λ_=>true) held A f.type ((cs.drop f.offset).take (P.cellsOf f.type)))=some xs→xx (DataW.weightsEach P (U.map (·.type)) (xs.map (·.1)))→∃d:t.T,Rd t w.heap (cs.drop off) d):=by
 induction t with
 |int k=>
  refine⟨λid A cs x ok h D=>?_,λ_ _ _ _ _ ok=>by simp[TS.okF]at ok⟩;rw[TS.okB]at ok;split at ok<;>simp at ok
  rename_i k' I;subst ok;obtain⟨n,rfl,_,hn⟩:=DataW.trod_int I h;exact⟨n,rfl,hn⟩
 |bool=>
  refine⟨λid A cs x ok h D=>?_,λ_ _ _ _ _ ok=>by simp[TS.okF]at ok⟩;rw[TS.okB]at ok;split at ok<;>simp at ok
  rename_i I;obtain⟨n,rfl,_⟩:=DataW.trod_bool I h;exact⟨n,by simp[Rd]⟩
 |str=>
  refine⟨λid A cs x ok h D=>?_,λ_ _ _ _ _ ok=>by simp[TS.okF]at ok⟩;rw[TS.okB]at ok;split at ok<;>simp at ok
  rename_i I;obtain⟨s,rfl,rfl,_⟩:=DataW.trod_string I h;simp only[DataW.weights]at D;have:=(Jf D).1;exact⟨s,rfl,by rw[Array.length_toList]at this;exact this⟩
 | sl e z ih=>
  refine⟨λid A cs x ok h D=>?_,λ_ _ _ _ _ ok=>by simp[TS.okF]at ok⟩;rw[TS.okB]at ok;split at ok<;>simp at ok
  rename_i e' I;obtain⟨⟨hc,hz⟩,ok⟩:=ok;rcases DataW.trod_slice I h with⟨rfl,rfl⟩|⟨a,len,cap,L,rest,n,rfl,rfl,rfl,_,a9,ax,b1,hi,a8,_⟩
  ·exact⟨([]:List e.T),none,0,rfl,Nat.le_refl _,Nat.zero_le _,by simp,.inl rfl⟩
  ·obtain⟨b0,_⟩:=a8 rfl;rw[DataW.weights,I]at D;simp only[List.length_map]at D;obtain⟨au,D⟩:=Jf D;have D:=LK (vv D).1;have al:L.length+rest.length=cap:=by omega
   rw[al,hz]at au;have each:∀i,i<len→∃(ds:List Value) (x:e.T),ds.length=e.w∧(∀j (W:j<ds.length),aB w.heap ((a.add (i*e.w)).add j)=some ds[j])∧Rd e w.heap ds x:=by
    intro i F;have h1:=hi i F;have ad:i<L.length:=by omega
    rw[List.getElem?_eq_getElem ad]at h1;rw[Option.bind_eq_some_iff]at h1;obtain⟨ds,ar,h1⟩:=h1;rw[hc]at ar;obtain⟨hl,W⟩:=Co ar;obtain⟨x,hx⟩:=ih.1 e' n ds _ ok h1 (D _ (List.mem_map.2 ⟨_,List.getElem_mem ad,rfl⟩));exact⟨ds,x,hl,W,hx⟩
   let f (i:Nat):Option e.T:=if F:i<len then some (each i F).choose_spec.choose else none
   have hf:∀i,i<len→∃y,f i=some y:=λi F=>⟨_,dif_pos F⟩
   obtain⟨l,hl⟩:∃l,(List.range len).mapM f=some l:=by
    have:∀(r:List Nat),(∀i∈r,i<len)→∃l,r.mapM f=some l:=by
     intro r;induction r with
     |nil=>exact λ_=>⟨[],rfl⟩
     |cons i r bc=>
      intro hr;obtain⟨y,hy⟩:=hf i (hr i (List.mem_cons_self ..));obtain⟨l,hl⟩:=bc λk I=>hr k (List.mem_cons_of_mem _ I)
      exact⟨y::l,by simp[List.mapM_cons,hy,hl]⟩
    exact this _ λi hi=>List.mem_range.1 hi
   have aa:l.length=len:=by simpa using mapM_some_length hl
   refine⟨l,some a,cap,by rw[aa],by rw[aa];exact a9,ax,au,?_⟩;by_cases an:List.length l=0
   ·exact .inl an
   ·have hs:e.w=0∨a=⟨a.block,a.off,none⟩:=by
     by_cases h0:e.w=0
     ·exact .inl h0
     ·refine .inr ?_;obtain⟨ds,x,b2,W,_⟩:=each 0 (by omega);have W:=W 0 (by omega);obtain⟨b,o,sp⟩:=a;cases sp with
      |none=>rfl
      |some s=>simp[aB,Addr.add]at W;split at W<;>simp at W
    refine .inr ⟨a.block,a.off,hs.imp (λh=>h) (congrArg some),λi F=>?_⟩
    ·have G:i<len:=by rw[←aa];exact F
     obtain⟨h1,h2,h3⟩:=(each i G).choose_spec.choose_spec;have hx:l.get ⟨i,F⟩=(each i G).choose_spec.choose:=by
      have:=mapM_some_get hl i i (by simp[G]);rw[show f i=some (each i G).choose_spec.choose from dif_pos G,List.getElem?_eq_getElem F]at this;exact(Option.some.inj this).symm
     refine⟨(each i G).choose,h1,λj W=>?_,?_⟩
     ·have h2:=h2 j W;rcases hs with h0|ha
      ·omega
      ·have aw:(a.add (i*e.w)).add j=⟨a.block,a.off+i*e.w+j,none⟩:=by rw[ha,El,El]
       exact aw▸h2
     ·rw[show List.get (α:=e.T) l ⟨i,F⟩=_ from hx];exact h3
 | st b ih=>
  refine⟨λid A cs x ok h D=>?_,λ_ _ _ _ _ ok=>by simp[TS.okF]at ok⟩;rw[TS.okB]at ok;split at ok<;>simp at ok
  rename_i U I;obtain⟨hc,ok⟩:=ok;cases A with
  |zero=>simp[DataW.trod]at h
  | succ n=>
   unfold DataW.trod at h;rw[I]at h;simp only at h;split at h
   ·rename_i bi;rw[Option.map_eq_some_iff]at h;obtain⟨xs,bd,rfl⟩:=h;rw[DataW.weights,I]at D;obtain⟨d,hd⟩:=ih.2 U.toList 0 n cs xs ok (by rw[bi,hc];omega) bd D;exact⟨d,by simpa[Rd]using hd⟩
   ·simp at h
 |unit=>
  refine⟨λid A cs x ok h D=>by simp[TS.okB]at ok,λU off A cs xs ok hl h D=>⟨(),?_⟩⟩;simp only[Rd];simp[TS.w]at hl;exact List.drop_eq_nil_of_le (by omega)
 | pair a b bo a7=>
  refine⟨λid A cs x ok h D=>by simp[TS.okB]at ok,λU off A cs xs ok hl h D=>?_⟩;cases U with
  |nil=>simp[TS.okF]at ok
  |cons f U=>
   simp[TS.okF]at ok;obtain⟨⟨⟨ho,hc⟩,bg⟩,bk⟩:=ok;rw[List.mapM_cons]at h;simp only[Option.bind_eq_bind,Option.bind_eq_some_iff,Option.pure_def,Option.some.injEq]at h;obtain⟨x,hx,ys,bv,rfl⟩:=h;simp only[List.map_cons,DataW.weightsEach]at D;obtain⟨be,ay⟩:=vv D;obtain⟨d1,h1⟩:=bo.1 f.type A _ x bg hx be;obtain⟨d2,h2⟩:=a7.2 U (off+a.w) A cs ys bk (by simp[TS.w]at hl;omega) bv ay;refine⟨(d1,d2),(cs.drop off).take a.w,cs.drop (off+a.w),?_,?_,h2⟩
   ·rw[←List.drop_drop];exact(List.take_append_drop ..).symm
   ·rw[←hc,←ho];exact h1
def RdV:(t:TS)→af→Value→t.T→Prop
 | .st b,h,v,x=>∃cs:Array Value,v=.agg cs∧Rd b h cs.toList x
 | .int k,h,v,x=>Rd (.int k) h [v] x
 | .bool,h,v,x=>Rd .bool h [v] x
 | .str,h,v,x=>Rd .str h [v] x
 | .sl e z,h,v,x=>Rd (.sl e z) h [v] x
 |_,_,_,_=>False
def sK:List TS→af→List Value→Prop
 | [],_,vs=>vs=[]
 |t::ts,h,vs=>∃v r,vs=v::r∧(∃x:t.T,RdV t h v x)∧sK ts h r
def DR (P:Program):List TS→List TypeId→Bool
 | [],ids=>match ids with| []=>true|_=>false
 |t::ts,ids=>match ids with| []=>false|id::ids=>t.okB P id&&DR P ts ids
theorem Ye {H:Type}{L:TypeId×Value→H}{P:Program}{w:World}{held:Bool}{r:Reach}{G:Nat}{t:TS}{id:TypeId}{v:Value}{d:DataW H}{U:List MemPlace}
  (ok:t.okB P id=true) (A:Value.okWide P w r G id v) (h:DataW.Trod L P w 0 (λ_=>true) held id v d U) (hw:xx (d.weights P id)):∃x:t.T,RdV t w.heap v x:=by
 obtain⟨I,W⟩:=h;obtain⟨x,F⟩:=(Wy t).1 id I _ _ ok W hw;cases t with
 |int k=>
  rw[TS.okB]at ok;split at ok<;>simp at ok
  rename_i D;obtain⟨n,rfl⟩:=okWide_int D A;exact⟨x,F⟩
 |bool=>
  rw[TS.okB]at ok;split at ok<;>simp at ok
  rename_i D;obtain⟨n,rfl⟩:=okWide_bool D A;exact⟨x,F⟩
 |str=>
  rw[TS.okB]at ok;split at ok<;>simp at ok
  rename_i D;obtain⟨n,rfl⟩:=okWide_string D A;exact⟨x,F⟩
 |sl e z=>
  rw[TS.okB]at ok;split at ok<;>simp at ok
  rename_i D;obtain⟨a,l,c,rfl⟩:=okWide_slice D A;exact⟨x,F⟩
 |st b=>
  rw[TS.okB]at ok;split at ok<;>simp at ok
  rename_i D;obtain⟨cs,rfl,_⟩:=okWide_struct D A;exact⟨x,cs,rfl,F⟩
 |unit=>simp[TS.okB]at ok
 |pair a b=>simp[TS.okB]at ok
theorem SL {H:Type}{U:TypeId×Value→H}{P:Program}{w:World}{held:Bool}{r:Reach}{D:Nat}:∀{I:List TS} {ids:List TypeId} {A:List Value} {ds:List (DataW H)} {F:List MemPlace},
  DR P I ids=true→(∀(j:Nat) t v,ids[j]? =some t→A[j]? =some v→Value.okWide P w r D t v)→DataW.TrodAll U P w 0 (λ_=>true) held ids A ds F→
  xx (DataW.weightsEach P ids ds)→sK I w.heap A
 | [],ids,A,ds,F,ok,_,h,_=>by
  cases ids with
  |nil=>exact(trodAll_nil h).1
  |cons=>simp[DR]at ok
 | t::I,ids,A,ds,F,ok,hval,h,hw=>by
  cases ids with
  |nil=>simp[DR]at ok
  |cons id ids=>
   simp[DR]at ok;obtain⟨v,L,d,aa,p,q,rfl,rfl,rfl,h1,h2⟩:=trodAll_cons h;rw[DataW.weightsEach]at hw;obtain⟨W,G⟩:=vv hw;exact⟨v,L,rfl,Ye ok.1 (hval 0 id v rfl rfl) h1 W,SL ok.2 (λj t v ht hv=>hval (j+1) t v ht hv) h2 G⟩
theorem L6 {H:Type}{A:TypeId×Value→H}{P:Program}{W G:World}(L:laidOutB P=true)(I:Below W.heap.size W G):∀{ids:List TypeId} {F:List Value} {ds:List (DataW H)} {D:List MemPlace},
  ids.all (λt=>P.readableRec t&&decide (t<P.types.size))=true→DataW.TrodAll A P W 0 (λ_=>true) true ids F ds D→DataW.TrodAll A P G 0 (λb=>decide (b<W.heap.size)) true ids F ds D
 | [],F,ds,D,_,h=>by obtain⟨rfl,rfl,rfl⟩:=trodAll_nil h;exact trodAll_mk0
 |t::ids,F,ds,D,hr,h=>by
  simp only[List.all_cons,Bool.and_eq_true,decide_eq_true_eq]at hr;obtain⟨v,aa,d,U,p,q,rfl,rfl,rfl,h1,h2⟩:=trodAll_cons h;refine trodAll_cons_mk (Below.trod L hr.1.1 hr.1.2 h1 I ?_) (L6 L I hr.2 h2);obtain⟨m,hm⟩:=h1;exact DataW.trod_lt m _ _ _ hm
end Go.Crisp
namespace Go.Crisp
open Go
theorem Qp {e:TS}{z:Nat}{h:af}{cs:List Value}{l:List e.T}(D:e.T→Value)(Q:e.T→Prop)(hw:e.w=1)(U:∀ds x,Rd e h ds x→ds=[D x]∧Q x)(H:Rd (.sl e z) h cs l):
  ∃v,cs=[v]∧SlC 1 h v l.length (l.map D)∧(∀x∈l,Q x)∧l.length*z≤140737488351232:=by
 obtain⟨a,cap,rfl,h1,_,h2,A⟩:=H;have L:l.length*z≤140737488351232:=Nat.le_trans (Nat.mul_le_mul_right z h1) h2;rcases A with A|⟨b,o,G,A⟩
 ·have:l=[]:=List.eq_nil_of_length_eq_zero A;subst this;exact⟨_,rfl,⟨rfl,a,cap,rfl,.inl rfl⟩,λx I=>absurd I (by simp),L⟩
 ·have G:a=some ⟨b,o,none⟩:=G.resolve_left (by omega);refine⟨_,rfl,⟨by simp,a,cap,rfl,.inr ⟨b,o,G,λj W=>?_⟩⟩,λx I=>?_,L⟩
  ·rw[List.length_map]at W;obtain⟨ds,_,hc,F⟩:=A j W;obtain⟨rfl,_⟩:=U _ _ F;have:=hc 0 (by simp);rw[hw]at this;simp only[Nat.mul_one,Nat.add_zero,List.getElem_cons_zero]at this;rw[List.getElem_map];exact this
  ·obtain⟨i,hi,rfl⟩:=List.mem_iff_getElem.1 I;obtain⟨ds,_,hc,F⟩:=A i hi;exact(U _ _ F).2
theorem XV {n:Int}(h:(Lit.int .u8 n).wf=true):0≤n∧n≤255:=by
 have h:(decide (IntKind.u8.min≤n)&&decide (n≤IntKind.u8.max))=true:=h;rw[Bool.and_eq_true,decide_eq_true_eq,decide_eq_true_eq]at h;exact h
theorem y8 {n:Int}(h:(Lit.int .i64 n).wf=true): -9223372036854775808≤n∧n≤9223372036854775807:=by
 have h:(decide (IntKind.i64.min≤n)&&decide (n≤IntKind.i64.max))=true:=h;rw[Bool.and_eq_true,decide_eq_true_eq,decide_eq_true_eq]at h;exact h
theorem Yb {h:af}{cs:List Value}{z:Nat}{l:List Int}(H:Rd (.sl (.int .u8) z) h cs l):
  ∃v,cs=[v]∧SlC 1 h v l.length (l.map (.int .u8))∧(∀x∈l,0≤x∧x≤255)∧l.length*z≤140737488351232:=
 Qp (e:=.int .u8) (Value.int .u8) (λx:Int=>0≤x∧x≤255) rfl (λds x A=>⟨A.1,XV A.2⟩) H
theorem Ww (e:EK)(k:IntKind)(a b:Nat)(h:0<b):ag e .rem (.int k (a:Int)) (.int k (b:Int))=some (.int k ((a%b:Nat):Int)):=by
 rw[cV _ _ _ _ (by omega),Int.ofNat_tmod]
end Go.Crisp
namespace Go.Proofs.YtcoimlclclnlkaaGreatDoor
open Go Go.Crisp
abbrev tI:TS:=.int .i64
abbrev tIs:TS:=.sl (.int .i64) 8
abbrev tOp:TS:=.pair tI (.pair tI (.pair tI (.pair tI (.pair tIs (.pair tIs (.pair tI (.pair tI (.pair tI .unit))))))))
def OH (x:tOp.T):OpD:=⟨x.1,x.2.1,x.2.2.1,x.2.2.2.1,x.2.2.2.2.1,x.2.2.2.2.2.1,x.2.2.2.2.2.2.1,x.2.2.2.2.2.2.2.1,x.2.2.2.2.2.2.2.2.1⟩
theorem S5 {h:af}{v:Value}{l:List Int}(H:SlC 1 h v l.length (l.map (Value.int .i64))):Rp.Sl rI (λ_=>True) h v l:=
 ⟨_,H,λ_ _ _=>trivial,λi hi=>by
  show Rp.el 1 _ i=[.int .i64 l[i]];rw[Rp.el_one (by simpa using hi),List.getElem_map]⟩
theorem Sg {h:af}{cs:List Value}{l:List Int}(H:Rd tIs h cs l):∃v,cs=[v]∧Rp.Sl rI (λ_=>True) h v l∧∀n∈l,I64 n:=by
 obtain⟨v,rfl,h1,D,_⟩:=Qp (e:=.int .i64) (Value.int .i64) I64 rfl (λds x A=>⟨A.1,y8 A.2⟩) H;exact⟨v,rfl,S5 h1,D⟩
theorem XX {h:af}{cs:List Value}{x:tOp.T}(H:Rd tOp h cs x):rOp.R (λ_=>True) h cs (OH x)∧(OH x).Wf:=by
 obtain⟨_,_,rfl,⟨rfl,a1⟩,_,_,rfl,⟨rfl,a2⟩,_,_,rfl,⟨rfl,a3⟩,_,_,rfl,⟨rfl,a4⟩,_,_,rfl,a5,_,_,rfl,a6,_,_,rfl,⟨rfl,G⟩,_,_,rfl,⟨rfl,D⟩,_,_,rfl,⟨rfl,A⟩,rfl⟩:=H;obtain⟨s,rfl,I,F⟩:=Sg a5;obtain⟨t,rfl,t1,t2⟩:=Sg a6;exact⟨⟨s,t,rfl,I,t1⟩,⟨y8 a1,y8 a2,y8 a3,y8 a4,y8 G,y8 D,y8 A,F,t2⟩⟩
theorem Yi {h:af}{cs:List Value}{x:tOp.T}(H:Rd tOp h cs x):(OH x).x.length≤17592186044416∧(OH x).y.length≤17592186044416:=by
 obtain⟨_,_,rfl,_,_,_,rfl,_,_,_,rfl,_,_,_,rfl,_,_,_,rfl,a5,_,_,rfl,a6,_⟩:=H;obtain⟨_,U,_,h1,_,I,_⟩:=a5;obtain⟨_,F,_,L,_,G,_⟩:=a6;have A:(OH x).x.length=List.length (α:=tI.T) x.2.2.2.2.1:=rfl;have D:(OH x).y.length=List.length (α:=tI.T) x.2.2.2.2.2.1:=rfl;rw[A,D];omega
end Go.Proofs.YtcoimlclclnlkaaGreatDoor
namespace Go.Proofs.YtcoimlclclnlkaaGreatDoor
open Go Go.Crisp
open _root_.Go.Proofs.Tryz
section
variable {a0 a1 a2 a3 a4 a5 a6:Value}{h:af}{R:Value→af→Prop}
abbrev ki:FuncId:=4
abbrev uC:FuncId:=10
abbrev dF:FuncId:=11
abbrev gb:FuncId:=12
abbrev gA:FuncId:=13
abbrev bF:FuncId:=14
abbrev aO:FuncId:=15
abbrev co:FuncId:=16
abbrev wR:FuncId:=17
abbrev jH:FuncId:=18
abbrev ur:FuncId:=19
abbrev eM:FuncId:=21
abbrev l8:FuncId:=22
abbrev lz:FuncId:=23
abbrev jG:FuncId:=24
abbrev lZ:FuncId:=25
abbrev kV:FuncId:=27
abbrev gU:FuncId:=28
abbrev dt:FuncId:=30
abbrev cg:FuncId:=31
abbrev ja:FuncId:=33
abbrev oC:FuncId:=34
abbrev uB:FuncId:=35
abbrev zT:FuncId:=36
abbrev pN:FuncId:=37
abbrev fZ:FuncId:=38
abbrev jq:FuncId:=39
abbrev uA:FuncId:=40
abbrev mA:FuncId:=41
abbrev fg:FuncId:=42
abbrev oE:FuncId:=43
abbrev uu:FuncId:=44
abbrev wQ:FuncId:=45
abbrev iN:FuncId:=46
abbrev jI:FuncId:=47
abbrev ii:FuncId:=48
abbrev bE:FuncId:=59
abbrev bG:FuncId:=60
abbrev uE:FuncId:=62
abbrev wV:FuncId:=63
abbrev sI:FuncId:=64
abbrev Ko:FuncId:=65
abbrev zL:FuncId:=66
abbrev wU:FuncId:=67
abbrev ku:FuncId:=68
abbrev tW:FuncId:=69
abbrev wF:FuncId:=70
abbrev oe:FuncId:=71
abbrev CD:FuncId:=72
abbrev dk:FuncId:=73
abbrev kL:FuncId:=74
abbrev eF:FuncId:=75
abbrev fF:FuncId:=76
abbrev sw:FuncId:=77
abbrev kH:FuncId:=78
abbrev CB:FuncId:=79
abbrev gh:FuncId:=80
abbrev gM:FuncId:=82
abbrev fm:FuncId:=83
abbrev da:FuncId:=84
abbrev jc:FuncId:=85
abbrev jC:FuncId:=86
abbrev pL:FuncId:=88
abbrev lB:FuncId:=89
abbrev uD:FuncId:=90
abbrev fo:FuncId:=91
abbrev zJ:FuncId:=92
abbrev fN:FuncId:=93
abbrev kg:FuncId:=94
abbrev p9:FuncId:=95
abbrev sA:FuncId:=96
abbrev gE:FuncId:=97
abbrev jU:FuncId:=98
abbrev wI:FuncId:=99
abbrev ut:FuncId:=100
abbrev zK:FuncId:=101
abbrev ij:FuncId:=102
abbrev lC:FuncId:=103
abbrev dd:FuncId:=104
abbrev pM:FuncId:=105
abbrev nT:FuncId:=106
abbrev nQ:FuncId:=107
abbrev oB:FuncId:=115
abbrev uG:FuncId:=118
abbrev uF:FuncId:=119
abbrev Fv:FuncId:=120
abbrev qV:FuncId:=121
abbrev wH:FuncId:=122
abbrev wG:FuncId:=123
abbrev zU:FuncId:=124
abbrev fH:FuncId:=125
abbrev q8:FuncId:=126
abbrev gv:FuncId:=127
abbrev kc:FuncId:=128
abbrev kU:FuncId:=129
abbrev jE:FuncId:=130
abbrev iL:FuncId:=131
abbrev fb:FuncId:=132
abbrev Kn:FuncId:=133
abbrev rh:FuncId:=134
abbrev zS:FuncId:=135
abbrev gB:FuncId:=136
abbrev jF:FuncId:=137
abbrev qU:FuncId:=138
abbrev cQ:FuncId:=139
abbrev bu:FuncId:=140
abbrev gC:FuncId:=141
abbrev nU:FuncId:=142
abbrev iW:FuncId:=143
abbrev wJ:FuncId:=144
abbrev CF:FuncId:=145
abbrev eG:FuncId:=146
abbrev oH:FuncId:=147
abbrev kh:FuncId:=148
abbrev ju:FuncId:=149
abbrev gd:FuncId:=150
abbrev eN:FuncId:=151
abbrev fG:FuncId:=152
abbrev nR:FuncId:=153
abbrev mz:FuncId:=154
abbrev sH:FuncId:=155
abbrev sG:FuncId:=158
abbrev oG:FuncId:=159
abbrev oD:FuncId:=163
abbrev uH:FuncId:=164
abbrev sJ:FuncId:=165
abbrev jS:FuncId:=166
abbrev ms:FuncId:=167
abbrev nN:FuncId:=168
abbrev wK:FuncId:=169
abbrev mx:FuncId:=170
abbrev mu:FuncId:=171
abbrev l9:FuncId:=172
abbrev jn:FuncId:=173
abbrev nM:FuncId:=174
abbrev jJ:FuncId:=175
abbrev ke:FuncId:=176
abbrev pY:FuncId:=177
abbrev mm:FuncId:=178
abbrev pX:FuncId:=179
abbrev eK:FuncId:=180
abbrev mC:FuncId:=181
abbrev mh:FuncId:=182
abbrev wO:FuncId:=183
abbrev jD:FuncId:=184
abbrev wS:FuncId:=185
abbrev me:FuncId:=186
abbrev cC:FuncId:=187
abbrev dN:FuncId:=188
abbrev eT:FuncId:=189
abbrev gy:FuncId:=190
abbrev oh:FuncId:=191
abbrev iM:FuncId:=192
abbrev gx:FuncId:=193
abbrev dc:FuncId:=194
abbrev CE:FuncId:=195
abbrev wT:FuncId:=196
abbrev io:FuncId:=197
abbrev db:FuncId:=198
abbrev fC:FuncId:=199
abbrev w6:FuncId:=200
abbrev uL:FuncId:=203
abbrev uM:FuncId:=204
abbrev uI:FuncId:=208
abbrev wZ:FuncId:=209
abbrev mq:FuncId:=210
abbrev tT:FuncId:=211
abbrev gw:FuncId:=212
abbrev uz:FuncId:=213
abbrev uv:FuncId:=214
abbrev cI:FuncId:=215
abbrev kK:FuncId:=216
abbrev oF:FuncId:=217
abbrev pP:FuncId:=218
abbrev mo:FuncId:=219
abbrev nK:FuncId:=220
abbrev mg:FuncId:=221
abbrev iX:FuncId:=222
abbrev mc:FuncId:=223
abbrev Aq:FuncId:=224
abbrev ig:FuncId:=225
abbrev jp:FuncId:=226
abbrev kJ:FuncId:=227
abbrev zI:FuncId:=228
abbrev pK:FuncId:=229
abbrev eJ:FuncId:=231
abbrev tZ:FuncId:=242
abbrev uK:FuncId:=243
abbrev uJ:FuncId:=244
abbrev qY:FuncId:=245
abbrev zO:FuncId:=246
abbrev nO:FuncId:=247
abbrev sD:FuncId:=248
abbrev qX:FuncId:=249
abbrev zN:FuncId:=250
abbrev oA:FuncId:=251
abbrev zQ:FuncId:=252
abbrev uw:FuncId:=253
abbrev qW:FuncId:=254
abbrev og:FuncId:=255
abbrev p8:FuncId:=256
abbrev fM:FuncId:=257
abbrev mf:FuncId:=258
abbrev dB:FuncId:=259
abbrev wN:FuncId:=260
abbrev zR:FuncId:=261
abbrev wD:FuncId:=262
abbrev wE:FuncId:=263
abbrev iY:FuncId:=264
abbrev dD:FuncId:=265
abbrev kf:FuncId:=266
abbrev kj:FuncId:=267
abbrev tQ:FuncId:=268
abbrev wY:FuncId:=269
abbrev eI:FuncId:=270
abbrev dw:FuncId:=271
abbrev sF:FuncId:=278
abbrev jT:FuncId:=279
abbrev wL:FuncId:=280
abbrev pZ:FuncId:=281
abbrev qZ:FuncId:=282
abbrev cZ:FuncId:=284
abbrev Fu:FuncId:=285
abbrev wM:FuncId:=286
abbrev sC:FuncId:=287
abbrev df:FuncId:=288
abbrev kI:FuncId:=289
abbrev tP:FuncId:=290
abbrev ub:FuncId:=291
abbrev gF:FuncId:=292
abbrev jV:FuncId:=293
abbrev fX:FuncId:=294
abbrev js:FuncId:=295
abbrev CG:FuncId:=296
abbrev wW:FuncId:=297
abbrev qa:FuncId:=298
abbrev ma:FuncId:=299
abbrev pJ:FuncId:=300
abbrev du:FuncId:=301
abbrev mB:FuncId:=302
abbrev ft:FuncId:=303
abbrev zP:FuncId:=305
abbrev nP:FuncId:=306
abbrev my:FuncId:=307
abbrev Cz:FuncId:=308
abbrev tS:FuncId:=309
abbrev pW:FuncId:=310
abbrev nZ:FuncId:=311
abbrev gk:FuncId:=312
abbrev zV:FuncId:=313
abbrev cJ:FuncId:=314
abbrev bK:FuncId:=315
abbrev Er:FuncId:=316
abbrev jr:FuncId:=317
abbrev ga:FuncId:=318
abbrev qT:FuncId:=319
abbrev wC:FuncId:=320
abbrev fY:FuncId:=321
abbrev cB:FuncId:=322
abbrev lY:Nat:=0
abbrev ed:Nat:=1
abbrev vI:Nat:=2
abbrev sT:Nat:=3
theorem Xb:Sk prog=true:=rfl
instance:jA prog:=⟨Xb⟩
abbrev Ar:Array Value:=#[(.pointer none),(.pointer none),(.pointer none),(.pointer none),(.int .i64 0),(.int .i64 0),(.int .i64 0),(.int .i64 0),(.int .i64 0),(.int .i64 0),(.int .i64 0),(.int .i64 0),(.int .i64 0),(.int .i64 0),(.int .i64 0),(.pointer none),(.int .i64 0)]
abbrev mX:Array Value:=#[(.pointer none),(.pointer none),(.pointer none),(.pointer none),(.pointer none),(.slice none 0 0),(.slice none 0 0),(.slice none 0 0),(.int .i64 0),(.slice none 0 0),(.slice none 0 0),(.slice none 0 0),(.bool false),(.int .i64 0)]
abbrev aD:Array Value:=#[(.slice none 0 0),(.slice none 0 0),(.int .i64 0),(.int .i64 0),(.int .i64 0),(.int .i64 0),(.slice none 0 0),(.slice none 0 0),(.int .i64 0),(.slice none 0 0),(.bool false),(.slice none 0 0),(.slice none 0 0),(.slice none 0 0),(.int .i64 0),(.bool false),(.bool false),(.slice none 0 0),(.slice none 0 0),(.slice none 0 0)]
def oU (a0 a1 a2 a3 a4 a5 a6:Value)(h:af)(R:Value→af→Prop):Prop:=
 aP (Value.cells a0) 25 h λt ah=>
 aP (Value.cells a1) 31 ah λu ai=>
 ae prog oC #[] ai λaj k=>
 vK (unV .not aj) λl=>
 vK (gV l false (some a6)) λak=>
 vK (gV l false (aq ak)) λal=>
 vK (gV l false (ag .i .gtr al (.int .i64 600))) λan=>
 vK (az l (.bool true) an) λao=>
 aA ao (
 ae prog oC #[] k λap ar=>
 R ap ar) (
 vK (aH 5 k t) λau=>
 vK (aH 9 k u) λav=>
 ae prog uB #[au,av,a2,a3,a4,a5] k λm aw=>
 vK (aF m 0) λv=>
 vK (aF m 1) λb=>
 vK (aF m 2) λax=>
 vK (aF m 3) λay=>
 aP aD 110 aw λw a7=>
 stK 20 w ax a7 λcj d=>
 vK (unV .not ay) λa8=>
 aA a8 (
 vK (aH 5 d t) λa9=>
 vK (aH 9 d u) λba=>
 ae prog zT #[a9,ba] d λbb bc=>
 vK (unV .not bb) λbd=>
 R bd bc) (
 vK (ag .p .eql b (.pointer none)) λbe=>
 aA be (
 R (.bool false) d) (
 ae prog pN #[v] d λbf bg=>
 aP #[(.int .i64 0),(.int .i64 0),(.int .i64 0),(.int .i64 0),(.slice none 0 0)] 115 bg λn bh=>
 stK 5 n bf bh λck bi=>
 ae prog fZ #[b] bi λx y=>
 vK (aF x 0) λcl=>
 vK (aF x 1) λbj=>
 aA bj (
 R (.bool false) y) (
 ae prog jq #[b] y λbk bl=>
 ae prog uA #[b,a6] bl λbm z=>
 vK (unV .not bm) λe=>
 vK (gV e false (some b)) λbn=>
 gK e false (λbo=>ae prog mA #[bn] z bo) z λbp aa=>
 vK (gV e false (some bk)) λbq=>
 vK (gV e false (ag .i .neq bp bq)) λbr=>
 vK (az e (.bool true) br) λf=>
 vK (gV f false (some b)) λbs=>
 gK f false (λbt=>ae prog fg #[bs] aa bt) aa λbu ab=>
 vK (gV f false (aq bu)) λbv=>
 vK (gV f false (ag .i .neq bv (.int .i64 0))) λbw=>
 vK (az f (.bool true) bw) λbx=>
 aA bx (
 R (.bool false) ab) (
 ae prog fZ #[b] ab λac c=>
 vK (aF ac 0) λad=>
 vK (aF ac 1) λo=>
 bD c λS=>
 vK (gV o true (some ad)) λbz=>
 vK (gV o true (ag .p .neq bz (.pointer none))) λb0=>
 vK (az o b0 (.bool false)) λa=>
 vK (gV a true (some ad)) λb1=>
 qK S (λc=>gV a true (aH 5 c n)) λb2=>
 vK (gV a true (am 0 w)) λb3=>
 qK S (λc=>gV a true (aH 5 c b3)) λb4=>
 gK a true (λb5=>ae prog pN #[b1] c b5) c λb6 q=>
 S q∧(gK a true (λb7=>ae prog uu #[b2,b4] q b7) q λb8 r=>
 bD r λS=>
 gK a true (λb9=>ae prog oE #[b6,b8] r b9) r λca g=>
 bD g λS=>
 vK (az a ca (.bool false)) λj=>
 vK (gV j true (some v)) λcb=>
 qK S (λg=>gV j true (aH 5 g n)) λcc=>
 gK j true (λcd=>ae prog pN #[cb] g cd) g λce s=>
 S s∧(gK j true (λcf=>ae prog oE #[ce,cc] s cf) s λcg ch=>
 vK (az j cg (.bool false)) λci=>
 R ci ch)))))))
theorem yW (H:oU a0 a1 a2 a3 a4 a5 a6 h R):ae prog ki #[a0,a1,a2,a3,a4,a5,a6] h R:=fk f4 (.s .z (.s (.s .z (.s (.s .z .z) .z)) (.s .z (.s (.s .z (.s (.s .z .z) .z)) (.s (.s .z (.s (.s .z .z) .z)) (.s .z (.s (.s .z (.s .z (.s (.s .z .z) .z))) (.s .z (.s (.s .z (.s (.s .z .z) .z)) (.s .z (.s (.d (.op 0 .r (.op 1 .r (.op 2 .r (.op 3 .r (.op 4 .r (.op 5 .r (.op 6 .r (.op 8 .r (.op 9 .r (.op 10 .r (.op 7 .e (.op 11 .f (.op 12 .f (.op 13 .r (.op 14 .r (.op 15 .r (.op 17 .r (.op 16 .e (.op 18 .n (.op 19 .r (.op 20 .r .nil)))))))))))))))))))))) .z))))))))))) H
def yj (h:af)(R:Value→af→Prop):Prop:=
 ae prog lZ #[] h λa s=>
 ae prog lz #[(.int .i64 1)] s λb t=>
 ae prog uE #[] t λu l=>
 vK (unV .not u) λj=>
 vK (gV j false (some a)) λv=>
 vK (gV j false (ag .p .eql v (.pointer none))) λw=>
 vK (az j (.bool true) w) λk=>
 vK (gV k false (some b)) λx=>
 vK (gV k false (ag .p .eql x (.pointer none))) λy=>
 vK (az k (.bool true) y) λc=>
 vK (gV c false (some a)) λz=>
 vK (gV c false (some b)) λaa=>
 gK c false (λab=>ae prog cg #[z,aa,.nilFunc] l ab) l λac m=>
 vK (gV c false ((aE #[(.int .i64 0),(.int .i64 0),(.int .i64 0),(.int .i64 0)] []).map .agg)) λad=>
 vK (gV c false (ag (.st [(0,1,.i),(1,1,.i),(2,2,(.st [(0,1,.i),(1,1,.i)]))]) .neq ac ad)) λah=>
 vK (az c (.bool true) ah) λf=>
 vK (gV f false (some a)) λai=>
 vK (gV f false (some b)) λaj=>
 gK f false (λak=>ae prog dt #[ai,aj] m ak) m λal n=>
 vK (az f (.bool true) al) λam=>
 aA am (
 R (.bool false) n) (
 ae prog gU #[b] n λa9 an=>
 ae prog dt #[a,b] an λd o=>
 vK (gV d true (some a)) λao=>
 vK (gV d true (some b)) λap=>
 gK d true (λaq=>ae prog cg #[ao,ap,.nilFunc] o aq) o λar q=>
 vK (gV d true ((aE #[(.int .i64 0),(.int .i64 0),(.int .i64 0),(.int .i64 0)] [(0,1,(.int .i64 3))]).map .agg)) λau=>
 vK (gV d true (ag (.st [(0,1,.i),(1,1,.i),(2,2,(.st [(0,1,.i),(1,1,.i)]))]) .eql ar au)) λav=>
 vK (az d av (.bool false)) λe=>
 vK (gV e true (some a)) λaw=>
 vK (gV e true (some b)) λax=>
 gK e true (λay=>ae prog cg #[aw,ax,.nilFunc] q ay) q λa0 r=>
 vK (gV e true ((aE #[(.int .i64 0),(.int .i64 0),(.int .i64 0),(.int .i64 0)] []).map .agg)) λa1=>
 vK (gV e true (ag (.st [(0,1,.i),(1,1,.i),(2,2,(.st [(0,1,.i),(1,1,.i)]))]) .eql a0 a1)) λa2=>
 vK (az e a2 (.bool false)) λg=>
 vK (gV g true (some a)) λa3=>
 gK g true (λa4=>ae prog ja #[a3] r a4) r λa5 a6=>
 vK (gV g true (ag .i .eql a5 (.int .i64 2))) λa7=>
 vK (az g a7 (.bool false)) λa8=>
 R a8 a6)
theorem Ix (H:yj h R):ae prog uC #[] h R:=fk f10 (.s .z (.s .z (.s (.s .z (.s (.s .z .z) .z)) (.s .z (.s .z .z))))) H
def mP (a0:Value)(h:af)(R:Value→af→Prop):Prop:=
 aP (Value.cells a0) 25 h λb a=>
 vK (am 0 b) λc=>
 vK (ldV a c) λd=>
 vK (ag .i .rem d (.int .u16 12)) λe=>
 vK (am 1 b) λf=>
 vK (ldV a f) λg=>
 vK (ag .i .rem g (.int .u16 12)) λj=>
 vK (am 2 b) λk=>
 vK (ldV a k) λl=>
 vK (am 3 b) λm=>
 vK (ldV a m) λn=>
 vK (am 4 b) λo=>
 vK (ldV a o) λp=>
 ae prog wV #[e,j,l,n,p] a λq r=>
 R q r
theorem xJ (H:mP a0 h R):ae prog dF #[a0] h R:=fk f11 (.s .z (.s .z .z)) H
def xm (a0 a1:Value)(h:af)(R:Value→af→Prop):Prop:=
 vK (ag .p .eql a1 (.pointer none)) λb=>
 vK (gV b false (some a0)) λl=>
 vK (gV b false (aq l)) λm=>
 vK (gV b false (ag .i .gtr m (.int .i64 4))) λn=>
 vK (az b (.bool true) n) λc=>
 vK (gV c false (some a0)) λo=>
 gK c false (λq=>ae prog sI #[o,(.int .i64 12)] h q) h λr e=>
 vK (gV c false (unV .not r)) λs=>
 vK (az c (.bool true) s) λt=>
 aA t (
 R (.tuple #[(.slice none 0 0),(.slice none 0 0),(.bool false)]) e) (
 ae prog bE #[a1] e λu v=>
 ae prog bG #[a1] v λw x=>
 ae prog aO #[a1] x λy z=>
 ae prog Ko #[a0,u,w,y] z λf aa=>
 vK (aF f 0) λg=>
 vK (aF f 1) λab=>
 ae prog wU #[a0] aa λac ad=>
 ae prog bE #[a1] ad λah ai=>
 ae prog bG #[a1] ai λaj ak=>
 ae prog aO #[a1] ak λal am=>
 ae prog zL #[ac,ah,aj,al] am λj an=>
 vK (aF j 0) λk=>
 vK (aF j 1) λao=>
 vK (ag .i .eql ab (.int .i64 0)) λd=>
 vK (gV d true (some ao)) λap=>
 vK (gV d true (ag .i .eql ap (.int .i64 0))) λar=>
 vK (az d ar (.bool false)) λa=>
 vK (gV a true (some g)) λau=>
 vK (gV a true (aq au)) λav=>
 vK (gV a true (some k)) λaw=>
 vK (gV a true (aq aw)) λax=>
 vK (gV a true (ag .i .eql av ax)) λay=>
 vK (az a ay (.bool false)) λa2=>
 R (.tuple #[g,k,a2]) an)
theorem GA (H:xm a0 a1 h R):ae prog gb #[a0,a1] h R:=fk f12 (.s .z (.s (.s .z (.s (.s .z .z) .z)) (.s .z (.s .z (.s .z .z))))) H
def Ba (a0 a1 a2 a3:Value)(h:af)(R:Value→af→Prop):Prop:=
 vK (ag .i .lss a3 (.int .i64 1)) λb=>
 vK (gV b false (some a3)) λf=>
 vK (gV b false (ag .i .gtr f (.int .i64 65535))) λg=>
 vK (az b (.bool true) g) λa=>
 vK (gV a false (some a2)) λj=>
 vK (gV a false (ag .i .neq j (.int .i64 1))) λk=>
 vK (gV a false (some k)) λc=>
 vK (gV c true (some a2)) λl=>
 vK (gV c true (ag .i .neq l (.int .i64 3))) λm=>
 vK (gV a false (az c m (.bool false))) λn=>
 vK (az a (.bool true) n) λo=>
 aA o (
 R (.tuple #[(.pointer none),(.int .i64 2)]) h) (
 ae prog ku #[a0,a1,a2] h λp d=>
 vK (unV .not p) λq=>
 aA q (
 R (.tuple #[(.pointer none),(.int .i64 5)]) d) (
 vK (ag .i .mul a0 a1) λr=>
 vK (ag .i .mul r a2) λe=>
 mkK (.int .u16 0) 22 1 2 e e d λs t=>
 vK ((aE #[(.int .i64 0),(.int .i64 0),(.int .i64 0),(.int .i64 0),(.slice none 0 0)] [(0,1,a0),(1,1,a1),(2,1,a2),(3,1,a3),(4,1,s)]).map .agg) λu=>
 aP (Value.cells u) 151 t λv w=>
 R (.tuple #[v,(.int .i64 0)]) w))
theorem KW (H:Ba a0 a1 a2 a3 h R):ae prog gA #[a0,a1,a2,a3] h R:=fk f13 (.s .z (.s (.s .z (.s (.s .z .z) (.s .z (.s (.s .z .z) .z)))) (.s .z .z))) H
def sZ (a0:Value)(h:af)(R:Value→af→Prop):Prop:=
 vK (aK a0) λa=>
 vK (am 1 a) λb=>
 vK (ldV h b) λc=>
 vK (aq c) λd=>
 R d h
theorem DC (H:sZ a0 h R):ae prog bF #[a0] h R:=fk f14 (.s .z (.s .z .z)) H
def kl (a0:Value)(h:af)(R:Value→af→Prop):Prop:=
 vK (aK a0) λa=>
 vK (am 2 a) λb=>
 vK (ldV h b) λc=>
 R c h
theorem uj (H:kl a0 h R):ae prog aO #[a0] h R:=fk f15 (.s .z (.s .z .z)) H
def oO (a0:Value)(h:af)(R:Value→af→Prop):Prop:=
 vK (aK a0) λa=>
 vK (am 3 a) λb=>
 vK (ldV h b) λc=>
 R c h
theorem yQ (H:oO a0 h R):ae prog co #[a0] h R:=fk f16 (.s .z (.s .z .z)) H
def FK (a0 a1 a2:Value)(h:af)(R:Value→af→Prop):Prop:=
 aP (Value.cells a0) 46 h λd a=>
 vK (am 0 d) λg=>
 vK (ldV a g) λi=>
 vK (ag .p .eql i (.pointer none)) λb=>
 vK (gV b false (am 1 d)) λj=>
 vK (gV b false (ldV a j)) λk=>
 vK (gV b false (ag .p .eql k (.pointer none))) λl=>
 vK (az b (.bool true) l) λm=>
 aA m (
 R (.tuple #[(.pointer none),(.int .i64 6)]) a) (
 ae prog tW #[a1] a λn f=>
 vK (unV .not n) λc=>
 vK (gV c false (some a2)) λo=>
 gK c false (λq=>ae prog tW #[o] f q) f λr e=>
 vK (gV c false (unV .not r)) λs=>
 vK (az c (.bool true) s) λt=>
 aA t (
 R (.tuple #[(.pointer none),(.int .i64 9)]) e) (
 vK (aH 3 e d) λu=>
 vK ((aE #[(.pointer none),(.pointer none),(.int .i64 0),(.int .i64 0),(.int .i64 0)] [(0,3,u),(3,1,a1),(4,1,a2)]).map .agg) λv=>
 aP (Value.cells v) 156 e λw x=>
 R (.tuple #[w,(.int .i64 0)]) x))
theorem OW (H:FK a0 a1 a2 h R):ae prog wR #[a0,a1,a2] h R:=fk f17 (.s .z (.s (.s .z (.s (.s .z .z) (.s .z (.s (.s .z .z) .z)))) (.s .z .z))) H
def C1 (a0 a1 a2:Value)(h:af)(R:Value→af→Prop):Prop:=
 aP (Value.cells a0) 56 h λc t=>
 aS [(.slice none 0 0),(.int .i64 0)] t λd cb j u=>
 vK (am 1 c) λv=>
 vK (ldV j v) λw=>
 vK (aq w) λx=>
 vK (ag .i .lss (ix d 1) x) λy=>
 aA y (
 aS [(ix d 0),(.int .i64 0)] j λa cc e z=>
 vK (am 0 c) λaa=>
 vK (ldV e aa) λab=>
 vK (aq ab) λac=>
 vK (ag .i .lss (ix a 1) ac) λad=>
 aA ad (
 vK (aq (ix a 0)) λah=>
 vK (am 1 c) λai=>
 vK (ldV e ai) λaj=>
 ae prog wF #[aj] e λak al=>
 vK ((aE #[(.int .i64 0),(.int .i64 0),(.int .i64 0),(.int .i64 0),(.int .i64 0),(.int .i64 0),(.int .i64 0),(.int .i64 0),(.int .i64 0),(.int .i64 0)] [(0,1,ah),(1,1,(ix a 1)),(2,1,(ix d 1)),(3,1,a1),(4,1,a2),(9,1,ak)]).map .agg) λan=>
 aP #[(.int .i64 0),(.int .i64 0),(.int .i64 0),(.int .i64 0),(.int .i64 0),(.int .i64 0),(.int .i64 0),(.int .i64 0),(.int .i64 0),(.int .i64 0)] 58 al λb ao=>
 stK 10 b an ao λcd f=>
 dE (λo=>
 vK (ag .i .add (ix a 1) a1) λap=>
 vK (am 0 c) λar=>
 vK (ldV f ar) λau=>
 vK (aq au) λav=>
 vK (ag .i .gtr ap av) λaw=>
 aA aw (
 vK (am 0 c) λax=>
 vK (ldV f ax) λay=>
 vK (aq ay) λaz=>
 vK (ag .i .sub az (ix a 1)) λa3=>
 vK (am 3 b) λa4=>
 stK 1 a4 a3 f λce a5=>
 o [] a5) (
 o [] f))
 λcf cg g=>
 dE (λp=>
 vK (ag .i .add (ix d 1) a2) λa6=>
 vK (am 1 c) λa7=>
 vK (ldV g a7) λa8=>
 vK (aq a8) λa9=>
 vK (ag .i .gtr a6 a9) λba=>
 aA ba (
 vK (am 1 c) λbb=>
 vK (ldV g bb) λbc=>
 vK (aq bc) λbd=>
 vK (ag .i .sub bd (ix d 1)) λbe=>
 vK (am 4 b) λbf=>
 stK 1 bf be g λch bg=>
 p [] bg) (
 p [] g))
 λci cj k=>
 vK (am 0 c) λbh=>
 vK (ldV k bh) λbi=>
 vK (am 3 b) λbj=>
 vK (ldV k bj) λbk=>
 vK (ag .i .add (ix a 1) bk) λbl=>
 ae prog oe #[bi,(ix a 1),bl] k λl m=>
 vK (aF l 0) λq=>
 vK (aF l 1) λbm=>
 vK (aF l 2) λck=>
 vK (am 1 c) λbn=>
 vK (ldV m bn) λbo=>
 vK (am 4 b) λbp=>
 vK (ldV m bp) λbq=>
 vK (ag .i .add (ix d 1) bq) λbr=>
 ae prog oe #[bo,(ix d 1),br] m λn bs=>
 vK (aF n 0) λr=>
 vK (aF n 1) λbt=>
 vK (aF n 2) λcl=>
 vK (am 5 b) λbu=>
 stK 1 bu q bs λcm bv=>
 vK (ag .i .sub bm q) λbw=>
 vK (am 7 b) λbx=>
 stK 1 bx bw bv λcn bz=>
 vK (am 6 b) λb0=>
 stK 1 b0 r bz λco b1=>
 vK (ag .i .sub bt r) λb2=>
 vK (am 8 b) λb3=>
 stK 1 b3 b2 b1 λcp s=>
 vK (aH 10 s b) λb4=>
 cF #[(.int .i64 0),(.int .i64 0),(.int .i64 0),(.int .i64 0),(.int .i64 0),(.int .i64 0),(.int .i64 0),(.int .i64 0),(.int .i64 0),(.int .i64 0)] 58 1 [(0,10,b4)] s λb5 b6=>
 cG (.agg #[.int .i64 0,.int .i64 0,.int .i64 0,.int .i64 0,.int .i64 0,.int .i64 0,.int .i64 0,.int .i64 0,.int .i64 0,.int .i64 0]) 58 10 80 (ix a 0) b5 b6 λb7 b8=>
 vK (ag .i .add (ix a 1) a1) λb9=>
 z [b7,b9] b8) (
 vK (ag .i .add (ix d 1) a2) λca=>
 u [(ix a 0),ca] e)) (
 R (ix d 0) j)
theorem MV (H:C1 a0 a1 a2 h R):ae prog jH #[a0,a1,a2] h R:=fk f18 (.s .z (.s .z (.s (.s .z (.l 649037107316853453566312041152384 [7,8] (.s (.s .z (.s .z .z)) (.s (.s .z (.l 649037107316853453566312007728768 [7,9] (.s (.s .z (.s .z .z)) (.s (.s .z (.j 72048797944905728 [] (.s .z (.s .z .z)) (.j 590223752764667723776 [] (.s .z (.s .z .z)) (.s .z (.s .z (.s .z (.s .z (.s .z (.s .z .z))))))))) .z)))) .z)))) (.s .z .z)))) H
def xQ (a0 a1 a2:Value)(h:af)(R:Value→af→Prop):Prop:=
 aP (Value.cells a0) 56 h λo p=>
 vK (am 1 o) λw=>
 vK (ldV p w) λq=>
 vK (aq q) λx=>
 aS [(.int .i64 0),(.int .i64 0)] p λb bt f r=>
 vK (ag .i .lss (ix b 1) x) λy=>
 aA y (
 vK (aR 2 q (ix b 1)) λz=>
 vK (aH 2 f z) λaa=>
 aP #[(.int .i64 0),(.slice none 0 0)] 161 f λg ab=>
 stK 2 g aa ab λbu d=>
 vK (am 1 g) λac=>
 vK (ldV d ac) λad=>
 vK (aq ad) λah=>
 vK (ag .i .gtr ah (ix b 0)) λai=>
 aA ai (
 vK (am 1 g) λaj=>
 vK (ldV d aj) λak=>
 vK (aq ak) λal=>
 vK (ag .i .add (ix b 1) (.int .i64 1)) λan=>
 r [al,an] d) (
 vK (ag .i .add (ix b 1) (.int .i64 1)) λao=>
 r [(ix b 0),ao] d)) (
 aS [(.slice none 0 0),(.slice none 0 0),(.int .i64 0)] f λc bv e ap=>
 vK (ag .i .lss (ix c 2) a2) λar=>
 aA ar (
 vK (am 1 o) λau=>
 vK (ldV e au) λav=>
 vK (ag .i .add a1 (ix c 2)) λaw=>
 vK (aR 2 av aw) λax=>
 vK (aH 2 e ax) λay=>
 aP #[(.int .i64 0),(.slice none 0 0)] 161 e λj az=>
 stK 2 j ay az λbw s=>
 vK (am 1 j) λa3=>
 vK (ldV s a3) λa4=>
 vK (aq a4) λa5=>
 aS [(ix c 0),(ix c 1),(.int .i64 0)] s λa bx k l=>
 vK (ag .i .lss (ix a 2) a5) λa6=>
 aA a6 (
 vK (am 0 j) λa7=>
 vK (ldV k a7) λa8=>
 vK (ag .i .add a8 (ix a 2)) λm=>
 ae prog CD #[(ix a 1),m] k λa9 t=>
 aA a9 (
 vK (ag .i .add (ix a 2) (.int .i64 1)) λba=>
 l [(ix a 0),(ix a 1),ba] t) (
 vK ((aE #[(.int .i64 0),(.int .i64 0)] [(0,1,(.int .i64 1)),(1,1,m)]).map .agg) λbb=>
 cF #[(.int .i64 0),(.int .i64 0)] 88 1 [(0,2,bb)] t λbc bd=>
 cG (.agg #[.int .i64 0,.int .i64 0]) 88 2 16 (ix a 0) bc bd λu be=>
 cF #[(.int .i64 0)] 2 1 [(0,1,m)] be λbf bg=>
 cG (.int .i64 0) 2 1 8 (ix a 1) bf bg λn v=>
 vK (aq n) λbh=>
 vK (ag .i .gtr bh (ix b 0)) λbi=>
 aA bi (
 vK (ue 1 n (some (.int .i64 1)) none) λbj=>
 vK (ag .i .add (ix a 2) (.int .i64 1)) λbk=>
 l [u,bj,bk] v) (
 vK (ag .i .add (ix a 2) (.int .i64 1)) λbl=>
 l [u,n,bl] v))) (
 vK (ag .i .add a1 (ix c 2)) λbm=>
 vK ((aE #[(.int .i64 0),(.int .i64 0)] [(0,1,(.int .i64 2)),(1,1,bm)]).map .agg) λbn=>
 cF #[(.int .i64 0),(.int .i64 0)] 88 1 [(0,2,bn)] k λbo bp=>
 cG (.agg #[.int .i64 0,.int .i64 0]) 88 2 16 (ix a 0) bo bp λbq br=>
 vK (ag .i .add (ix c 2) (.int .i64 1)) λbs=>
 ap [bq,(ix a 1),bs] br)) (
 R (ix c 0) e))
theorem Ic (H:xQ a0 a1 a2 h R):ae prog ur #[a0,a1,a2] h R:=fk f19 (.s .z (.s .z (.s (.s .z (.l 4294443648 [7,19] (.s .z (.s (.s .z .z) (.s (.s .z (.s .z (.s .z .z))) .z))))) (.s .z (.s .z (.s (.s .z (.l 1208925819614620584836096 [10,11,33] (.s .z (.s (.s .z .z) (.s (.s .z (.s .z (.s (.s .z (.l 4722366412500901088256 [10,11,46] (.s .z (.s (.s .z .z) (.s (.s .z (.s .z (.s (.s .z (.s .z .z)) (.s .z (.s .z (.s .z (.s .z .z))))))) .z))))) .z))) .z))))) (.s .z .z))))))) H
def tF (a0 a1:Value)(h:af)(R:Value→af→Prop):Prop:=
 aP #[(.int .i64 0),(.int .i64 0),(.int .i64 0),(.int .i64 0),(.int .i64 0),(.int .i64 0),(.int .i64 0),(.int .i64 0),(.int .i64 0),(.int .i64 0)] 65 h λf l=>
 vK (ag .i .lss a1 (.int .i64 0)) λe=>
 vK (gV e false (some a1)) λai=>
 vK (gV e false (some a0)) λaj=>
 gK e false (λak=>ae prog dk #[aj] l ak) l λal d=>
 vK (gV e false (ag .i .geq ai al)) λan=>
 vK (az e (.bool true) an) λao=>
 aA ao (
 vK ((aE #[(.int .i64 0),(.int .i64 0),(.int .i64 0),(.int .i64 0),(.int .i64 0),(.int .i64 0),(.int .i64 0),(.int .i64 0),(.int .i64 0),(.int .i64 0)] []).map .agg) λap=>
 stK 10 f ap d λcd m=>
 vK (aH 10 m f) λaq=>
 R (.tuple #[aq,(.bool false)]) m) (
 dE (λg=>
 bD d λS=>
 vK (aK a0) λar=>
 vK (am 0 ar) λau=>
 vK (am 1 au) λav=>
 qK S (λd=>ldV d av) λj=>
 (ae prog kL #[a0,a1] d λn k=>
 S k∧((ae prog eF #[j] k λaw o=>
 S o∧(vK ((aE #[(.int .i64 0),(.int .i64 0),(.int .i64 0),(.int .i64 0),(.int .i64 0),(.int .i64 0),(.int .i64 0),(.int .i64 0),(.int .i64 0),(.int .i64 0)] [(0,1,a1),(1,4,n),(9,1,aw)]).map .agg) λax=>
 aP #[(.int .i64 0),(.int .i64 0),(.int .i64 0),(.int .i64 0),(.int .i64 0),(.int .i64 0),(.int .i64 0),(.int .i64 0),(.int .i64 0),(.int .i64 0)] 65 o λp q=>
 S q∧(stK 10 p ax q λce r=>
 S r∧(g [p] r))))∧(aP #[(.int .i64 0),(.int .i64 0),(.int .i64 0),(.int .i64 0),(.int .i64 0),(.int .i64 0),(.int .i64 0),(.int .i64 0),(.int .i64 0),(.int .i64 0)] 65 k λs t=>
 S t∧(ae prog eF #[j] t λay u=>
 S u∧(vK ((aE #[(.int .i64 0),(.int .i64 0),(.int .i64 0),(.int .i64 0),(.int .i64 0),(.int .i64 0),(.int .i64 0),(.int .i64 0),(.int .i64 0),(.int .i64 0)] [(0,1,a1),(1,4,n),(9,1,ay)]).map .agg) λa2=>
 stK 10 s a2 u λcf v=>
 S v∧(g [s] v))))))∧(aP #[(.int .i64 0),(.int .i64 0),(.int .i64 0),(.int .i64 0),(.int .i64 0),(.int .i64 0),(.int .i64 0),(.int .i64 0),(.int .i64 0),(.int .i64 0)] 65 d λw x=>
 S x∧(ae prog kL #[a0,a1] x λa3 y=>
 S y∧(ae prog eF #[j] y λa4 z=>
 S z∧(vK ((aE #[(.int .i64 0),(.int .i64 0),(.int .i64 0),(.int .i64 0),(.int .i64 0),(.int .i64 0),(.int .i64 0),(.int .i64 0),(.int .i64 0),(.int .i64 0)] [(0,1,a1),(1,4,a3),(9,1,a4)]).map .agg) λa5=>
 stK 10 w a5 z λcg aa=>
 S aa∧(g [w] aa))))))
 λa ch b=>
 bD b λS=>
 vK (aK a0) λa6=>
 vK (am 0 a6) λa7=>
 vK (am 0 a7) λa8=>
 qK S (λb=>ldV b a8) λa9=>
 vK (am 1 (ix a 0)) λba=>
 vK (am 0 ba) λbb=>
 qK S (λb=>ldV b bb) λbc=>
 vK (am 1 (ix a 0)) λbd=>
 vK (am 0 bd) λbe=>
 qK S (λb=>ldV b be) λbf=>
 vK (am 1 (ix a 0)) λbg=>
 vK (am 2 bg) λbh=>
 qK S (λb=>ldV b bh) λbi=>
 vK (ag .i .add bf bi) λbj=>
 ae prog fF #[a9,bc,bj] b λab bk=>
 vK (aF ab 0) λbl=>
 vK (aF ab 1) λbm=>
 vK (am 5 (ix a 0)) λbn=>
 stK 1 bn bl bk λci bo=>
 vK (am 7 (ix a 0)) λbp=>
 stK 1 bp bm bo λcj c=>
 bD c λS=>
 vK (aK a0) λbq=>
 vK (am 0 bq) λbr=>
 vK (am 1 br) λbs=>
 qK S (λc=>ldV c bs) λbt=>
 vK (am 1 (ix a 0)) λbu=>
 vK (am 1 bu) λbv=>
 qK S (λc=>ldV c bv) λbw=>
 vK (am 1 (ix a 0)) λbx=>
 vK (am 1 bx) λbz=>
 qK S (λc=>ldV c bz) λb0=>
 vK (am 1 (ix a 0)) λb1=>
 vK (am 3 b1) λb2=>
 qK S (λc=>ldV c b2) λb3=>
 vK (ag .i .add b0 b3) λb4=>
 ae prog fF #[bt,bw,b4] c λac b5=>
 vK (aF ac 0) λb6=>
 vK (aF ac 1) λb7=>
 vK (am 6 (ix a 0)) λb8=>
 stK 1 b8 b6 b5 λck b9=>
 vK (am 8 (ix a 0)) λca=>
 stK 1 ca b7 b9 λcl ad=>
 vK (aH 10 ad (ix a 0)) λcb=>
 stK 10 f cb ad λcm ah=>
 vK (aH 10 ah f) λcc=>
 R (.tuple #[cc,(.bool true)]) ah)
theorem DP (H:tF a0 a1 h R):ae prog eM #[a0,a1] h R:=fk f21 (.s .z (.s (.s .z (.s (.s .z .z) .z)) (.j 134152256 [6] (.d (.op 0 .r (.op 1 .r (.op 2 .r (.op 4 .r (.op 5 .r (.op 6 .r (.op 7 .r (.op 8 .r (.alt (.op 3 .e (.alt (.op 9 .e (.op 10 .r (.op 11 .e (.op 12 .e .nil)))) (.op 11 .e (.op 9 .e (.op 10 .r (.op 12 .e .nil)))))) (.op 11 .e (.op 3 .e (.op 9 .e (.op 10 .r (.op 12 .e .nil))))))))))))))) (.s (.d (.op 0 .r (.op 1 .r (.op 2 .r (.op 3 .r (.op 4 .r (.op 5 .r (.op 6 .r (.op 7 .r (.op 8 .r (.op 9 .r (.op 10 .r (.op 11 .r (.op 12 .r (.op 13 .r (.op 14 .r (.op 15 .n (.op 16 .r (.op 17 .r (.op 18 .r (.op 19 .r (.op 20 .n (.op 21 .r (.op 22 .n .nil)))))))))))))))))))))))) (.s (.d (.op 0 .r (.op 1 .r (.op 2 .r (.op 3 .r (.op 4 .r (.op 5 .r (.op 6 .r (.op 7 .r (.op 8 .r (.op 9 .r (.op 10 .r (.op 11 .r (.op 12 .r (.op 13 .r (.op 14 .r (.op 15 .n (.op 16 .r (.op 17 .r (.op 18 .r (.op 19 .r (.op 20 .n (.op 21 .r (.op 22 .n .nil)))))))))))))))))))))))) (.s .z .z)))))) H
def AH (a0 a1 a2 a3:Value)(h:af)(R:Value→af→Prop):Prop:=
 aP (Value.cells a2) 46 h λb k=>
 aP (Value.cells a3) 65 k λc e=>
 vK (aH 3 e b) λl=>
 ae prog sw #[a0,a1,l] e λm d=>
 vK (unV .not m) λn=>
 aA n (
 R (.tuple #[(.pointer none),(.int .i64 6)]) d) (
 vK (aH 3 d b) λo=>
 vK (am 1 c) λp=>
 vK (aH 4 d p) λq=>
 ae prog kH #[o,q] d λr a=>
 vK (unV .not r) λs=>
 aA s (
 R (.tuple #[(.pointer none),(.int .i64 9)]) a) (
 bD a λS=>
 qK S (λa=>aH 3 a b) λt=>
 qK S (λa=>aH 10 a c) λu=>
 vK (am 1 b) λv=>
 qK S (λa=>ldV a v) λw=>
 vK (am 1 c) λx=>
 vK (am 2 x) λy=>
 qK S (λa=>ldV a y) λz=>
 vK (am 1 c) λaa=>
 vK (am 1 aa) λab=>
 qK S (λa=>ldV a ab) λac=>
 ae prog eF #[w] a λad f=>
 S f∧(ae prog aO #[a0] f λah g=>
 S g∧(vK (ag .i .mul z ah) λai=>
 ae prog CB #[ad,ai] g λaj j=>
 S j∧(vK ((aE Ar [(0,1,a0),(1,1,a1),(2,3,t),(5,10,u),(15,1,aj),(16,1,ac)]).map .agg) λak=>
 aP (Value.cells ak) 171 j λal an=>
 R (.tuple #[al,(.int .i64 0)]) an)))))
theorem Kw (H:AH a0 a1 a2 a3 h R):ae prog l8 #[a0,a1,a2,a3] h R:=fk f22 (.s .z (.s (.s .z (.s (.s .z .z) (.s .z (.s (.s .z .z) .z)))) (.s (.d (.op 0 .r (.op 1 .r (.op 2 .r (.op 3 .r (.op 4 .r (.op 5 .r (.op 7 .r (.op 8 .r (.op 9 .r (.op 10 .r (.op 14 .r (.op 15 .r (.op 16 .r (.op 6 .e (.op 11 .e (.op 12 .r (.op 13 .e (.op 17 .r (.op 18 .n (.op 19 .r (.op 20 .r .nil)))))))))))))))))))))) .z))) H
def Dd (a0:Value)(h:af)(R:Value→af→Prop):Prop:=
 vK (iG (.int .i64 1) a0) λa=>
 vK (pA a (.int .i64 4096)) λb=>
 vK ((aE #[(.int .i64 0),(.slice none 0 0),(.bool false)] [(0,1,b)]).map .agg) λc=>
 aP (Value.cells c) 173 h λd e=>
 R d e
theorem M9 (H:Dd a0 h R):ae prog lz #[a0] h R:=fk f23 (.s .z (.s .z .z)) H
def CY (a0:Value)(h:af)(R:Value→af→Prop):Prop:=
 aP #[(.int .i64 0),(.slice none 0 0),(.bool false)] 75 h λa b=>
 vK (ag .i .lss a0 (.int .i64 1)) λg=>
 aA g (
 vK (ag .i .gtr (.int .i64 1) (.int .i64 4096)) λj=>
 aA j (
 vK ((aE #[(.int .i64 0),(.slice none 0 0),(.bool false)] [(0,1,(.int .i64 4096))]).map .agg) λk=>
 stK 3 a k b λt c=>
 vK (aH 3 c a) λl=>
 R l c) (
 vK ((aE #[(.int .i64 0),(.slice none 0 0),(.bool false)] [(0,1,(.int .i64 1))]).map .agg) λm=>
 stK 3 a m b λu d=>
 vK (aH 3 d a) λn=>
 R n d)) (
 vK (ag .i .gtr a0 (.int .i64 4096)) λo=>
 aA o (
 vK ((aE #[(.int .i64 0),(.slice none 0 0),(.bool false)] [(0,1,(.int .i64 4096))]).map .agg) λp=>
 stK 3 a p b λv e=>
 vK (aH 3 e a) λq=>
 R q e) (
 vK ((aE #[(.int .i64 0),(.slice none 0 0),(.bool false)] [(0,1,a0)]).map .agg) λr=>
 stK 3 a r b λw f=>
 vK (aH 3 f a) λs=>
 R s f))
theorem MT (H:CY a0 h R):ae prog jG #[a0] h R:=fk f24 (.s .z (.s (.s .z (.s .z .z)) (.s (.s .z (.s .z .z)) (.s .z .z)))) H
def AG (h:af)(R:Value→af→Prop):Prop:=
 vK ((aE #[(.int .i64 0),(.slice none 0 0),(.pointer none),(.int .i64 0)] []).map .agg) λa=>
 aP (Value.cells a) 175 h λb c=>
 R b c
theorem Kv (H:AG h R):ae prog lZ #[] h R:=fk f25 (.s .z (.s .z .z)) H
def qu (a0 a1:Value)(h:af)(R:Value→af→Prop):Prop:=
 vK (aK a0) λb=>
 vK (am 2 b) λc=>
 vK (ldV h c) λd=>
 aA d (
 R (.int .i64 2) h) (
 ae prog gh #[a0] h λe a=>
 vK (unV .not e) λf=>
 aA f (
 R (.int .i64 1) a) (
 vK (aK a0) λg=>
 vK (am 1 g) λi=>
 vK (ldV a i) λj=>
 cF #[(.int .i64 0)] 3 1 [(0,1,a1)] a λk l=>
 cG (.int .i64 0) 3 1 8 j k l λm n=>
 vK (aK a0) λo=>
 vK (am 1 o) λp=>
 stK 1 p m n λr q=>
 R (.int .i64 0) q))
theorem Ay (H:qu a0 a1 h R):ae prog kV #[a0,a1] h R:=fk f27 (.s .z (.s (.s .z (.s (.s .z .z) (.s .z (.s (.s .z .z) .z)))) (.s .z (.s .z .z)))) H
def oQ (a0:Value)(h:af)(R:Value→af→Prop):Prop:=
 vK (aK a0) λa=>
 vK (am 2 a) λb=>
 vK (ldV h b) λc=>
 vK (aK a0) λd=>
 vK (am 2 d) λe=>
 stK 1 e (.bool true) h λi f=>
 vK (unV .not c) λg=>
 R g f
theorem yS (H:oQ a0 h R):ae prog gU #[a0] h R:=fk f28 (.s .z (.s .z (.s .z (.s .z .z)))) H
end
end Go.Proofs.YtcoimlclclnlkaaGreatDoor
