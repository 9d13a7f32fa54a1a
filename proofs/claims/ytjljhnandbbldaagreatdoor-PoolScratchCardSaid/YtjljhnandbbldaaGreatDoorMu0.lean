/- Several texts of this session, one behind the other, without what this claim does not need (put together by its program pack.py). Conditions: none. -/
import Derived.Orders
import Derived.OrdersHeld
import Derived.Deep.Quiet
import Derived.Calls
import Derived.Laws.Sem
import Derived.Laws.World
import Derived.Laws.StructEq
import Derived.LaidEql
import Derived.Tactics
import Derived.KernelRfl
import Derived.Laws.Append
import Derived.WalkKit
import Derived.ProofKit
import Derived.OpenShut
import Derived.ShutString
import Derived.ChangeOld
import Derived.Below
import Derived.Carry
import Derived.SizedLaws
import Derived.Test.YtjljhnandbbldaaGreatDoorProg
set_option linter.unusedVariables false
set_option linter.unusedSimpArgs false
set_option maxRecDepth 100000
namespace Go.Crisp
open Go
section
abbrev af:=Array Obj
abbrev Env:=Nat→Value
abbrev ll:=af→(Value→af→Prop)→Prop
def cV (w w':World):Prop:=w'.os=w.os∧w'.tape=w.tape∧w'.output=w.output
theorem cV.refl (w:World):cV w w:=⟨rfl,rfl,rfl⟩
theorem cV.trans {a b c:World}(h:cV a b)(k:cV b c):cV a c:=⟨k.1.trans h.1,k.2.1.trans h.2.1,k.2.2.trans h.2.2⟩
def ev (ρ:Env):Operand→Value
 | .tmp t=>ρ t
 | .const v=>v
 | .global g=>.pointer (some ⟨g,0,none⟩)
 | .func f=>.func (.func f) #[] #[]
def up (ρ:Env)(d:Option Tmp)(v:Value):Env:=
 match d with
 |some d=>λt=>match Nat.beq t d with
  |true=>v
  |false=>ρ t
 |none=>ρ
def aB (h:af)(a:Addr):Option Value:=
 match h[a.block]? with
 |some (.cells c _ _)=>if a.spot.isSome then none else c[a.off]?
 |_=>none
def sA (h:af)(a:Addr):Bool:=
 match h[a.block]? with
 |some (.cells _ _ (lo,hi))=>lo≤a.off&&a.off<hi
 |_=>false
def GZ (h:af)(a:Addr)(v:Value):af:=
 h.modify a.block λ
  | .cells c elem frozen=>.cells (if a.spot.isSome then c else c.setIfInBounds a.off v) elem frozen
  |o=>o
def dx (h:af)(a:Addr):Nat→Nat→Option (List Value)
 |_,0=>some []
 | i,n+1=>match aB h (a.add i)with
  |some v=>match dx h a (i+1) n with
   |some l=>some (v::l)
   |none=>none
  |none=>none
def aJ:Value→Bool
 | .agg _| .tuple _=>false
 |_=>true
def iO (h:af)(a:Addr):Nat→List Value→Option af
 |_,[]=>some h
 |i,v::l=>
  match aB h (a.add i)with
  |some _=>bif aJ v&& !sA h (a.add i)then iO (GZ h (a.add i) v) a (i+1) l else none
  |none=>none
inductive SE where
 |b|i
 |st (fs:List (Nat×Nat×SE))
inductive EK where
 |b|i|s|p|sl|m|f|o
 |st (fs:List (Nat×Nat×SE))
def VH (f:TypeId→Option SE) (sz:TypeId→Option Nat):List Field→Option (List (Nat×Nat×SE))
 | []=>some []
 | fd::fs=>match f fd.type with
  |none=>none
  | some e=>match sz fd.type with
   |none=>none
   |some n=>match VH f sz fs with
    |none=>none
    |some l=>some ((fd.offset,n,e)::l)
def Uz (P:Program)(fs:Array Field)(t:TypeId):Bool:= !P.stoodInHeld t&&(!P.eqGuardType P.depth t&&fs.toList.all λf=>f.name != "_")
def Me (P:Program):Nat→TypeId→Option SE
 |0,_=>none
 | d+1,t=>match P.underlying t with
  |some .bool=>some .b
  |some (.int _)=>some .i
  | some (.struct fs)=>match Uz P fs t with
   |true=>match VH (Me P d) (λt=>(P.info? t).map (·.size)) fs.toList with
    |some l=>some (.st l)
    |none=>none
   |false=>none
  |_=>none
def Jm (P:Program)(t:TypeId):EK:=
 match P.underlying t with
 |some .bool=>.b
 |some (.int _)=>.i
 |some .string=>.s
 |some (.pointer _)=>.p
 |some (.slice _)=>.sl
 |some (.map _ _)=>.m
 |some (.func _ _ _)=>.f
 |some (.struct _)=>match Me P 4 t with
  |some (.st l)=>.st l
  |_=>.o
 |_=>.o
def G6:SE→Bool
 | .st _=>true
 |_=>false
mutual
def G0:SE→Value→Value→Option Bool
 | .b,.bool a,.bool b=>some (a==b)
 | .i,.int k a,.int k' b=>if k=k' then some (a==b)else none
 | .st fs,.agg xs,.agg ys=>Df fs xs ys
 |_,_,_=>none
def Df:List (Nat×Nat×SE)→Array Value→Array Value→Option Bool
 | [],_,_=>some true
 | (o,n,e)::fs,xs,ys=>
  match(bif G6 e then some (.agg (xs.extract o (o+n)))else xs[o]?),(bif G6 e then some (.agg (ys.extract o (o+n)))else ys[o]?)with
  |some a,some b=>match G0 e a b with
   |some true=>Df fs xs ys
   |some false=>some false
   |none=>none
  |_,_=>none
end
def eqV (e:EK)(x y:Value):Option Bool:=
 match e,x,y with
 | .b,.bool a,.bool b=>some (a==b)
 | .p,.pointer none,.pointer b=>some b.isNone
 | .p,.pointer (some _),.pointer none=>some false
 | .sl,.slice none _ _,.slice b _ _=>some b.isNone
 | .sl,.slice (some _) _ _,.slice none _ _=>some false
 | .m,.map none,.map b=>some b.isNone
 | .m,.map (some _),.map none=>some false
 | .f,.nilFunc,.nilFunc=>some true
 | .f,.nilFunc,.func _ _ _=>some false
 | .f,.func _ _ _,.nilFunc=>some false
 | .st fs,.agg xs,.agg ys=>Df fs xs ys
 |_,_,_=>none
def RH (P:Program):Bool:=true
class jz (P:Program):Prop where
 ok:RH P=true
def DS (op:BinOp)(k:IntKind)(a b:Int):Option Value:=
 match op with
 | .add=>some (.int k (k.wrap (a+b)))
 | .sub=>some (.int k (k.wrap (a-b)))
 | .mul=>some (.int k (k.wrap (a*b)))
 | .quo=>if b=0 then none else some (.int k (k.wrap (a.tdiv b)))
 | .rem=>if b=0 then none else some (.int k (a.tmod b))
 | .and=>some (.int k (k.wrap (BitVec.ofInt k.bits a&&& BitVec.ofInt k.bits b).toNat))
 | .or=>some (.int k (k.wrap (BitVec.ofInt k.bits a|||BitVec.ofInt k.bits b).toNat))
 | .xor=>some (.int k (k.wrap (BitVec.ofInt k.bits a^^^BitVec.ofInt k.bits b).toNat))
 | .andNot=>some (.int k (k.wrap (BitVec.ofInt k.bits a&&& ~~~ BitVec.ofInt k.bits b).toNat))
 | .eql=>some (.bool (a==b))
 | .neq=>some (.bool (a != b))
 | .lss=>some (.bool (a<b))
 | .leq=>some (.bool (a≤b))
 | .gtr=>some (.bool (b<a))
 | .geq=>some (.bool (b≤a))
 |_=>none
def strV (op:BinOp)(x y:ByteArray):Option Value:=
 match op with
 | .add=>if((x.size+y.size:Nat):Int)>IntKind.i64.max then none else some (.string (x++y))
 | .eql=>some (.bool (x.toList==y.toList))
 | .neq=>some (.bool !(x.toList==y.toList))
 |_=>none
def ag (e:EK)(op:BinOp)(x y:Value):Option Value:=
 match x,y with
 | .int k a,.int k' b=>
  match op with
  | .shl=>if b<0 then none else some (.int k (k.wrap (a*2^(min b.toNat k.bits))))
  | .shr=>if b<0 then none else some (.int k (a.fdiv (2^(min b.toNat k.bits))))
  |op=>if k=k' then DS op k a b else none
 | .string a,.string b=>strV op a b
 |x,y=>
  match op with
  | .eql=>(eqV e x y).map .bool
  | .neq=>(eqV e x y).map λb=>.bool !b
  |_=>none
def unV (op:UnOp)(x:Value):Option Value:=
 match op,x with
 | .neg,.int k n=>some (.int k (k.wrap (0-n)))
 | .xor,.int k n=>some (.int k (k.wrap (BitVec.ofInt k.bits (if k.signed then-1 else k.max)^^^BitVec.ofInt k.bits n).toNat))
 | .not,.bool b=>some (.bool !b)
 |_,_=>none
def az (c x y:Value):Option Value:=
 match c with
 | .bool b=>some (bif b then x else y)
 |_=>none
def aK:Value→Option Value
 | .pointer none| .nilIface| .nilFunc=>none
 | .func (.method _) _ _=>none
 |x=>some x
def ldV (h:af)(x:Value):Option Value:=
 match x with
 | .pointer (some a)=>aB h a
 |_=>none
def Ou:Operand→Bool
 | .const (.pointer none)=>true
 |_=>false
def lQ (h:af)(b:Nat):Bool:=match h[b]? with
 |some (.cells _ _ (0,0))=>true
 |_=>false
def peV (h:af)(op:BinOp)(x y:Value):Option Value:=
 match x,y with
 | .pointer (some a),.pointer (some b)=>match op with
  | .eql=>if a=b then some (.bool true)else if lQ h a.block&&lQ h b.block then some (.bool false)else none
  | .neq=>if a=b then some (.bool false)else if lQ h a.block&&lQ h b.block then some (.bool true)else none
  |_=>none
 |x,y=>ag .p op x y
def aH (n:Nat)(h:af)(x:Value):Option Value:=
 match x with
 | .pointer (some a)=>(dx h a 0 n).map λl=>.agg l.toArray
 |_=>none
def am (off:Nat)(x:Value):Option Value:=
 match x with
 | .pointer (some a)=>some (.pointer (some (a.add off)))
 |_=>none
def mZ (agg:Bool)(size off:Nat)(x:Value):Option Value:=
 match x with
 | .agg cs=>bif agg then some (.agg (cs.extract off (off+size)))else cs[off]?
 |_=>none
def aR (size:Nat)(x i:Value):Option Value:=
 match x,i with
 | .slice (some a) len _,.int _ i=>if 0≤i∧i<(len:Int)then some (.pointer (some (a.add (i.toNat*size))))else none
 |_,_=>none
def Ja (len size:Nat)(x i:Value):Option Value:=
 match x,i with
 | .pointer (some a),.int _ i=>if 0≤i∧i<(len:Int)then some (.pointer (some (a.add (i.toNat*size))))else none
 |_,_=>none
def XQ (x i:Value):Option Value:=
 match x,i with
 | .string s,.int _ i=>(if 0≤i then s[i.toNat]? else none).map λb=>.int .u8 b.toNat
 |_,_=>none
def aE (x:Value)(i:Nat):Option Value:=
 match x with
 | .tuple vs=>vs[i]?
 |_=>none
def eS (k:IntKind)(x:Value):Option Value:=
 match x with
 | .int _ n=>some (.int k (k.wrap n))
 |_=>none
def Xu (x:Value):Option Value:=
 match x with
 | .int _ n=>some (.string (Utf8.encode n))
 |_=>none
def aq (x:Value):Option Value:=
 match x with
 | .slice _ n _=>some (.int .i64 n)
 |_=>none
def EL (x:Value):Option Value:=
 match x with
 | .string s=>some (.int .i64 s.size)
 |_=>none
def Lq (h:af)(x:Value):Option Value:=
 match x with
 | .map none=>some (.int .i64 0)
 | .map (some r)=>match h[r]? with
  |some (.map es _)=>some (.int .i64 es.size)
  |_=>none
 |_=>none
def ia (x y:Value):Option Value:=
 match x,y with
 | .int k a,.int _ b=>some (.int k (if b>a then b else a))
 |_,_=>none
def pF (x y:Value):Option Value:=
 match x,y with
 | .int k a,.int _ b=>some (.int k (if b<a then b else a))
 |_,_=>none
def Xr (x y z:Value):Option Value:=
 match ia x y with
 |some a=>ia a z
 |none=>none
def Xq (x y z:Value):Option Value:=
 match pF x y with
 |some a=>pF a z
 |none=>none
def bdV (x:Option Value)(d:Nat)(most:Nat):Option Nat:=
 match x with
 |none=>some d
 |some (.int _ i)=>if 0≤i∧i≤(most:Int)then some i.toNat else none
 |some _=>none
def un (size:Nat)(x:Value)(lo hi:Option Value):Option Value:=
 match x with
 | .slice a len cap=>match bdV hi len cap with
  |some h=>match bdV lo 0 h with
   |some l=>some (.slice (if cap=l then a else a.map (·.add (l*size))) (h-l) (cap-l))
   |none=>none
  |none=>none
 |_=>none
def XD (x:Value)(lo hi:Option Value):Option Value:=
 match x with
 | .string s=>match bdV hi s.size s.size with
  |some h=>match bdV lo 0 h with
   |some l=>some (.string (s.extract l h))
   |none=>none
  |none=>none
 |_=>none
def vK (r:Option Value)(K:Value→Prop):Prop:=
 match r with
 |some v=>K v
 |none=>False
def w8 (P:Program)(t:TypeId):Option Bool:=
 (P.underlying t).map λ
  | .struct _| .array _ _=>true
  |_=>false
def dH (P:Program)(t:TypeId):Option Nat:=(P.info? t).map (·.size)
def um (P:Program)(t:TypeId):Option Value:=(P.info? t).bind (·.zero)
def jO (P:Program)(t:TypeId):Option TypeDesc:=
 match P.underlying t with
 |some (.int k)=>some (.int k)
 |some .bool=>some .bool
 |some .string=>some .string
 |_=>none
def Oz (h:af)(m:Value):Option (Array MapEntry×Nat):=
 match m with
 | .map (some r)=>match h[r]? with
  |some (.map es c)=>some (es,c)
  |_=>none
 |_=>none
def FE (kd:TypeDesc)(zero:Value)(ok:Bool)(h:af)(m k:Value):Option Value:=
 match m with
 | .map none=>some (bif ok then .tuple #[zero,.bool false]else zero)
 | m=>match Oz h m with
  |none=>none
  |some (es,_)=>match Instr.findNow kd k es.toList 0 with
   |some (some (_,v))=>some (bif ok then .tuple #[v,.bool true]else v)
   |some none=>some (bif ok then .tuple #[zero,.bool false]else zero)
   |none=>none
def aF (cells:Array Value):List (Nat×Nat×Value)→Option (Array Value)
 | []=>some cells
 |(off,size,v)::rest=>
  if v.cells.size≠size||off+v.cells.size>cells.size then none
  else aF (v.cells.zipIdx.foldl (λcs (c,j)=>cs.setIfInBounds (off+j) c) cells) rest
def tW (P:Program):List Field→Option (List (Nat×Nat))
 | []=>some []
 | f::fs=>match dH P f.type with
  |none=>none
  |some s=>match tW P fs with
   |none=>none
   |some l=>some ((f.offset,s)::l)
def NZ (P:Program)(t:TypeId):Option (Nat→Option (Nat×Nat)):=
 match P.underlying t with
 |some (.struct fs)=>(tW P fs.toList).map λl=>λi=>l[i]?
 |some (.array _ e)=>(dH P e).map λs=>λi=>some (i*s,s)
 |_=>none
def yI (pl:Nat→Option (Nat×Nat))(ρ:Env):List (Nat×Operand)→Option (List (Nat×Nat×Value))
 | []=>some []
 | (i,x)::rest=>match pl i with
  |none=>none
  |some (o,s)=>match yI pl ρ rest with
   |none=>none
   |some l=>some ((o,s,ev ρ x)::l)
def roB (P:Program)(b:Builtin)(args:List Value)(ts:List TypeId)(h:af):Option (Option Value):=
 match b with
 | .len=>match args,ts with
  | [x],[t]=>match P.underlying t with
   |some (.slice _)=>some (aq x)
   |some .string=>some (EL x)
   |some (.map _ _)=>some (Lq h x)
   |_=>none
  |_,_=>none
 | .max=>match args with
  | [x,y]=>some (ia x y)
  | [x,y,z]=>some (Xr x y z)
  |_=>none
 | .min=>match args with
  | [x,y]=>some (pF x y)
  | [x,y,z]=>some (Xq x y z)
  |_=>none
 |_=>none
def roV (P:Program) (ρ:Env) (op:Op) (h:af):Option (Option Value):=
 match op with
 | .move x| .assign x=>some (some (ev ρ x))
 | .pick c x y=>some (az (ev ρ c) (ev ρ x) (ev ρ y))
 | .load t x=>match w8 P t with
  |some false=>some (ldV h (ev ρ x))
  |some true=>match dH P t with
   |some n=>some (aH n h (ev ρ x))
   |none=>none
  |none=>none
 | .nilCheck x=>some (aK (ev ρ x))
 | .binOp op t x y _=>match Jm P t with
  | .o=>none
  | .p=>match Ou x||Ou y with
   |true=>some (ag .p op (ev ρ x) (ev ρ y))
   | false=>match P.underlying t with
    |some (.pointer e)=>match dH P e with
     |some (_+1)=>some (peV h op (ev ρ x) (ev ρ y))
     |_=>none
    |_=>none
  |e=>some (ag e op (ev ρ x) (ev ρ y))
 | .unOp op _ x=>some (unV op (ev ρ x))
 | .convert s d x=>match P.underlying s,P.underlying d with
  |some (.int _),some (.int k)=>some (eS k (ev ρ x))
  |some (.int _),some .string=>some (Xu (ev ρ x))
  |_,_=>none
 | .slice t x lo hi none=>match P.underlying t with
  |some (.slice e)=>match dH P e with
   |some n=>some (un n (ev ρ x) (lo.map (ev ρ)) (hi.map (ev ρ)))
   |none=>none
  |some .string=>some (XD (ev ρ x) (lo.map (ev ρ)) (hi.map (ev ρ)))
  |_=>none
 | .fieldAddr s x f=>match P.underlying s with
  | some (.struct fs)=>match fs[f]? with
   |some fd=>match dH P fd.type with
    |some 0=>none
    |some (_+1)=>some (am fd.offset (ev ρ x))
    |none=>none
   |none=>none
  |_=>none
 | .field t x f=>match P.underlying t with
  | some (.struct fs)=>match fs[f]? with
   |some fd=>match w8 P fd.type,dH P fd.type with
    |some b,some n=>some (mZ b n fd.offset (ev ρ x))
    |_,_=>none
   |none=>none
  |_=>none
 | .indexAddr t x i=>match P.underlying t with
  |some (.slice e)=>match dH P e with
   |some n=>some (aR n (ev ρ x) (ev ρ i))
   |none=>none
  |some (.array len e)=>match dH P e with
   |some n=>some (Ja len n (ev ρ x) (ev ρ i))
   |none=>none
  |_=>none
 | .index t x i=>match P.underlying t with
  |some .string=>some (XQ (ev ρ x) (ev ρ i))
  |_=>none
 | .extract t i=>some (aE (ev ρ t) i)
 | .makeInterface t x=>match P.underlying t with
  |some (.interface _)=>none
  |some _=>some (some (.iface t (ev ρ x)))
  |none=>none
 | .makeFunc fn first captured=>some (some (.func fn (first.map (ev ρ)) (captured.map (ev ρ))))
 | .lookup t x k ok=>match P.underlying t with
  |some (.map kt et)=>match jO P kt,um P et with
   |some kd,some z=>some (FE kd z ok h (ev ρ x) (ev ρ k))
   |_,_=>none
  |_=>none
 | .build t parts=>match um P t,NZ P t with
  |some z,some pl=>match yI pl ρ parts.toList with
   |some l=>some ((aF z.cells l).map .agg)
   |none=>none
  |_,_=>none
 | .call c=>match c.callee with
  | .builtin b=>roB P b (c.args.map (ev ρ)).toList c.argTypes.toList h
  |_=>none
 |_=>none
section
variable {P:Program}{ρ:Env}{w:World}
theorem aX {t:TypeId}{n:Nat}(h:dH P t=some n):(sizeOf t).run P w=.ok n w:=by
 unfold dH at h;cases hi:P.info? t with
 |none=>simp[hi]at h
 |some i=>simp[hi]at h;simp[sizeOf,typeInfo,hi,h]
theorem bR {t:TypeId}{b:Bool}(h:w8 P t=some b):(isAgg t).run P w=.ok b w:=by
 unfold w8 at h;cases hi:P.underlying t with
 |none=>simp[hi]at h
 |some d=>
  simp only[hi,Option.map_some,Option.some.injEq]at h;subst h;simp only[isAgg,Sem.run_bind,run_underlying hi,Result.andThen_ok];cases d<;>rfl
theorem aS {t:TypeId}{z:Value}(h:um P t=some z):(zeroValue t).run P w=.ok z w:=by
 unfold um at h;cases hi:P.info? t with
 |none=>simp[hi]at h
 |some i=>simp[hi]at h;simp[zeroValue,typeInfo,hi,h]
theorem Lc {a:Addr}{v:Value}(h:aB w.heap a=some v):(load a).run P w=.ok v w:=by
 have:w.cell? a=some v:=h;simp[this]
theorem tT (a:Addr):∀(n i:Nat) (acc:Array Value) (l:List Value),dx w.heap a i n=some l→(loadCellsFrom a i n acc).run P w=.ok (acc++l.toArray) w
 |0,i,acc,l,h=>by
  simp[dx]at h;subst h;simp[loadCellsFrom]
 | n+1,i,acc,l,h=>by
  unfold dx at h;cases h1:aB w.heap (a.add i)with
  |none=>simp[h1]at h
  | some v=>
   simp only[h1]at h;cases h2:dx w.heap a (i+1) n with
   |none=>simp[h2]at h
   |some l'=>
    simp only[h2,Option.some.injEq]at h;subst h;have:=tT a n (i+1) (acc.push v) l' h2;simp only[loadCellsFrom,Sem.run_bind,Lc h1,Result.andThen_ok,this]
    congr 1
    apply Array.ext';simp
theorem xv {t:TypeId}{a:Addr}{v:Value}(ht:w8 P t=some false)(h:aB w.heap a=some v):(loadVar t a).run P w=.ok v w:=by
 simp[loadVar,bR ht];simpa using Lc (P:=P) h
theorem xx {t:TypeId}{a:Addr}{n:Nat}{l:List Value}(ht:w8 P t=some true)(hs:dH P t=some n)(h:dx w.heap a 0 n=some l):
  (loadVar t a).run P w=.ok (.agg l.toArray) w:=by
 have:=tT (P:=P) a n 0 #[] l h;simp[loadVar,bR ht,aX hs,loadCells,this]
theorem Ej {t:TypeId}{b:Bool}{n off:Nat}{cs:Array Value}{v:Value}(ht:w8 P t=some b)(hs:dH P t=some n)(h:mZ b n off (.agg cs)=some v):
  (part t cs off).run P w=.ok v w:=by
 simp only[mZ]at h;simp only[part,Sem.run_bind,bR ht,Result.andThen_ok];cases b
 ·simp at h;simp[h]
 ·simp at h;simp[aX hs,h]
theorem kC {x:Value}{most n:Nat}(c:BoundsCode)(d:Nat)(h:bdV (some x) d most=some n):(Instr.sliceBound x most c).run P w=.ok n w:=by
 unfold bdV at h;cases x<;>simp at h
 rename_i k i;obtain⟨h1,rfl⟩:=h;simp[Instr.sliceBound,asIntOf,h1]
theorem vq {b:Bool}{len cap l h:Nat}{lo hi:Option Value}(hh:bdV hi len cap=some h)(hl:bdV lo 0 h=some l):
  (Instr.sliceBounds b len cap lo hi none).run P w=.ok (l,h,cap) w:=by
 unfold Instr.sliceBounds;cases hi with
 |none=>
  simp[bdV]at hh;subst hh;cases lo with
  |none=>simp[bdV]at hl;subst hl;simp
  |some x=>simp[kC _ _ hl]
 |some y=>
  cases lo with
  |none=>simp[bdV]at hl;subst hl;simp[kC _ _ hh]
  |some x=>simp[kC _ _ hh,kC _ _ hl]
theorem TK {op:BinOp}{k:IntKind}{a b:Int}{v:Value}(h:DS op k a b=some v)(hs:op≠ .shl∧op≠ .shr)(t:TypeId):
  (binOp op t (.int k a) (.int k b)).run P w=.ok v w:=by
 cases op<;>simp_all [DS,binOp,Op.intArith,Op.intDiv,Op.intBits,Op.intCmp]
theorem RG [jz P]{t:TypeId}{d:Nat}{fs:Array Field}{e:SE}(hu:P.underlying t=some (.struct fs))(hd:d<5)(he:Me P d t=some e):
  P.stoodInHeld t=false∧P.eqGuardType P.depth t=false∧∀f∈fs.toList,f.name≠ "_" :=by
 have h1:Uz P fs t=true:=by
  cases d with
  |zero=>cases he
  |succ d=>
   unfold Me at he;rw[hu]at he;simp only at he;split at he
   ·rename_i hb;exact hb
   ·cases he
 unfold Uz at h1;simp only[Bool.and_eq_true,Bool.not_eq_true',List.all_eq_true,bne_iff_ne,ne_eq]at h1;exact⟨h1.1,h1.2.1,h1.2.2⟩
theorem NM:∀{d:Nat} {t:TypeId} {e:SE},Me P d t=some e→w8 P t=some (G6 e)
 |0,_,_,h=>by cases h
 | d+1,t,e,h=>by
  unfold Me at h;unfold w8;split at h
  ·rename_i hu;cases h;rw[hu];rfl
  ·rename_i hu;cases h;rw[hu];rfl
  ·rename_i hu;split at h
   ·split at h
    ·cases h;rw[hu];rfl
    ·cases h
   ·cases h
  ·cases h
theorem G8 [jz P]:∀(d:Nat),d<5→∀(k:Nat),d≤k→∀(t:TypeId) (e:SE) (x y:Value) (b:Bool),Me P d t=some e→G0 e x y=some b→(Op.equalIn k t x y).run P w=.ok b w
 |0,_,_,_,_,_,_,_,_,h,_=>by cases h
 | d + 1, hd,k,hk,t,e,x,y,b,h,hq=>by
  obtain⟨k,rfl⟩:∃m,k=m+1:=⟨k-1,by omega⟩
  have h':=h;unfold Me at h;split at h
  ·rename_i hu;cases h;unfold G0 at hq;split at hq<;>simp_all
   subst hq;exact run_equalIn_bool' _ _ _ _ _ hu
  ·rename_i hu;cases h;unfold G0 at hq;split at hq<;>simp_all
   obtain⟨rfl,rfl⟩:=hq;exact run_equalIn_int _ _ _ _ _ _ _ hu
  ·rename_i fs hu;split at h
   ·split at h
    case h_2=>cases h
    rename_i l hl;cases h;have hf:=RG hu hd h';unfold G0 at hq;split at hq<;>try(simp at* ;done)
    rename_i fs' xs ys hfs;cases hfs;have hfo:P.fieldsOf t=fs:=by unfold Program.fieldsOf;rw[hu]
    rw[run_equalIn_struct w k t xs ys (by rw[hfo];exact hu) hf.1,hfo];have names:=hf.2.2
    clear hfo hu h' hf
    generalize fs.toList=gs at hl names;induction gs generalizing l b with
    |nil=>
     simp only[VH,Option.some.injEq]at hl;subst hl;simp only[Df,Option.some.injEq]at hq;subst hq;rfl
    | cons f gs ih=>
     unfold VH at hl;split at hl
     ·cases hl
     ·rename_i e he;split at hl
      ·cases hl
      ·rename_i n hn;split at hl
       ·cases hl
       ·rename_i l' hl';cases hl;unfold Df at hq;split at hq
        ·rename_i a b' ha hb;have pa:=Ej (P:=P) (w:=w) (NM he) hn (off:=f.offset) (cs:=xs) (v:=a) (by simpa[mZ]using ha);have pb:=Ej (P:=P) (w:=w) (NM he) hn (off:=f.offset) (cs:=ys) (v:=b') (by simpa[mZ]using hb);have nm:=names f (List.mem_cons_self ..);unfold Op.eqFields;rw[if_pos nm];simp only[Sem.run_bind,pa,pb,Result.andThen_ok];split at hq
         ·rename_i hs;rw[G8 d (by omega) k (by omega) _ _ _ _ _ he hs];simp only[Result.andThen_ok,Bool.not_true,Bool.false_eq_true,if_false];exact ih b l' hq hl' λg hg=>names g (List.mem_cons_of_mem _ hg)
         ·rename_i hs;cases hq;rw[G8 d (by omega) k (by omega) _ _ _ _ _ he hs];rfl
         ·cases hq
        ·cases hq
   ·cases h
  ·cases h
theorem LD {e:EK}{x y:Value}{b:Bool}(hs:∀fs,e≠ .st fs)(h:eqV e x y=some b):(∀c,x≠ .agg c)∧x≠ .nilIface:=by
 unfold eqV at h;split at h<;>simp_all
theorem pg {op:BinOp}{t:TypeId}{x y:Value}(x' y':Operand)(h:(∀c,x≠ .agg c)∧x≠ .nilIface):(eqGuard op t x' y' x y).run P w=.ok () w:=by
 unfold eqGuard;cases op<;>(try rfl)<;>(simp only[Bool.not_true,Bool.false_eq_true,if_false];cases x<;>first|rfl|simp_all)
theorem VJ {e:EK}{t:TypeId}{x y:Value}{b:Bool}(he:Jm P t=e)(ho:e≠ .o)(hs:∀fs,e≠ .st fs)(h:eqV e x y=some b):(Op.equal t x y).run P w=.ok b w:=by
 unfold Jm at he;cases hu:P.underlying t with
 |none=>simp[hu]at he;exact absurd he.symm ho
 | some d=>
  simp only[hu]at he;unfold Op.equal Op.maxDepth;rw[show(10000:Nat)=9999+1 from rfl];unfold Op.equalIn;simp only[Sem.run_bind,run_underlying hu,Result.andThen_ok];cases d with
  |struct fs=>
   exfalso;simp only at he;split at he
   ·exact hs _ he.symm
   ·exact ho he.symm
  |_=>
   simp only at he;subst he
   first
   |exact absurd rfl ho
   |(unfold eqV at h;split at h<;>simp_all)
theorem Fx {e:EK}{op:BinOp}{t:TypeId}{x y v:Value}{b:Bool}(he:Jm P t=e)(ho:e≠ .o)(hs:∀fs,e≠ .st fs)(hq:eqV e x y=some b)
  (h:op=.eql∧v=.bool b∨op=.neq∧v=.bool !b):(binOp op t x y).run P w=.ok v w:=by
 have hr:=VJ (P:=P) (w:=w) he ho hs hq;unfold eqV at hq;rcases h with⟨rfl,rfl⟩|⟨rfl,rfl⟩
 all_goals(split at hq<;>simp_all [binOp])
theorem NN [jz P]{l:List (Nat×Nat×SE)}{op:BinOp}{t:TypeId}{x y v:Value}{b:Bool}(he:Jm P t=.st l)(hq:eqV (.st l) x y=some b)
  (h:op=.eql∧v=.bool b∨op=.neq∧v=.bool !b) (x' y':Operand):(do eqGuard op t x' y' x y;binOp op t x y:Sem Value).run P w=.ok v w:=by
 have hu:∃fs,P.underlying t=some (.struct fs)∧Me P 4 t=some (.st l):=by
  unfold Jm at he;split at he<;>first|(cases he;done)|skip
  rename_i fs hu;split at he
  ·rename_i l' hl;cases he;exact⟨fs,hu,hl⟩
  ·cases he
 obtain⟨fs,hu,hl⟩:=hu;unfold eqV at hq;split at hq<;>first|(cases hq;done)|skip
 all_goals first|(rename_i xs ys h0;cases h0)|(rename_i h0 _ _;cases h0;done)|skip
 rename_i xs ys h0;have hse:G0 (.st l) (.agg xs) (.agg ys)=some b:=by unfold G0;exact hq
 have hrun:=G8 (P:=P) (w:=w) 4 (by omega) 10000 (by omega) t _ _ _ _ hl hse;have hg:=(RG hu (by omega) hl).2.1;simp only[Sem.run_bind,run_eqGuard_agg w op t x' y' xs ys hg,Result.andThen_ok];rcases h with⟨rfl,rfl⟩|⟨rfl,rfl⟩
 ·rw[run_eql_struct,hrun];rfl
 ·rw[run_neq_struct,hrun];rfl
theorem Hb [jz P]{e:EK}{op:BinOp}{t:TypeId}{x y v:Value}(he:Jm P t=e)(ho:e≠ .o)(h:ag e op x y=some v)(x' y':Operand):
  (do eqGuard op t x' y' x y;binOp op t x y:Sem Value).run P w=.ok v w:=by
 unfold ag at h;split at h
 ·rename_i k a k' b;simp only[Sem.run_bind,pg x' y' (x:=.int k a) (by simp),Result.andThen_ok];split at h
  ·split at h
   ·cases h
   ·rename_i hb;simp only[Option.some.injEq]at h;subst h;simp[binOp,Op.shift,hb]
  ·split at h
   ·cases h
   ·rename_i hb;simp only[Option.some.injEq]at h;subst h;simp[binOp,Op.shift,hb]
  ·rename_i h1 h2;split at h
   ·rename_i hk;subst hk;exact TK h ⟨h1,h2⟩ t
   ·cases h
 ·rename_i a b;simp only[Sem.run_bind,pg x' y' (x:=.string a) (by simp),Result.andThen_ok];unfold strV at h;cases op<;>simp_all [binOp,Op.stringOp]
 ·split at h
  ·cases hq:eqV e x y with
   |none=>simp[hq]at h
   | some b=>
    simp[hq]at h;subst h;by_cases hst:∃fs,e=.st fs
    ·obtain⟨l,rfl⟩:=hst;exact NN he hq (.inl ⟨rfl,rfl⟩) x' y'
    ·have hs:∀fs,e≠ .st fs:=λfs h=>hst ⟨fs,h⟩
     simp only[Sem.run_bind,pg x' y' (LD hs hq),Result.andThen_ok];exact Fx he ho hs hq (.inl ⟨rfl,rfl⟩)
  ·cases hq:eqV e x y with
   |none=>simp[hq]at h
   | some b=>
    simp[hq]at h;subst h;by_cases hst:∃fs,e=.st fs
    ·obtain⟨l,rfl⟩:=hst;exact NN he hq (.inr ⟨rfl,rfl⟩) x' y'
    ·have hs:∀fs,e≠ .st fs:=λfs h=>hst ⟨fs,h⟩
     simp only[Sem.run_bind,pg x' y' (LD hs hq),Result.andThen_ok];exact Fx he ho hs hq (.inr ⟨rfl,rfl⟩)
  ·cases h
theorem jK {e:Bool}{kt:TypeId}{kd:TypeDesc}{k:Value}(hk:jO P kt=some kd)(n:Nat):(Instr.checkKey e (n+1) kt k).run P w=.ok () w:=by
 unfold jO at hk;cases hu:P.underlying kt with
 |none=>simp[hu]at hk
 |some d=>
  simp only[hu]at hk;simp only[Instr.checkKey,Sem.run_bind,run_underlying hu,Result.andThen_ok];cases d<;>simp at hk<;>rfl
theorem Mf {P:Program}{kt:TypeId}{kd:TypeDesc}(hk:jO P kt=some kd):P.underlying kt=some kd:=by
 unfold jO at hk;cases hu:P.underlying kt with
 |none=>simp[hu]at hk
 |some d=>cases d<;>simp_all
theorem iA {kt:TypeId}{kd:TypeDesc}{k:Value}{es:List MapEntry}{r:Option (Nat×Value)}(hk:jO P kt=some kd)(h:Instr.findNow kd k es 0=some r):
  (Instr.findKey kt k es).run P w=.ok r w:=by
 simp[Instr.findKey,run_underlying (Mf hk),h]
theorem iF {m:Nat}{es:Array MapEntry}{c:Nat}(h:w.heap[m]? =some (.map es c)):(getObj m).run P w=.ok (.map es c) w:=by
 simp[getObj,Sem.run,h]
theorem Sh {t kt et:TypeId} {kd:TypeDesc} {z:Value} {ok:Bool} {m k v:Value} (ht:P.underlying t=some (.map kt et)) (hk:jO P kt=some kd) (hz:um P et=some z)
  (h:FE kd z ok w.heap m k=some v):(Instr.lookup t m k ok).run P w=.ok v w:=by
 unfold FE at h;split at h
 ·simp only[Option.some.injEq]at h;subst h;simp only[Instr.lookup,Sem.run_bind,run_underlying ht,Result.andThen_ok,Sem.run_pure];rw[show(10000:Nat)=9999+1 from rfl,jK hk];simp only[Result.andThen_ok];rw[iA hk (r:=none) (by simp[Instr.findNow])];simp only[Result.andThen_ok,Sem.run_bind,aS hz,Sem.run_pure];cases ok<;>rfl
 ·rename_i hm;cases hq:Oz w.heap m with
  |none=>simp[hq]at h
  | some p=>
   obtain⟨es,c⟩:=p;simp only[hq]at h;unfold Oz at hq;cases m with
   | map r=>
    cases r with
    |none=>simp at hq
    | some r=>
     simp only at hq;cases hh:w.heap[r]? with
     |none=>simp[hh]at hq
     | some o=>
      cases o<;>simp[hh]at hq
      obtain⟨rfl,rfl⟩:=hq;simp only[Instr.lookup,Sem.run_bind,run_underlying ht,Result.andThen_ok,iF hh,Sem.run_pure];rw[show(10000:Nat)=9999+1 from rfl,jK hk];simp only[Result.andThen_ok];cases hf:Instr.findNow kd k _ 0 with
      |none=>rw[hf]at h;cases h
      | some q=>
       rw[hf]at h;rw[iA hk hf];cases q with
       |none=>
        simp only[Option.some.injEq]at h;subst h;simp only[Result.andThen_ok,Sem.run_bind,aS hz,Sem.run_pure];cases ok<;>rfl
       |some q=>
        obtain⟨i,u⟩:=q;simp only[Option.some.injEq]at h;subst h;simp only[Result.andThen_ok];cases ok<;>rfl
   |_=>simp at hq
theorem M8 {pl:Nat→Option (Nat×Nat)}{ρ:Env}:∀(ps:List (Nat×Operand)) (l:List (Nat×Nat×Value)) (cells out:Array Value),yI pl ρ ps=some l→aF cells l=some out→
  Instr.fill pl cells (ps.map λ(i,x)=>(i,ev ρ x))=some out
 | [],l,cells,out,h,h'=>by simp[yI]at h;subst h;simpa[aF,Instr.fill]using h'
 | (i,x)::ps,l,cells,out,h,h'=>by
  unfold yI at h;cases hp:pl i with
  |none=>simp[hp]at h
  | some p=>
   obtain⟨o,s⟩:=p;simp only[hp]at h;cases hq:yI pl ρ ps with
   |none=>simp[hq]at h
   | some l'=>
    simp only[hq,Option.some.injEq]at h;subst h;simp only[aF]at h';simp only[List.map_cons,Instr.fill,hp];split at h'
    ·cases h'
    ·rename_i hc;rw[if_neg hc];exact M8 ps l' _ out hq h'
theorem NQ {s f off:Nat}{x v:Value}{fs:Array Field}{fd:Field}{n:Nat}(hs:P.underlying s=some (.struct fs))(hf:fs[f]? =some fd)(hn:dH P fd.type=some (n+1))(ho:fd.offset=off)
  (h:am off x=some v):(Instr.fieldAt s x f).run P w=.ok v w:=by
 unfold am at h;split at h
 ·rename_i a;simp only[Option.some.injEq]at h;subst h;subst ho;simp[Instr.fieldAt,run_underlying hs,hf,Instr.sureAddr,fieldPlace,aX hn]
 ·cases h
theorem Ha {x y v:Value}(h:ia x y=some v):(Builtin.max2 x y).run P w=.ok v w:=by
 unfold ia at h;split at h
 ·simp only[Option.some.injEq]at h;subst h;simp[Builtin.max2]
 ·cases h
theorem G9 {x y v:Value}(h:pF x y=some v):(Builtin.min2 x y).run P w=.ok v w:=by
 unfold pF at h;split at h
 ·simp only[Option.some.injEq]at h;subst h;simp[Builtin.min2]
 ·cases h
theorem Dg {t e n:Nat}{x v:Value}{lo hi:Option Value}(ht:P.underlying t=some (.slice e))(hn:dH P e=some n)(h:un n x lo hi=some v):
  (Instr.sliceAt t x lo hi none).run P w=.ok v w:=by
 unfold un at h;split at h
 ·rename_i a len cap;split at h
  ·rename_i hh h1;split at h
   ·rename_i l h2;simp only[Option.some.injEq]at h;subst h;simp[Instr.sliceAt,Instr.slice,run_underlying ht,vq h1 h2,aX hn]
   ·cases h
  ·cases h
 ·cases h
theorem Bw {t:Nat}{x v:Value}{lo hi:Option Value}(ht:P.underlying t=some .string)(h:XD x lo hi=some v):
  (Instr.sliceAt t x lo hi none).run P w=.ok v w:=by
 unfold XD at h;split at h
 ·rename_i s;split at h
  ·rename_i hh h1;split at h
   ·rename_i l h2;simp only[Option.some.injEq]at h;subst h;simp[Instr.sliceAt,Instr.slice,run_underlying ht,vq h1 h2]
   ·cases h
  ·cases h
 ·cases h
theorem Di {t e n:Nat}{x i v:Value}(ht:P.underlying t=some (.slice e))(hn:dH P e=some n)(h:aR n x i=some v):
  (Instr.indexAt t x i).run P w=.ok v w:=by
 unfold aR at h;split at h
 ·rename_i a len _ k j;split at h
  ·rename_i hb;simp only[Option.some.injEq]at h;subst h;simp[Instr.indexAt,asIntOf,run_underlying ht,hb,aX hn]
  ·cases h
 ·cases h
theorem Dj {t e n len:Nat}{x i v:Value}(ht:P.underlying t=some (.array len e))(hn:dH P e=some n)(h:Ja len n x i=some v):
  (Instr.indexAt t x i).run P w=.ok v w:=by
 unfold Ja at h;split at h
 ·rename_i a k j;split at h
  ·rename_i hb;simp only[Option.some.injEq]at h;subst h;simp[Instr.indexAt,asIntOf,run_underlying ht,Instr.sureAddr,hb,aX hn]
  ·cases h
 ·cases h
theorem Ek {t:Nat}{x i v:Value}(ht:P.underlying t=some .string)(h:XQ x i=some v):(Instr.index t x i).run P w=.ok v w:=by
 unfold XQ at h;split at h
 ·rename_i s k j;cases hb:(if 0≤j then s[j.toNat]? else none)with
  |none=>simp[hb]at h
  |some b=>
   simp[hb]at h;subst h;simp[Instr.index,asIntOf,run_underlying ht,hb]
 ·cases h
theorem Dh:∀(fs:List Field) (l:List (Nat×Nat)),tW P fs=some l→(fs.mapM λf=>do pure (f.offset,←sizeOf f.type):Sem (List (Nat×Nat))).run P w=.ok l w
 | [],l,h=>by simp[tW]at h;subst h;rfl
 | f::fs,l,h=>by
  unfold tW at h;cases h1:dH P f.type with
  |none=>simp[h1]at h
  | some s=>
   simp only[h1]at h;cases h2:tW P fs with
   |none=>simp[h2]at h
   |some l'=>
    simp only[h2,Option.some.injEq]at h;subst h;simp only[List.mapM_cons,Sem.run_bind,aX h1,Result.andThen_ok,Sem.run_pure,Dh fs l' h2]
theorem NO {fs:Array Field}{l:List (Nat×Nat)}(h:tW P fs.toList=some l):(fs.mapM λf=>do pure (f.offset,←sizeOf f.type):Sem (Array (Nat×Nat))).run P w=.ok l.toArray w:=by
 rw[Array.mapM_eq_mapM_toList,Sem.run_map,Dh fs.toList l h];rfl
theorem Sj {b:Builtin}{args:List Value}{ts:Array TypeId}{ty:TypeId}{cs:Array Bool}{v:Value}(hr:roB P b args ts.toList w.heap=some (some v)):(builtin b ts ty cs args.toArray).run P w=.ok (.value v) w:=by
 unfold roB at hr;split at hr
 ·split at hr
  ·rename_i x t hts;obtain rfl:ts=#[t]:=by apply Array.ext';simpa using hts
   split at hr
   ·rename_i e ht;simp only[Option.some.injEq]at hr;unfold aq at hr;split at hr
    ·simp only[Option.some.injEq]at hr;subst hr;simp[builtin,Builtin.len_,run_underlying ht,goInt]
    ·cases hr
   ·rename_i ht;simp only[Option.some.injEq]at hr;unfold EL at hr;split at hr
    ·simp only[Option.some.injEq]at hr;subst hr;simp[builtin,Builtin.len_,run_underlying ht,goInt]
    ·cases hr
   ·rename_i ht;simp only[Option.some.injEq]at hr;unfold Lq at hr;split at hr
    ·simp at hr;subst hr;simp[builtin,Builtin.len_,run_underlying ht,goInt]
    ·split at hr
     ·rename_i hm;simp at hr;subst hr;simp[builtin,Builtin.len_,run_underlying ht,goInt,iF hm]
     ·cases hr
    ·cases hr
   ·cases hr
  ·cases hr
 ·split at hr
  ·simp only[Option.some.injEq]at hr;simp[builtin,Builtin.max_,Ha hr]
  ·rename_i x y z;simp only[Option.some.injEq]at hr;unfold Xr at hr;split at hr
   ·rename_i a ha;simp[builtin,Builtin.max_,Ha ha,Ha hr]
   ·cases hr
  ·cases hr
 ·split at hr
  ·simp only[Option.some.injEq]at hr;simp[builtin,Builtin.min_,G9 hr]
  ·rename_i x y z;simp only[Option.some.injEq]at hr;unfold Xq at hr;split at hr
   ·rename_i a ha;simp[builtin,Builtin.min_,G9 ha,G9 hr]
   ·cases hr
  ·cases hr
 ·cases hr
theorem FA {h:af}{b:Nat}(H:lQ h b=true):∃c t,h[b]? =some (.cells c t (0,0)):=by
 unfold lQ at H;split at H
 ·rename_i c t hb;exact⟨c,t,hb⟩
 ·cases H
theorem VI [jz P]{op:BinOp}{t e:TypeId}{n:Nat}{x y v:Value}(he:Jm P t=.p)(hu:P.underlying t=some (.pointer e))(hn:dH P e=some (n+1))(h:peV w.heap op x y=some v)(x' y':Operand):
  (do eqGuard op t x' y' x y;binOp op t x y:Sem Value).run P w=.ok v w:=by
 unfold peV at h;split at h
 ·rename_i a b;have hi:∃j,P.info? e=some j∧j.size≠0:=by
   unfold dH at hn;cases hj:P.info? e with
   |none=>rw[hj]at hn;cases hn
   |some j=>rw[hj]at hn;simp only[Option.map_some,Option.some.injEq]at hn;exact⟨j,rfl,by omega⟩
  obtain⟨j,hj,hsz⟩:=hi;have same:∀d:Nat,(Op.equalIn (d+1) t (.pointer (some a)) (.pointer (some a))).run P w=.ok true w:=λd=>by
   simp[Op.equalIn,run_underlying hu,sizeOf,typeInfo,hj,run_sameAddr_same]
  have other:∀(hne:a≠b),(lQ w.heap a.block&&lQ w.heap b.block)=true→∀d:Nat,(Op.equalIn (d+1) t (.pointer (some a)) (.pointer (some b))).run P w=.ok false w:=λhne hpl d=>by
   rw[Bool.and_eq_true]at hpl;obtain⟨ca,ta,ha⟩:=FA hpl.1;obtain⟨cb,tb,hb⟩:=FA hpl.2;simp[Op.equalIn,run_underlying hu,sizeOf,typeInfo,hj,hsz,run_sameAddr_other w hne ha hb]
  simp only[Sem.run_bind,pg x' y' (show(∀c,Value.pointer (some a)≠ .agg c)∧Value.pointer (some a)≠ .nilIface from⟨by simp,by simp⟩),Result.andThen_ok];split at h
  ·split at h
   ·rename_i hab;subst hab;cases h;simp only[binOp];simp[Op.equal,Op.maxDepth,same 9999]
   ·rename_i hab;split at h
    ·rename_i hpl;cases h;simp only[binOp];simp[Op.equal,Op.maxDepth,other hab hpl 9999]
    ·cases h
  ·split at h
   ·rename_i hab;subst hab;cases h;simp only[binOp];simp[Op.equal,Op.maxDepth,same 9999]
   ·rename_i hab;split at h
    ·rename_i hpl;cases h;simp only[binOp];simp[Op.equal,Op.maxDepth,other hab hpl 9999]
    ·cases h
  ·cases h
 ·exact Hb (P:=P) (w:=w) (t:=t) he (by intro h;cases h) h x' y'
theorem vv [jz P] {op:Op} {r:Option Value} {v:Value} (o:Oper) (ho:o.op=op) (hr:roV P ρ op w.heap=some r) (hv:r=some v):(execOp (ev ρ) o).run P w=.ok (.value v) w:=by
 subst hv;unfold roV at hr;split at hr
 case h_1|h_2=>simp at hr;subst hr;simp[execOp,ho]
 case h_3=>
  simp at hr;unfold az at hr;split at hr<;>simp at hr
  rename_i c b hc;subst hr;simp only[execOp,ho,hc,asBool];cases b<;>simp
 case h_4 t x=>
  split at hr
  ·rename_i ht;simp only[Option.some.injEq]at hr;unfold ldV at hr;split at hr
   ·rename_i a hx;simp[execOp,ho,Instr.loadAt,hx,Instr.sureAddr,xv ht hr]
   ·cases hr
  ·rename_i ht;split at hr
   ·rename_i n hn;simp only[Option.some.injEq]at hr;unfold aH at hr;split at hr
    ·rename_i a hx;cases hl:dx w.heap a 0 n with
     |none=>simp[hl]at hr
     |some l=>
      simp[hl]at hr;subst hr;simp[execOp,ho,Instr.loadAt,hx,Instr.sureAddr,xx ht hn hl]
    ·cases hr
   ·cases hr
  ·cases hr
 case h_5 x=>
  simp only[Option.some.injEq]at hr;unfold aK at hr;simp only[execOp,ho];split at hr
  ·cases hr
  ·cases hr
  ·cases hr
  ·cases hr
  ·simp only[Option.some.injEq]at hr;subst hr;split<;>simp_all
 case h_6 op t x y _=>
  split at hr
  ·cases hr
  ·rename_i hp;split at hr
   ·simp only[Option.some.injEq]at hr;have:=Hb (P:=P) (w:=w) (t:=t) hp (by intro h;cases h) hr x y;simp only[execOp,ho];simp only[Sem.run_bind]at this ⊢;rw[this];rfl
   ·split at hr
    ·rename_i e hu;split at hr
     ·rename_i n hn;simp only[Option.some.injEq]at hr;have:=VI (P:=P) (w:=w) hp hu hn hr x y;simp only[execOp,ho];simp only[Sem.run_bind]at this ⊢;rw[this];rfl
     ·cases hr
    ·cases hr
  ·rename_i e he _;simp only[Option.some.injEq]at hr;have:=Hb (P:=P) (w:=w) (t:=t) rfl he hr x y;simp only[execOp,ho];simp only[Sem.run_bind]at this ⊢;rw[this];rfl
 case h_7 op t x=>
  simp only[Option.some.injEq]at hr;unfold unV at hr;split at hr<;>simp at hr
  all_goals(rename_i hx;subst hr;simp[execOp,ho,hx,Op.unary,Op.intArith,Op.intBits])
 case h_8 s d x=>
  split at hr
  ·rename_i h1 h2;simp only[Option.some.injEq]at hr;unfold eS at hr;split at hr<;>simp at hr
   rename_i hx;subst hr;simp[execOp,ho,hx,convert,run_underlying h1,run_underlying h2,Conv.intToInt]
  ·rename_i h1 h2;simp only[Option.some.injEq]at hr;unfold Xu at hr;split at hr<;>simp at hr
   rename_i hx;subst hr;simp[execOp,ho,hx,convert,run_underlying h1,run_underlying h2,Conv.intToString]
  ·cases hr
 case h_9 t x lo hi=>
  simp only[execOp,ho];split at hr
  ·rename_i e ht;split at hr
   ·rename_i n hn;simp only[Option.some.injEq]at hr;have:=Dg (P:=P) (w:=w) ht hn hr;simp[this]
   ·cases hr
  ·rename_i ht;simp only[Option.some.injEq]at hr;have:=Bw (P:=P) (w:=w) ht hr;simp[this]
  ·cases hr
 case h_10 s x f=>
  split at hr
  ·rename_i fs hs;split at hr
   ·rename_i fd hf;split at hr
    ·cases hr
    ·rename_i n hn;simp only[Option.some.injEq]at hr;have:=NQ (P:=P) (w:=w) hs hf hn rfl hr;simp[execOp,ho,this]
    ·cases hr
   ·cases hr
  ·cases hr
 case h_11 t x f=>
  split at hr
  ·rename_i fs hs;split at hr
   ·rename_i fd hf;split at hr
    ·rename_i b n hb hn;simp only[Option.some.injEq]at hr;have hr':=hr;unfold mZ at hr;split at hr
     ·rename_i cs hx;rw[hx]at hr';have:=Ej (P:=P) (w:=w) hb hn hr';simp[execOp,ho,hx,Instr.field,run_underlying hs,hf,asAgg,this]
     ·cases hr
    ·cases hr
   ·cases hr
  ·cases hr
 case h_12 t x i=>
  simp only[execOp,ho];split at hr
  ·rename_i e ht;split at hr
   ·rename_i n hn;simp only[Option.some.injEq]at hr;simp[Di (P:=P) (w:=w) ht hn hr]
   ·cases hr
  ·rename_i len e ht;split at hr
   ·rename_i n hn;simp only[Option.some.injEq]at hr;simp[Dj (P:=P) (w:=w) ht hn hr]
   ·cases hr
  ·cases hr
 case h_13 t x i=>
  split at hr
  ·rename_i ht;simp only[Option.some.injEq]at hr;simp[execOp,ho,Ek (P:=P) (w:=w) ht hr]
  ·cases hr
 case h_14 t i=>
  simp only[Option.some.injEq]at hr;unfold aE at hr;split at hr
  ·rename_i vs hx;simp[execOp,ho,hx,Instr.extract,hr]
  ·cases hr
 case h_15 t x=>
  split at hr
  ·cases hr
  ·rename_i d hd _;simp only[Option.some.injEq]at hr;subst hr;simp only[execOp,ho,Instr.makeInterface,Sem.run_bind];rename_i hq;simp only[run_underlying hq,Result.andThen_ok];rfl
  ·cases hr
 case h_16 fn first captured=>
  simp only[Option.some.injEq]at hr;subst hr;simp[execOp,ho,Instr.makeFunc]
 case h_17 t x k ok=>
  split at hr
  ·rename_i kt et ht;split at hr
   ·rename_i kd z hk hz;simp only[Option.some.injEq]at hr;simp[execOp,ho,Sh (P:=P) (w:=w) ht hk hz hr]
   ·cases hr
  ·cases hr
 case h_18 t parts=>
  split at hr
  ·rename_i z pl hz hp;split at hr
   ·rename_i l hl;simp only[Option.some.injEq]at hr;cases hf:aF z.cells l with
    |none=>simp[hf]at hr
    | some cs=>
     simp[hf]at hr;subst hr;have hfill:=M8 _ _ _ _ hl hf;rw[←Array.toList_map]at hfill;unfold NZ at hp;simp only[execOp,ho,Instr.build,Sem.run_bind,aS hz,Result.andThen_ok,Sem.run_pure];cases hu:P.underlying t with
     |none=>simp[hu]at hp
     | some d=>
      rw[run_underlying hu];simp only[hu]at hp;cases d with
      | struct fs=>
       simp only at hp;cases hq:tW P fs.toList with
       |none=>simp[hq]at hp
       |some l'=>
        simp only[hq,Option.map_some,Option.some.injEq]at hp;subst hp;simp only[Result.andThen_ok,Sem.run_bind,NO hq];have e:(λi:Nat=>(l'.toArray)[i]?)=λi:Nat=>l'[i]? :=by funext i;simp
        rw[e,hfill];rfl
      | array n e=>
       simp only at hp;cases hq:dH P e with
       |none=>simp[hq]at hp
       |some s=>
        simp only[hq,Option.map_some,Option.some.injEq]at hp;subst hp;simp only[Result.andThen_ok,Sem.run_bind,aX hq];rw[hfill];rfl
      |_=>simp at hp
   ·cases hr
  ·cases hr
 case h_19 c=>
  split at hr
  ·rename_i b hb;have:=Sj (P:=P) (w:=w) (ty:=o.type) (cs:=c.args.map λ| .const _=>true|_=>false) hr;rw[Array.toArray_toList]at this;simp only[execOp,ho,resolve,hb,Sem.run_bind,Sem.run_pure,Result.andThen_ok,invoke];exact this
  ·cases hr
 case h_20=>cases hr
end
def Ji:ll:=λ_ _=>False
def aP (c:Array Value)(t:TypeId):ll:=λh K=>K (.pointer (some ⟨h.size,0,none⟩)) (h.push (.cells c t))
def stK (n:Nat)(x v:Value):ll:=λh K=>
 match x with
 | .pointer (some a)=>if v.cells.size=n then(match iO h a 0 v.cells.toList with|some h'=>K undef h'|none=>False)else False
 |_=>False
def gQ (z:Value)(n:Nat):Array Value:=(Array.range n).map (λi=>z.cells[i%z.cells.size]!)
def cE (c:Array Value)(e:TypeId)(len:Nat)(l:List (Nat×Nat×Value)):ll:=λh K=>
 match aF c l with
 |some c'=>K (.slice (some ⟨h.size,0,none⟩) len len) (h.push (.cells c' e))
 |none=>False
def mkK (z:Value)(e:TypeId)(size bytes:Nat)(l c:Value):ll:=λh K=>
 match l,c with
 | .int _ l,.int _ c=>
  0≤IntKind.i64.wrap l∧IntKind.i64.wrap l≤IntKind.i64.wrap c∧(bytes:Int)*IntKind.i64.wrap c≤2^48∧
   K (.slice (some ⟨h.size,0,none⟩) (IntKind.i64.wrap l).toNat (IntKind.i64.wrap c).toNat) (h.push (.cells (gQ z ((IntKind.i64.wrap c).toNat*size)) e))
 |_,_=>False
def Rw:ll:=λh K=>K (.map (some h.size)) (h.push (.map #[] 0))
def dS (h:af)(r:Nat)(o:Obj):af:=h.setIfInBounds r o
def qQ (kd:TypeDesc)(m k v:Value):ll:=λh K=>
 match m with
 | .map (some r)=>match h[r]? with
  |some (.map es c)=>match Instr.findNow kd k es.toList 0 with
   |some (some (i,_))=>Instr.sameBits 10000 (((es[i]?).map (·.key)).getD k) k=true∧K undef (dS h r (.map (es.modify i λe=>{e with key:=k,val:=v}) c))
   |some none=>K undef (dS h r (.map (es.push {key:=k,val:=v,born:=c}) (c+1)))
   |none=>False
  |_=>False
 |_=>False
def EE (kd:TypeDesc)(z:Value)(m k:Value):ll:=λh K=>
 match m with
 | .map (some r)=>match h[r]? with
  |some (.map es c)=>match Instr.findNow kd k es.toList 0 with
   | some (some (i,v))=>Instr.sameBits 10000 (((es[i]?).map (·.key)).getD k) k=true∧
     K (.tuple #[v,.int .i64 (((es[i]?).map λe=>(e.born:Int)).getD 0)]) (dS h r (.map (es.modify i λe=>{e with key:=k}) c))
   |some none=>K (.tuple #[z,.int .i64 (c:Nat)]) (dS h r (.map (es.push {key:=k,val:=z,born:=c}) (c+1)))
   |none=>False
  |_=>False
 |_=>False
def Jl (m s v:Value):ll:=λh K=>
 match m,s with
 | .map (some r),.int _ n=>match h[r]? with
  |some (.map es c)=>match es.findIdx? (λe=>(e.born:Int)==n)with
   |some i=>K undef (dS h r (.map (es.modify i λe=>{e with val:=v}) c))
   |none=>False
  |_=>False
 |_,_=>False
def lW (kd:TypeDesc)(m k:Value):ll:=λh K=>
 match m with
 | .map none=>K (.tuple #[]) h
 | .map (some r)=>match h[r]? with
  |some (.map es c)=>match Instr.findNow kd k es.toList 0 with
   |some (some (i,_))=>K (.tuple #[]) (dS h r (.map (es.eraseIdxIfInBounds i) c))
   |some none=>K (.tuple #[]) (dS h r (.map es c))
   |none=>False
  |_=>False
 |_=>False
def En (m:Value):ll:=λh K=>
 match m with
 | .map none=>K (.pointer (some ⟨h.size,0,none⟩)) (h.push (.mapIter none 0 #[] 0))
 | .map (some r)=>match h[r]? with
  |some (.map _ c)=>K (.pointer (some ⟨h.size,0,none⟩)) (h.push (.mapIter (some r) c #[] c))
  |_=>False
 |_=>False
def zZ (s:Value):ll:=λh K=>
 match s with
 | .string s=>K (.pointer (some ⟨h.size,0,none⟩)) (h.push (.stringIter s 0))
 |_=>False
def DH (it:Value):ll:=λh K=>
 match it with
 | .pointer (some ⟨r,0,_⟩)=>match h[r]? with
  |some (.stringIter s pos)=>
   if pos<s.size then K (.tuple #[.bool true,.int .i64 (pos:Nat),.int .i32 (Utf8.decode s pos).1]) (dS h r (.stringIter s (pos+(Utf8.decode s pos).2)))
   else K (.tuple #[.bool false]) h
  |_=>False
 |_=>False
def IB (it:Value):ll:=λh K=>
 match it with
 | .pointer (some ⟨r,0,_⟩)=>match h[r]? with
  |some (.mapIter none _ _ _)=>K (.tuple #[.bool false]) h
  | some (.mapIter (some m) since seen last)=>match h[m]? with
   |some (.map es clock)=>
    (!seen.isEmpty&& !es.isEmpty&&es.all (·.born≥last))=false∧
    (∀e∈es,seen.contains e.born=false→K (.tuple #[.bool true,e.key,e.val]) (dS h r (.mapIter (some m) since (seen.push e.born) clock)))∧
    ((∀e∈es,seen.contains e.born=false→since≤e.born)→K (.tuple #[.bool false]) h)
   |_=>False
  |_=>False
 |_=>False
def QB (it:Value):ll:=λh K=>
 match it with
 | .pointer (some ⟨r,0,_⟩)=>match h[r]? with
  | some (.mapIter (some m) _ seen stepped)=>match h[m]? with
   | some (.map es clock)=>if clock≠stepped then False else match seen.back? with
    |some stamp=>match es.find? (·.born==stamp)with
     |some e=>K (.tuple #[e.key,e.val]) h
     |none=>False
    |none=>False
   |_=>False
  |_=>False
 |_=>False
def tf (size:Nat)(h:af)(n:Nat)(x:Value):Option (List Value):=
 match x with
 | .slice (some a) _ _=>dx h a 0 (n*size)
 | .slice none _ _=>some []
 | .string s=>some ((s.extract 0 n).data.map λb=>Value.int .u8 b.toNat).toList
 |_=>none
def KV (x:Value):Option Nat:=
 match x with
 | .slice _ n _=>some n
 | .string s=>some s.size
 |_=>none
def cF (z:Value) (e:TypeId) (size bytes:Nat) (s x:Value):ll:=λh K=>
 match s,KV x with
 | .slice base sLen sCap,some n=>
  if sLen+n≤sCap then
   match tf size h n x with
   | some news=>match base with
    |some a=>match iO h (a.add (sLen*size)) 0 news with
     |some h'=>K (.slice base (sLen+n) sCap) h'
     |none=>False
    |none=>K (.slice none (sLen+n) sCap) h
   |none=>False
  else
   ((sLen+n:Nat):Int)≤IntKind.i64.max∧Builtin.nextslicecap (sLen+n) sCap*bytes≤2^48∧
   match tf size h sLen s,tf size h n x with
   | some olds,some news=>∀newCap,sLen+n≤newCap→newCap≤2^63-1→
     K (.slice (some ⟨h.size,0,none⟩) (sLen+n) newCap) (h.push (.cells (olds.toArray++news.toArray++Builtin.zeroCells z.cells (newCap-(sLen+n))) e))
   |_,_=>False
 |_,_=>False
def Ch (size:Nat) (d x:Value):ll:=λh K=>
 match d,KV x with
 | .slice base dLen _,some n=>
  match tf size h (Nat.min n dLen) x with
  | some news=>match base with
   |some a=>match iO h a 0 news with
    |some h'=>K (.int .i64 (Nat.min n dLen:Nat)) h'
    |none=>False
   |none=>K (.int .i64 (Nat.min n dLen:Nat)) h
  |none=>False
 |_,_=>False
def pD (P:Program)(f:FuncId):Bool:=
 match P.funcs[f]? with
 |some fn=> !(fn.name== "runtime.NumGoroutine")&&fn.body.isSome
 |none=>false
def XA (P:Program)(f:FuncId)(args:Array Value):ll:=λh K=>
 pD P f=true∧∀w:World,w.heap=h→Calls P f args w λe w'=>∃v,e=.returned v∧cV w w'∧K v w'.heap
def ae (P:Program)(f:FuncId)(args:Array Value):ll:=λh K=>
 XA P f args h K∨∀w:World,w.heap=h→∃v w',(callFunc f args).run P w=.ok (.value v) w'∧cV w w'∧K v w'.heap
theorem ae.mono {P:Program}{f:FuncId}{args:Array Value}{h:af}{K K':Value→af→Prop}(hc:ae P f args h K)(hk:∀v h',K v h'→K' v h'):ae P f args h K':=
 hc.imp (λhc=>⟨hc.1,λw hw=>(hc.2 w hw).mono λ_ _ ⟨v,he,hs,hK⟩=>⟨v,he,hs,hk _ _ hK⟩⟩)
  λhc w hw=>let⟨v,w',a,b,c⟩:=hc w hw;⟨v,w',a,b,hk _ _ c⟩
theorem ae.ofCalls {P:Program}{f:FuncId}{args:Array Value}{h:af}{K:Value→af→Prop}(hc:pD P f=true)
  (H:∀w:World,w.heap=h→Calls P f args w λe w'=>∃v,e=.returned v∧cV w w'∧K v w'.heap):ae P f args h K:=.inl ⟨hc,H⟩
theorem ae.ofRun {P:Program}{f:FuncId}{args:Array Value}{h:af}{K:Value→af→Prop}
  (H:∀w:World,w.heap=h→∃v w',(callFunc f args).run P w=.ok (.value v) w'∧cV w w'∧K v w'.heap):ae P f args h K:=.inr H
def clK (P:Program)(f:Value)(args:Array Value)(h:af)(K:Value→af→Prop):Prop:=
 match f with
 | .func (.func f) first captured=>ae P f (first++args++captured) h K
 |_=>False
def X5 (P:Program) (b:Builtin) (args:List Value) (ts:List TypeId) (h:af) (K:Value→af→Prop):Prop:=
 match b with
 | .append=>match args,ts with
  | [s,x],[t,u]=>match P.underlying t,P.underlying u with
   |some (.slice e),some (.slice _)|some (.slice e),some .string=>match(P.info? e).bind λi=>i.zero.map λz=>(z,i.size,i.bytes)with
    |some (z,size,bytes)=>cF z e size bytes s x h K
    |none=>False
   |_,_=>False
  |_,_=>False
 | .copy=>match args,ts with
  | [d,x],t::_=>match P.underlying t with
   |some (.slice e)=>match dH P e with
    |some size=>Ch size d x h K
    |none=>False
   |_=>False
  |_,_=>False
 | .delete=>match args,ts with
  | [m,k],t::_=>match P.underlying t with
   |some (.map kt _)=>match jO P kt with
    |some kd=>lW kd m k h K
    |none=>False
   |_=>False
  |_,_=>False
 |_=>False
def JM:List Value→Option (List UInt8)
 | []=>some []
 | v::r=>match v with
  | .int .u8 n=>match JM r with
   |some l=>some (UInt8.ofNat n.toNat::l)
   |none=>none
  |_=>none
def bsK (x:Value):ll:=λh K=>
 match x with
 | .slice none _ _=>K (.string ByteArray.empty) h
 | .slice (some a) n _=>match dx h a 0 n with
  |some l=>match JM l with
   |some b=>K (.string ⟨⟨b⟩⟩) h
   |none=>False
  |none=>False
 |_=>False
def Ws (P:Program) (ρ:Env) (op:Op) (h:af) (K:Value→af→Prop):Prop:=
 match op with
 | .alloc t=>match um P t with
  |some z=>aP z.cells t h K
  |none=>False
 | .box t x=>aP (ev ρ x).cells t h K
 | .buildSlice t len parts=>match P.underlying t with
  | some (.slice e)=>match dH P e,um P e with
   |some s,some z=>if len*s>2^24 then False else match yI (λi=>some (i*s,s)) ρ parts.toList with
    |some l=>cE (gQ z (len*s)) e len l h K
    |none=>False
   |_,_=>False
  |_=>False
 | .store t a x=>match dH P t with
  |some n=>stK n (ev ρ a) (ev ρ x) h K
  |none=>False
 | .makeSlice t l c=>match P.underlying t with
  |some (.slice e)=>match(P.info? e).bind λi=>i.zero.map λz=>(z,i.size,i.bytes)with
   |some (z,size,bytes)=>mkK z e size bytes (ev ρ l) (ev ρ c) h K
   |none=>False
  |_=>False
 | .makeMap _ none=>Rw h K
 | .mapUpdate t m k x| .insert t m k x=>match P.underlying t with
  |some (.map kt _)=>match jO P kt with
   |some kd=>qQ kd (ev ρ m) (ev ρ k) (ev ρ x) h K
   |none=>False
  |_=>False
 | .mapEntry t m k=>match P.underlying t with
  |some (.map kt et)=>match jO P kt,um P et with
   |some kd,some z=>EE kd z (ev ρ m) (ev ρ k) h K
   |_,_=>False
  |_=>False
 | .entryStore _ m s x=>Jl (ev ρ m) (ev ρ s) (ev ρ x) h K
 | .range t x=>match P.underlying t with
  |some (.map _ _)=>En (ev ρ x) h K
  |some .string=>zZ (ev ρ x) h K
  |_=>False
 | .next it s=>bif s then DH (ev ρ it) h K else IB (ev ρ it) h K
 | .entry it=>QB (ev ρ it) h K
 | .call c=>match c.callee with
  | .builtin b=>X5 P b (c.args.map (ev ρ)).toList c.argTypes.toList h K
  | .value (.func f)=>ae P f (c.args.map (ev ρ)) h K
  | .value x=>clK P (ev ρ x) (c.args.map (ev ρ)) h K
  |_=>False
 | .convert s d x=>match P.underlying s,P.underlying d with
  |some (.slice e),some .string=>match P.underlying e with
   |some (.int .u8)=>bsK (ev ρ x) h K
   |_=>False
  |_,_=>False
 |_=>False
def iU (P:Program)(K:Value→af→Prop)(w:World):Result Next→Prop
 | .ok (.value v) w'=>cV w w'∧K v w'.heap
 | .ok .skip w'=>cV w w'∧K undef w'.heap
 | .ok (.enter f args) w'=>w'=w∧XA P f args w.heap K
 |_=>False
section
variable {P:Program}{ρ:Env}{w:World}{K:Value→af→Prop}
theorem Qd (v:Value):aJ v=v.oneCell':=by cases v<;>rfl
theorem qI (a:Addr):∀(l:List Value) (i:Nat) (w:World) (h':af),iO w.heap a i l=some h'→
  ∃w',(storeCells a l i).run P w=.ok () w'∧cV w w'∧w'.heap=h'
 | [],i,w,h',h=>by simp[iO]at h;exact⟨w,by simp[storeCells],cV.refl w,h⟩
 | v ::l,i,w,h',h=>by
  unfold iO at h;cases hc:aB w.heap (a.add i)with
  |none=>simp[hc]at h
  | some old=>
   simp only[hc]at h;cases ho:(aJ v&& !sA w.heap (a.add i))with
   |false=>rw[ho]at h;cases h
   | true=>
    rw[ho]at h;simp only[cond_true]at h;rw[Bool.and_eq_true]at ho;obtain⟨w',hr,hs,hh⟩:=qI a l (i+1) (w.setCell (a.add i) v) h' h;refine⟨w',?_,⟨hs.1,hs.2.1,hs.2.2⟩,hh⟩;have h1:w.cell? (a.add i)=some old:=hc;have h2:w.frozen? (a.add i)=false:=by
     show sA w.heap (a.add i)=false;simpa using ho.2
    simp only[storeCells,Sem.run_bind];rw[run_store P w _ _ _ (by rw[←Qd];exact ho.1)];simp[h1,h2,hr]
theorem zX {size n:Nat}{x:Value}{l:List Value}(h:tf size w.heap n x=some l):(Builtin.firstCells size n x).run P w=.ok l.toArray w:=by
 unfold tf at h;split at h
 ·rename_i a _ _;have:=tT (P:=P) a _ 0 #[] l h;simp[Builtin.firstCells,loadCells,this]
 ·simp at h;subst h;simp[Builtin.firstCells]
 ·simp only[Option.some.injEq]at h;subst h;simp only[Builtin.firstCells,Array.toArray_toList];rfl
 ·cases h
theorem NP {x:Value}{n:Nat}(h:KV x=some n):(Builtin.lenOf x).run P w=.ok n w:=by
 unfold KV at h;split at h<;>simp at h<;>subst h<;>simp[Builtin.lenOf]
theorem iU.value {s:Sem Value}{v:Value}{w':World}(hr:s.run P w=.ok v w')(hs:cV w w')(hK:K v w'.heap):
  iU P K w ((do pure (.value (←s)):Sem Next).run P w):=by
 simp only[Sem.run_bind,hr,Result.andThen_ok,Sem.run_pure];exact⟨hs,hK⟩
theorem iU.unit {s:Sem Unit}{w':World}(hr:s.run P w=.ok () w')(hs:cV w w')(hK:K undef w'.heap):
  iU P K w ((do s;pure .skip:Sem Next).run P w):=by
 simp only[Sem.run_bind,hr,Result.andThen_ok,Sem.run_pure];exact⟨hs,hK⟩
theorem eV (o:Obj):(newObj o).run P w=.ok w.heap.size {w with heap:=w.heap.push o}:=rfl
theorem Sd {t n:Nat}{x v:Value}(hn:dH P t=some n)(h:stK n x v w.heap K):∃w',(Instr.storeAt t x v).run P w=.ok () w'∧cV w w'∧K undef w'.heap:=by
 unfold stK at h;split at h
 ·rename_i a;split at h
  ·rename_i hv;cases hq:iO w.heap a 0 v.cells.toList with
   |none=>simp[hq]at h
   |some h'=>
    simp only[hq]at h;obtain⟨w',hr,hs,hh⟩:=qI (P:=P) a _ 0 w h' hq;refine⟨w',?_,hs,hh▸h⟩;simp[Instr.storeAt,Instr.sureAddr,storeVar,aX hn,hv,hr]
  ·exact h.elim
 ·exact h.elim
theorem iE {r:Nat}{o o':Obj}(h:w.heap[r]? =some o)(hn:∀c e f,o≠ .cells c e f):(setObj r o').run P w=.ok () {w with heap:=dS w.heap r o'}:=by
 simp only[setObj,Sem.run,h];cases o<;>first|rfl|exact absurd rfl (hn _ _ _)
theorem vu {a b:Value}(h:Instr.sameBits 10000 a b=true):(Instr.keyThatStays a b).run P w=.ok b w:=by
 simp[Instr.keyThatStays,h]
theorem KR {t kt et:TypeId}{kd:TypeDesc}{m k v:Value}(ht:P.underlying t=some (.map kt et))(hk:jO P kt=some kd)(h:qQ kd m k v w.heap K):
  ∃w',(Instr.mapUpdate t m k v).run P w=.ok () w'∧cV w w'∧K undef w'.heap:=by
 unfold qQ at h;split at h
 ·rename_i r;split at h
  ·rename_i es c hm;simp only[Instr.mapUpdate,Sem.run_bind,run_underlying ht,Result.andThen_ok,iF hm];rw[show(10000:Nat)=9999+1 from rfl,jK hk];simp only[Result.andThen_ok];split at h
   ·rename_i i u hf;rw[iA hk hf];simp only[Result.andThen_ok,Sem.run_bind];rw[vu h.1];simp only[Result.andThen_ok];exact⟨_,iE hm (by simp),⟨rfl,rfl,rfl⟩,h.2⟩
   ·rename_i hf;rw[iA hk hf];exact⟨_,iE hm (by simp),⟨rfl,rfl,rfl⟩,h⟩
   ·exact h.elim
  ·exact h.elim
 ·exact h.elim
theorem Gt {t kt et:TypeId}{kd:TypeDesc}{z m k:Value}(ht:P.underlying t=some (.map kt et))(hk:jO P kt=some kd)(hz:um P et=some z)(h:EE kd z m k w.heap K):
  ∃v w',(Instr.mapEntry t m k).run P w=.ok v w'∧cV w w'∧K v w'.heap:=by
 unfold EE at h;split at h
 ·rename_i r;split at h
  ·rename_i es c hm;simp only[Instr.mapEntry,Sem.run_bind,run_underlying ht,Result.andThen_ok,iF hm];rw[show(10000:Nat)=9999+1 from rfl,jK hk];simp only[Result.andThen_ok];split at h
   ·rename_i i u hf;rw[iA hk hf];simp only[Result.andThen_ok,Sem.run_bind];rw[vu h.1];simp only[Result.andThen_ok];rw[iE hm (by simp)];exact⟨_,_,rfl,⟨rfl,rfl,rfl⟩,h.2⟩
   ·rename_i hf;rw[iA hk hf];simp only[Result.andThen_ok,Sem.run_bind,aS hz];rw[iE hm (by simp)];exact⟨_,_,rfl,⟨rfl,rfl,rfl⟩,h⟩
   ·exact h.elim
  ·exact h.elim
 ·exact h.elim
theorem Jk {t:TypeId}{m s v:Value}(h:Jl m s v w.heap K):∃w',(Instr.entryStore t m s v).run P w=.ok () w'∧cV w w'∧K undef w'.heap:=by
 unfold Jl at h;split at h
 ·rename_i r k n;split at h
  ·rename_i es c hm;split at h
   ·rename_i i hf;simp only[Instr.entryStore,Sem.run_bind,iF hm,Result.andThen_ok,asInt,asIntOf,Sem.run_pure];simp only[hf];exact⟨_,iE hm (by simp),⟨rfl,rfl,rfl⟩,h⟩
   ·exact h.elim
  ·exact h.elim
 ·exact h.elim
theorem KT {t kt et:TypeId}{ty:TypeId}{kd:TypeDesc}{m k:Value}{ts:Array TypeId}(h0:ts[0]? =some t)(ht:P.underlying t=some (.map kt et))(hk:jO P kt=some kd)(h:lW kd m k w.heap K):
  ∃v w',(Builtin.delete_ ts ty #[m,k]).run P w=.ok v w'∧cV w w'∧K v w'.heap:=by
 have h10:(10000:Nat)=9999+1:=rfl;unfold lW at h;split at h
 ·refine⟨.tuple #[],w,?_,cV.refl w,h⟩;simp[Builtin.delete_,h0,run_underlying ht];rw[h10,jK hk];rfl
 ·rename_i r;split at h
  ·rename_i es c hm;simp only[Builtin.delete_,h0];simp[run_underlying ht,iF hm];rw[h10,jK hk];simp only[Result.andThen_ok];split at h
   ·rename_i i u hf;rw[iA hk hf];simp only[Result.andThen_ok];rw[Sem.run_map,iE hm (by simp)];exact⟨_,_,rfl,⟨rfl,rfl,rfl⟩,h⟩
   ·rename_i hf;rw[iA hk hf];simp only[Result.andThen_ok];rw[Sem.run_map,iE hm (by simp)];exact⟨_,_,rfl,⟨rfl,rfl,rfl⟩,h⟩
   ·exact h.elim
  ·exact h.elim
 ·exact h.elim
theorem FX {t kt et:TypeId}{m:Value}(ht:P.underlying t=some (.map kt et))(h:En m w.heap K):∃v w',(Instr.range t m).run P w=.ok v w'∧cV w w'∧K v w'.heap:=by
 unfold En at h;split at h
 ·simp only[Instr.range,Sem.run_bind,run_underlying ht,Result.andThen_ok,Sem.run_pure,eV];exact⟨_,_,rfl,⟨rfl,rfl,rfl⟩,h⟩
 ·rename_i r;split at h
  ·rename_i es c hm;simp only[Instr.range,Sem.run_bind,run_underlying ht,Result.andThen_ok,Sem.run_pure,iF hm,eV];exact⟨_,_,rfl,⟨rfl,rfl,rfl⟩,h⟩
  ·exact h.elim
 ·exact h.elim
theorem FW {t:TypeId}{s:Value}(ht:P.underlying t=some .string)(h:zZ s w.heap K):∃v w',(Instr.range t s).run P w=.ok v w'∧cV w w'∧K v w'.heap:=by
 unfold zZ at h;split at h
 ·simp only[Instr.range,Sem.run_bind,run_underlying ht,Result.andThen_ok,Sem.run_pure,eV];exact⟨_,_,rfl,⟨rfl,rfl,rfl⟩,h⟩
 ·exact h.elim
theorem wB {r:Nat}{o:Obj}(h:w.heap[r]? =some o)(hn:∀c e f,o≠ .cells c e f):(getObj r).run P w=.ok o w:=by
 simp only[getObj,Sem.run,h]
theorem Iz {t:TypeId}{it:Value}(h:DH it w.heap K):∃v w',(Instr.next it true t).run P w=.ok v w'∧cV w w'∧K v w'.heap:=by
 unfold DH at h;split at h
 ·rename_i r sp;split at h
  ·rename_i s pos hm;simp only[Instr.next,Sem.run_bind,wB hm (by simp),Result.andThen_ok];split at h
   ·rename_i hp;simp only[hp,if_true,Sem.run_bind,iE hm (by simp),Result.andThen_ok,Sem.run_pure];exact⟨_,_,rfl,⟨rfl,rfl,rfl⟩,h⟩
   ·rename_i hp;simp only[hp,if_false,Sem.run_pure];exact⟨_,_,rfl,cV.refl w,h⟩
  ·exact h.elim
 ·exact h.elim
theorem IA {t:TypeId} {it:Value} (h:IB it w.heap K):∃v w',(Instr.next it false t).run P w=.ok v w'∧cV w w'∧K v w'.heap:=by
 unfold IB at h;split at h
 ·rename_i r sp;split at h
  ·rename_i hm;simp only[Instr.next,Sem.run_bind,wB hm (by simp),Result.andThen_ok,Sem.run_pure];exact⟨_,_,rfl,cV.refl w,h⟩
  ·rename_i m since seen last hm;split at h
   ·rename_i es clock hes;obtain⟨h0,h1,h2⟩:=h;simp only[Instr.next,Sem.run_bind,wB hm (by simp),iF hes,Result.andThen_ok];rw[if_neg (by rw[h0];simp)];simp only[Sem.run_bind,run_choose];generalize hL:(es.filter λe=> !seen.contains e.born)=left;generalize hO:left.filter (λe=>decide (e.born<since))=old;generalize hN:left.filter (λe=>decide (e.born≥since))=new;generalize hC:(if old.isEmpty=true then #[none]else #[])++(old++new).map some=cand;have key:∀(j:Nat) (w1:World),j<cand.size→cV w w1→w1.heap=w.heap→
      ∃ v w',(Sem.run P (match cand[j]? with
       |some (some e)=>do
        setObj r (.mapIter (some m) since (seen.push e.born) clock)
        pure (.tuple #[.bool true,e.key,e.val])
       |some none=>pure (.tuple #[.bool false])
       |none=>stuck "Next: no such candidate") w1)=.ok v w'∧cV w w'∧K v w'.heap:=by
     intro j w1 hj hs hh;rw[Array.getElem?_eq_getElem hj];have hmem:cand[j]∈cand:=Array.getElem_mem hj;generalize cand[j]=x at hmem ⊢;rw[←hC,Array.mem_append]at hmem;cases x with
     | none=>
      refine⟨_,_,rfl,hs,?_⟩;rw[hh];refine h2 λe he hns=>?_
      have hold:old=#[]:=by
       rcases hmem with hmem|hmem
       ·by_cases ho:old.isEmpty=true
        ·simpa using ho
        ·simp[ho]at hmem
       ·simp at hmem
      rcases Nat.lt_or_ge e.born since with hlt|hge
      ·exfalso;have:e∈old:=by
        rw[←hO,←hL];simp only[Array.mem_filter];exact⟨⟨he,by simpa using hns⟩,by simpa using hlt⟩
       rw[hold]at this;simp at this
      ·exact hge
     | some e=>
      have hin:e∈es∧seen.contains e.born=false:=by
       have:e∈left:=by
        rcases hmem with hmem|hmem
        ·split at hmem<;>simp at hmem
        ·simp only[Array.mem_map,Option.some.injEq]at hmem;obtain⟨e',he',rfl⟩:=hmem;rw[Array.mem_append]at he';rcases he' with he'|he'
         ·rw[←hO]at he';exact(Array.mem_filter.1 he').1
         ·rw[←hN]at he';exact(Array.mem_filter.1 he').1
       rw[←hL]at this;have:=Array.mem_filter.1 this;exact⟨this.1,by simpa using this.2⟩
      simp only[Sem.run_bind];rw[iE (w:=w1) (by rw[hh];exact hm) (by simp)];refine⟨_,_,rfl,hs,?_⟩;simp only[hh];exact h1 e hin.1 hin.2
    have hpos:0<cand.size:=by
     rw[←hC];by_cases ho:old.isEmpty=true
     ·simp[ho];omega
     ·have:0<old.size:=by
       rcases Nat.eq_zero_or_pos old.size with h0|h0
       ·exact absurd (by simpa using h0) ho
       ·exact h0
      simp[ho];omega
    split
    ·exact key _ _ hpos (cV.refl w) rfl
    ·exact key _ _ (by simp only[Question.cut];exact Nat.mod_lt _ hpos) ⟨rfl,rfl,rfl⟩ rfl
   ·exact h.elim
  ·exact h.elim
 ·exact h.elim
theorem M9 {it:Value}(h:QB it w.heap K):∃v w',(Instr.entry it).run P w=.ok v w'∧cV w w'∧K v w'.heap:=by
 unfold QB at h;split at h
 ·rename_i r sp;split at h
  ·rename_i m _ seen stepped hm;split at h
   ·rename_i es clock hes;split at h
    ·exact h.elim
    ·rename_i hc;split at h
     ·rename_i stamp hb;split at h
      ·rename_i e he;simp only[Instr.entry,Sem.run_bind,wB hm (by simp),iF hes,Result.andThen_ok,hb];rw[if_neg (by simpa using hc)];simp only[he,Sem.run_pure];exact⟨_,_,rfl,cV.refl w,h⟩
      ·exact h.elim
     ·exact h.elim
   ·exact h.elim
  ·exact h.elim
 ·exact h.elim
theorem FJ {e:TypeId}{z:Value}{size bytes:Nat}(h:(P.info? e).bind (λi=>i.zero.map λz=>(z,i.size,i.bytes))=some (z,size,bytes)):
  ∃i,P.info? e=some i∧i.zero=some z∧i.size=size∧i.bytes=bytes:=by
 cases hi:P.info? e with
 |none=>simp[hi]at h
 |some i=>
  cases hz:i.zero with
  |none=>simp[hi,hz]at h
  |some z'=>simp[hi,hz]at h;exact⟨i,rfl,by rw[hz,h.1],h.2.1,h.2.2⟩
theorem P4 (f:Nat→Value):(Array.range 0).map f=#[]:=by simp
theorem St {t e:TypeId}{z:Value}{size bytes:Nat}{l c:Value}(ht:P.underlying t=some (.slice e))
  (hi:(P.info? e).bind (λi=>i.zero.map λz=>(z,i.size,i.bytes))=some (z,size,bytes)) (h:mkK z e size bytes l c w.heap K):
  ∃v w',(Instr.makeSlice t l c).run P w=.ok v w'∧cV w w'∧K v w'.heap:=by
 obtain⟨i,hj,hz,rfl,rfl⟩:=FJ hi
 clear hi
 unfold mkK at h;split at h
 ·rename_i k l k' c;obtain⟨h1,h2,h3,hK⟩:=h;simp only[Instr.makeSlice,Sem.run_bind,run_underlying ht,Result.andThen_ok,asInt,asIntOf,Sem.run_pure,typeInfo,run_program,hj];rw[if_neg (by simp;omega)];simp only[Sem.run_bind,run_askRoom,Result.andThen_ok,sizeOf,typeInfo,run_program,hj,Sem.run_pure];by_cases h0:(IntKind.i64.wrap c).toNat*i.size=0
  ·simp only[h0,if_true,Sem.run_pure,Result.andThen_ok,newRow,Sem.run_bind,eV];refine⟨_,_,rfl,⟨rfl,rfl,rfl⟩,?_⟩;rw[gQ,h0,P4]at hK;rw[P4];exact hK
  ·simp only[h0,if_false,Sem.run_bind,zeroValue,typeInfo,run_program,hj,hz,Sem.run_pure,Result.andThen_ok,newRow,eV];exact⟨_,_,rfl,⟨rfl,rfl,rfl⟩,hK⟩
 ·exact h.elim
theorem PX {t e:TypeId}{s len:Nat}{z:Value}{parts:Array (Nat×Operand)}{l:List (Nat×Nat×Value)}(ht:P.underlying t=some (.slice e))(hs:dH P e=some s)(hz:um P e=some z)
  (hsmall:¬len*s>2^24) (hl:yI (λi=>some (i*s,s)) ρ parts.toList=some l) (h:cE (gQ z (len*s)) e len l w.heap K):
  ∃v w',(Instr.buildSlice t len (parts.map λ(i,x)=>(i,ev ρ x))).run P w=.ok v w'∧cV w w'∧K v w'.heap:=by
 unfold cE at h;cases hf:aF (gQ z (len*s)) l with
 |none=>simp[hf]at h
 | some c=>
  simp only[hf]at h;have hfill:=M8 _ _ _ _ hl hf;rw[←Array.toList_map]at hfill;simp only[Instr.buildSlice,Sem.run_bind,run_underlying ht,Result.andThen_ok,aX hs,hsmall,if_false];by_cases h0:len*s=0
  ·simp only[h0,if_true,Sem.run_bind,Sem.run_pure,Result.andThen_ok];have e:gQ z (len*s)=#[]:=by simp[gQ,h0]
   rw[e]at hfill;rw[P4,hfill];simp only[newRow,Sem.run_bind,eV,Result.andThen_ok,Sem.run_pure];exact⟨_,_,rfl,⟨rfl,rfl,rfl⟩,h⟩
  ·simp only[h0,if_false,Sem.run_bind,aS hz,Result.andThen_ok,Sem.run_pure];unfold gQ at hfill;rw[hfill];simp only[newRow,Sem.run_bind,eV,Result.andThen_ok,Sem.run_pure];exact⟨_,_,rfl,⟨rfl,rfl,rfl⟩,h⟩
theorem JU {t u e ty:TypeId}{z:Value}{size bytes:Nat}{s x:Value}{ts:Array TypeId}(hts:ts.toList=[t,u])(ht:P.underlying t=some (.slice e))(hu:∃d,P.underlying u=some d∧∀k,d≠ .int k)
  (hi:(P.info? e).bind (λi=>i.zero.map λz=>(z,i.size,i.bytes))=some (z,size,bytes)) (h:cF z e size bytes s x w.heap K):
  ∃v w',(Builtin.append_ ts ty #[s,x]).run P w=.ok v w'∧cV w w'∧K v w'.heap:=by
 obtain⟨i,hj,hz,rfl,rfl⟩:=FJ hi
 clear hi
 obtain⟨d,hu,hd⟩:=hu;obtain rfl:ts=#[t,u]:=by apply Array.ext';simpa using hts
 unfold cF at h;split at h
 ·rename_i base sLen sCap n hn;simp only[Builtin.append_,List.getElem?_toArray,List.getElem?_cons_zero,List.getElem?_cons_succ,Sem.run_bind,run_underlying ht,run_underlying hu,Result.andThen_ok,Sem.run_pure,sizeOf,typeInfo,run_program,hj];rw[if_neg (by simp)];simp only[Sem.run_bind,NP hn,Result.andThen_ok];simp only[Bool.not_false,if_true];split at h
  ·rename_i hroom;simp only[hroom,if_true];split at h
   ·rename_i news hsrc;simp only[Sem.run_bind,zX hsrc,Result.andThen_ok];split at h
    ·rename_i a;split at h
     ·rename_i h' hst;obtain⟨w',hr,hs,hh⟩:=qI (P:=P) _ _ 0 w h' hst;simp only[Sem.run_bind,hr,Result.andThen_ok,Sem.run_pure];exact⟨_,_,rfl,hs,hh▸h⟩
     ·exact h.elim
    ·simp only[Sem.run_pure];exact⟨_,_,rfl,cV.refl w,h⟩
   ·exact h.elim
  ·rename_i hroom;obtain⟨hlen,hcap,h⟩:=h;simp only[hroom,if_false];split at h
   ·rename_i olds news ho hn';simp only[Sem.run_bind,run_program,Result.andThen_ok,hj,Sem.run_pure];rw[if_neg (by omega)];simp only[Sem.run_bind,run_program,Result.andThen_ok,hj,Sem.run_pure];rw[if_neg (by omega)];simp only[Sem.run_bind,run_program,Result.andThen_ok,hj,Sem.run_pure,run_choose,Question.forced,Bool.false_eq_true,if_false,run_askRoom];have hH:∀m l,tf i.size w.heap m l=tf i.size ({w with drawn:=w.drawn+1}:World).heap m l:=λ_ _=>rfl
    rw[hH]at ho hn';rw[zX ho];simp only[Sem.run_bind,Result.andThen_ok];rw[zX hn'];simp only[Sem.run_bind,Result.andThen_ok,newRow,eV,Sem.run_pure,zeroValue,typeInfo,run_program,hj,hz];refine⟨_,_,rfl,⟨rfl,rfl,rfl⟩,?_⟩;refine h _ ?_ ?_
    ·simp only[Question.cut];omega
    ·simp only[Question.cut];have h63:((sLen+n:Nat):Int)≤2^63-1:=by simpa[IntKind.max,IntKind.signed,IntKind.bits]using hlen
     have:=Nat.mod_lt (w.tape w.drawn (.appendCap (sLen+n) sCap e)) (show 0<2^63-(sLen+n)by omega);omega
   ·exact h.elim
 ·exact h.elim
theorem QJ {t e ty:TypeId}{size:Nat}{d x:Value}{ts:Array TypeId}(h0:ts[0]? =some t)(ht:P.underlying t=some (.slice e))(hs:dH P e=some size)(h:Ch size d x w.heap K):
  ∃v w',(Builtin.copy_ ts ty #[d,x]).run P w=.ok v w'∧cV w w'∧K v w'.heap:=by
 unfold Ch at h;split at h
 ·rename_i base dLen dCap _ n hn;simp only[Builtin.copy_,h0];simp only[List.getElem?_toArray,List.getElem?_cons_zero,List.getElem?_cons_succ,Sem.run_bind,run_underlying ht,Result.andThen_ok,NP hn,aX hs];split at h
  ·rename_i news hsrc;rw[zX hsrc];simp only[Result.andThen_ok];split at h
   ·rename_i a;split at h
    ·rename_i h' hst;obtain⟨w',hr,hs,hh⟩:=qI (P:=P) _ _ 0 w h' hst;simp only[Sem.run_bind,hr,Result.andThen_ok,Sem.run_pure];exact⟨_,_,rfl,hs,hh▸h⟩
    ·exact h.elim
   ·simp only[Sem.run_pure];exact⟨_,_,rfl,cV.refl w,h⟩
  ·exact h.elim
 ·exact h.elim
theorem iU.of {s:Sem Value}(h:∃v w',s.run P w=.ok v w'∧cV w w'∧K v w'.heap):iU P K w ((do pure (.value (←s)):Sem Next).run P w):=by
 obtain⟨v,w',h1,h2,h3⟩:=h;exact iU.value h1 h2 h3
theorem iU.ofU {s:Sem Unit}(h:∃w',s.run P w=.ok () w'∧cV w w'∧K undef w'.heap):iU P K w ((do s;pure .skip:Sem Next).run P w):=by
 obtain⟨w',h1,h2,h3⟩:=h;exact iU.unit h1 h2 h3
theorem vY {f:FuncId}{args:Array Value}(h:pD P f=true):(callFunc f args).run P w=.ok (.enter f args) w:=by
 unfold pD at h;cases hf:P.funcs[f]? with
 |none=>simp[hf]at h
 |some fn=>
  simp only[hf,Bool.and_eq_true,Bool.not_eq_true']at h;simp only[callFunc,Sem.run_bind,run_program,Result.andThen_ok,hf];rw[if_neg (by rw[h.1];simp)];have hb:fn.body.isNone=false:=by cases hb:fn.body<;>simp_all
  rw[if_neg (by rw[hb];simp)];rfl
theorem ae.done {f:FuncId}{args:Array Value}(h:ae P f args w.heap K):iU P K w ((callFunc f args).run P w):=by
 rcases h with h|h
 ·rw[vY h.1];exact⟨rfl,h⟩
 ·obtain⟨v,w',h1,h2,h3⟩:=h w rfl;rw[h1];exact⟨h2,h3⟩
theorem ae.calls {f:FuncId}{args:Array Value}{h:af}(hok:pD P f=true)(H:ae P f args h K)(w:World)(hw:w.heap=h):Calls P f args w λe w'=>∃v,e=.returned v∧cV w w'∧K v w'.heap:=by
 rcases H with H|H
 ·exact H.2 w hw
 ·obtain⟨v,w',h1,_⟩:=H w hw;rw[vY hok]at h1;cases h1
theorem SR {x:Value}{args:Array Value}(h:clK P x args w.heap K):iU P K w ((do let d←Deferred.ofValue x args;invoke d.target d.args:Sem Next).run P w):=by
 unfold clK at h;split at h
 ·simp only[Deferred.ofValue,Sem.run_bind,Sem.run_pure,Result.andThen_ok,invoke];exact h.done
 ·exact h.elim
theorem QG {b:Builtin}{args:List Value}{ts:Array TypeId}{ty:TypeId}{cs:Array Bool}(h:X5 P b args ts.toList w.heap K):iU P K w ((builtin b ts ty cs args.toArray).run P w):=by
 unfold X5 at h;split at h
 ·split at h
  ·rename_i s x t u hts;split at h
   ·rename_i e d ht hu;split at h
    ·rename_i z size bytes hi;exact iU.of (JU hts ht ⟨_,hu,by simp⟩ hi h)
    ·exact h.elim
   ·rename_i e ht hu;split at h
    ·rename_i z size bytes hi;exact iU.of (JU hts ht ⟨_,hu,by simp⟩ hi h)
    ·exact h.elim
   ·exact h.elim
  ·exact h.elim
 ·split at h
  ·rename_i d x t rest hts;have h0:ts[0]? =some t:=by rw[←Array.getElem?_toList,hts];rfl
   split at h
   ·rename_i e ht;split at h
    ·rename_i size hs;exact iU.of (QJ h0 ht hs h)
    ·exact h.elim
   ·exact h.elim
  ·exact h.elim
 ·split at h
  ·rename_i m k t rest hts;have h0:ts[0]? =some t:=by rw[←Array.getElem?_toList,hts];rfl
   split at h
   ·rename_i kt et ht;split at h
    ·rename_i kd hk;exact iU.of (KT h0 ht hk h)
    ·exact h.elim
   ·exact h.elim
  ·exact h.elim
 ·exact h.elim
theorem JL (f:Value→ByteArray→Sem (ForInStep ByteArray))(hf:∀n s,f (.int .u8 n) s=pure (.yield (s.push (UInt8.ofNat n.toNat)))):
  ∀(l:List Value) (b:List UInt8) (s:ByteArray),JM l=some b→(forIn l s f).run P w=.ok ⟨s.data++b.toArray⟩ w
 | [],b,s,h=>by
  simp only[JM,Option.some.injEq]at h;subst h;simp
 | v::r,b,s,h=>by
  unfold JM at h;split at h
  ·rename_i n;split at h
   ·rename_i l hl;simp only[Option.some.injEq]at h;subst h;have:=JL f hf r l (s.push (UInt8.ofNat n.toNat)) hl;simp only[List.forIn_cons,hf,Sem.run_bind,Sem.run_pure,Result.andThen_ok,this]
    congr 1
    apply ByteArray.ext;apply Array.ext';show(s.data.push (UInt8.ofNat n.toNat)++l.toArray).toList=_;simp
   ·cases h
  ·cases h
theorem Tq {x:Value}(h:bsK x w.heap K):∃v w',(Conv.bytesToString x).run P w=.ok v w'∧cV w w'∧K v w'.heap:=by
 unfold bsK at h;split at h
 ·exact⟨_,w,rfl,cV.refl w,h⟩
 ·rename_i a n c;split at h
  ·rename_i l hl;split at h
   ·rename_i b hb;refine⟨_,w,?_,cV.refl w,h⟩;have h1:=tT (P:=P) a _ 0 #[] l hl;simp only[Conv.bytesToString,loadCells,Sem.run_bind,h1,Result.andThen_ok,Array.empty_append,List.forIn_toArray];rw[JL _ (λn s=>rfl) l b ByteArray.empty hb];simp
   ·exact h.elim
  ·exact h.elim
 ·exact h.elim
theorem Jn {op:Op}(o:Oper)(ho:o.op=op)(h:Ws P ρ op w.heap K):iU P K w ((execOp (ev ρ) o).run P w):=by
 unfold Ws at h;split at h
 case h_1 t=>
  split at h
  ·rename_i z hz;simp only[execOp,ho];refine iU.of ⟨.pointer (some ⟨w.heap.size,0,none⟩),{w with heap:=w.heap.push (.cells z.cells t)},?_,⟨rfl,rfl,rfl⟩,h⟩;simp only[Instr.alloc,Sem.run_bind,aS hz,Result.andThen_ok,newVar,newRow,eV,Sem.run_pure]
  ·exact h.elim
 case h_2 t x=>
  simp only[execOp,ho];refine iU.of ⟨.pointer (some ⟨w.heap.size,0,none⟩),{w with heap:=w.heap.push (.cells (ev ρ x).cells t)},?_,⟨rfl,rfl,rfl⟩,h⟩;simp only[Instr.box,Sem.run_bind,Result.andThen_ok,newVar,newRow,eV,Sem.run_pure]
 case h_3 t len parts=>
  split at h
  ·rename_i e ht;split at h
   ·rename_i s z hs hz;split at h
    ·exact h.elim
    ·rename_i hsmall;split at h
     ·rename_i l hl;simp only[execOp,ho];exact iU.of (PX ht hs hz hsmall hl h)
     ·exact h.elim
   ·exact h.elim
  ·exact h.elim
 case h_4 t a x=>
  split at h
  ·rename_i n hn;simp only[execOp,ho];exact iU.ofU (Sd hn h)
  ·exact h.elim
 case h_5 t l c=>
  split at h
  ·rename_i e ht;split at h
   ·rename_i z size bytes hi;simp only[execOp,ho];exact iU.of (St ht hi h)
   ·exact h.elim
  ·exact h.elim
 case h_6 t=>
  simp only[execOp,ho];refine iU.of ⟨.map (some w.heap.size),{w with heap:=w.heap.push (.map #[] 0)},?_,⟨rfl,rfl,rfl⟩,h⟩;simp only[Instr.makeMap,Option.map_none,Sem.run_bind,eV,Result.andThen_ok,Sem.run_pure]
 case h_7 t m k x|h_8 t m k x=>
  split at h
  ·rename_i kt et ht;split at h
   ·rename_i kd hk;simp only[execOp,ho];exact iU.ofU (KR ht hk h)
   ·exact h.elim
  ·exact h.elim
 case h_9 t m k=>
  split at h
  ·rename_i kt et ht;split at h
   ·rename_i kd z hk hz;simp only[execOp,ho];exact iU.of (Gt ht hk hz h)
   ·exact h.elim
  ·exact h.elim
 case h_10 t m s x=>
  simp only[execOp,ho];exact iU.ofU (Jk h)
 case h_11 t x=>
  split at h
  ·rename_i kt et ht;simp only[execOp,ho];exact iU.of (FX ht h)
  ·rename_i ht;simp only[execOp,ho];exact iU.of (FW ht h)
  ·exact h.elim
 case h_12 it s=>
  simp only[execOp,ho];cases s
  ·exact iU.of (IA h)
  ·exact iU.of (Iz h)
 case h_13 it=>
  simp only[execOp,ho];exact iU.of (M9 h)
 case h_14 c=>
  split at h
  ·rename_i b hb;have:=QG (P:=P) (w:=w) (ty:=o.type) (cs:=c.args.map λ| .const _=>true|_=>false) h;rw[Array.toArray_toList]at this;simp only[execOp,ho,resolve,hb,Sem.run_bind,Sem.run_pure,Result.andThen_ok,invoke];exact this
  ·rename_i f hb;simp only[execOp,ho,resolve,hb,ev,Deferred.ofValue,Sem.run_bind,Sem.run_pure,Result.andThen_ok,invoke];simp only[Array.empty_append,Array.append_empty];exact h.done
  ·rename_i x _ hb;simp only[execOp,ho,resolve,hb];exact SR h
  ·exact h.elim
 case h_15 s d x=>
  split at h
  ·rename_i e h1 h2;split at h
   ·rename_i h3;simp only[execOp,ho];refine iU.of ?_;obtain⟨v,w',h4,h5,h6⟩:=Tq (P:=P) h;refine⟨v,w',?_,h5,h6⟩;simp only[convert,Sem.run_bind,run_underlying h1,run_underlying h2,run_underlying h3,Result.andThen_ok];generalize ev ρ x=y at h h4 ⊢;cases y<;>first|exact h4|(simp only[Sem.run_bind,run_underlying h3,Result.andThen_ok];exact h4)|exact h.elim
   ·exact h.elim
  ·exact h.elim
 case h_16=>exact h.elim
end
end
end Go.Crisp
namespace Go.Crisp
section
def gV (g:Value)(want:Bool)(r:Option Value):Option Value:=
 match g with
 | .bool b=>bif b==want then r else some undef
 |_=>some undef
def gK (g:Value)(want:Bool)(m:(Value→af→Prop)→Prop)(h:af)(K:Value→af→Prop):Prop:=
 match g with
 | .bool b=>bif b==want then m K else K undef h
 |_=>K undef h
def gOf (all:Array Oper)(ρ:Env)(j:Nat):Value:=
 match(all[j]?).bind (·.dst)with
 |some t=>ρ t
 |none=>undef
def roG (P:Program)(all:Array Oper)(ρ:Env)(o:Oper)(h:af):Option (Option Value):=
 match roV P ρ o.op h with
 |some r=>match o.guard with
  |none=>some r
  |some (j,want)=>some (gV (gOf all ρ j) want r)
 |none=>none
def effG (P:Program)(all:Array Oper)(ρ:Env)(o:Oper)(h:af)(K:Value→af→Prop):Prop:=
 match o.guard with
 |none=>Ws P ρ o.op h K
 |some (j,want)=>gK (gOf all ρ j) want (λK=>Ws P ρ o.op h K) h K
def Xf (P:Program)(all:Array Oper)(ρ:Env)(o:Oper)(h:af)(K:Value→af→Prop):Prop:=
 match roG P all ρ o h with
 |some r=>vK r λv=>K v h
 |none=>effG P all ρ o h K
def Vx (P:Program)(ρ:Env)(o:Oper):Option Value:=
 match o.guard with
 |some _=>none
 | none=>match o.op with
  | .move x=>some (ev ρ x)
  | .assign x=>some (ev ρ x)
  | .makeInterface t x=>match P.underlying t with
   |some (.interface _)=>none
   |some _=>some (.iface t (ev ρ x))
   |none=>none
  | .makeFunc fn first captured=>some (.func fn (first.map (ev ρ)) (captured.map (ev ρ)))
  |_=>none
theorem Rh {P:Program}{all:Array Oper}{ρ:Env}{o:Oper}{v:Value}(h:Vx P ρ o=some v)(hp:af):roG P all ρ o hp=some (some v):=by
 unfold Vx at h;split at h
 ·cases h
 ·rename_i hg;unfold roG;split at h
  ·rename_i x ho;simp only[ho,roV,hg,h]
  ·rename_i x ho;simp only[ho,roV,hg,h]
  ·rename_i t x ho;simp only[ho,roV,hg];cases hu:P.underlying t with
   |none=>simp[hu]at h
   |some d=>cases d<;>simp_all
  ·rename_i ho;simp only[ho,roV,hg,h]
  ·cases h
def cOp (P:Program)(all:Array Oper)(ρ:Env)(o:Oper)(h:af)(K:Value→af→Prop):Prop:=
 match Vx P ρ o with
 |some v=>K v h
 |none=>Xf P all ρ o h K
theorem Vi {P:Program}{all:Array Oper}{ρ:Env}{o:Oper}{h:af}{K:Value→af→Prop}(H:cOp P all ρ o h K):Xf P all ρ o h K:=by
 unfold cOp at H;split at H
 ·rename_i v hv;unfold Xf;rw[Rh hv h];exact H
 ·exact H
def roK (P:Program)(all:Array Oper)(ρ:Env)(o:Oper)(h:af)(K:Value→Prop):Prop:=
 match Vx P ρ o with
 |some v=>K v
 |none=>match roG P all ρ o h with
  |some r=>vK r K
  |none=>False
theorem TL {P:Program}{all:Array Oper}{ρ:Env}{o:Oper}{h:af}{K:Value→Prop}(H:roK P all ρ o h K):match roG P all ρ o h with|some r=>vK r K|none=>False:=by
 unfold roK at H;split at H
 ·rename_i v hv;rw[Rh hv h];exact H
 ·exact H
noncomputable def Vh (P:Program)(all:Array Oper)(l:List Oper):Env→af→(Env→af→Prop)→Prop:=
 List.rec (motive:=λ_=>Env→af→(Env→af→Prop)→Prop) (λρ h Q=>Q ρ h)
  (λo _ ih ρ h Q=>cOp P all ρ o h λv h=>ih (up ρ o.dst v) h Q) l
theorem To {P:Program}{all:Array Oper}{o:Oper}{l:List Oper}{ρ:Env}{h:af}{Q:Env→af→Prop}:Vh P all (o::l) ρ h Q=cOp P all ρ o h λv h=>Vh P all l (up ρ o.dst v) h Q:=rfl
noncomputable def RZ (P:Program)(all:Array Oper)(l:List Oper):Env→af→(Env→af→Prop)→Prop:=
 List.rec (motive:=λ_=>Env→af→(Env→af→Prop)→Prop) (λρ h Q=>Q ρ h)
  (λo _ ih ρ h Q=>roK P all ρ o h λv=>ih (up ρ o.dst v) h Q) l
def qK (S:af→Prop)(r:af→Option Value)(K:Value→Prop):Prop:=∃v,(∀h,S h→r h=some v)∧K v
def bC (h:af)(body:(af→Prop)→Prop):Prop:=∃S:af→Prop,S h∧body S
def y7 (P:Program):Op→Bool
 | .load .. | .lookup .. | .call _=>false
 | .binOp _ t x y _=>match Jm P t with
  | .p=>Ou x||Ou y
  |_=>true
 |_=>true
inductive PK where
 |e|r|f|n
inductive PT where
 |nil
 |op (i:Nat) (q:PK) (t:PT)
 |alt (x y:PT)
noncomputable def zv (P:Program)(all:Array Oper)(plan:PT):(af→Prop)→Env→af→(Env→af→Prop)→Prop:=
 PT.rec (motive:=λ_=>(af→Prop)→Env→af→(Env→af→Prop)→Prop) (λ_ ρ h Q=>Q ρ h)
  (λi q _ ih S ρ h Q=>match all[i]? with
   |none=>False
   | some o=>match q with
    | .r=>match y7 P o.op with
     |true=>roK P all ρ o h (λv=>ih S (up ρ o.dst v) h Q)
     |false=>qK S (λh=>match roG P all ρ o h with|some r=>r|none=>none) (λv=>ih S (up ρ o.dst v) h Q)
    | .e=>cOp P all ρ o h λv h=>S h∧ih S (up ρ o.dst v) h Q
    | .f=>cOp P all ρ o h λv h=>bC h λS=>ih S (up ρ o.dst v) h Q
    | .n=>cOp P all ρ o h λv h=>ih (λ_=>True) (up ρ o.dst v) h Q)
  (λ_ _ ihx ihy S ρ h Q=>ihx S ρ h Q∧ihy S ρ h Q) plan
theorem Tp {P:Program}{all:Array Oper}{x y:PT}{S:af→Prop}{ρ:Env}{h:af}{Q:Env→af→Prop}:zv P all (.alt x y) S ρ h Q=(zv P all x S ρ h Q∧zv P all y S ρ h Q):=rfl
theorem Q8 {P:Program}{all:Array Oper}{S:af→Prop}{i:Nat}{q:PK}{l:PT}{ρ:Env}{h:af}{Q:Env→af→Prop}:zv P all (.op i q l) S ρ h Q=match all[i]? with
  |none=>False
  | some o=>match q with
   | .r=>match y7 P o.op with
    |true=>roK P all ρ o h (λv=>zv P all l S (up ρ o.dst v) h Q)
    |false=>qK S (λh=>match roG P all ρ o h with|some r=>r|none=>none) (λv=>zv P all l S (up ρ o.dst v) h Q)
   | .e=>cOp P all ρ o h λv h=>S h∧zv P all l S (up ρ o.dst v) h Q
   | .f=>cOp P all ρ o h λv h=>bC h λS=>zv P all l S (up ρ o.dst v) h Q
   | .n=>cOp P all ρ o h λv h=>zv P all l (λ_=>True) (up ρ o.dst v) h Q:=by cases q<;>rfl
inductive Ex where
 |nx|br (n:Nat)|rt
inductive Ann where
 |z
 |s (x y:Ann)
 |j (ws:Nat) (cs:List Nat) (x y:Ann)
 |m (ws:Nat) (cs:List Nat) (x:Ann)
 |l (ws:Nat) (cs:List Nat) (x:Ann)
 |d (plan:PT)
def ix (xs:List Value)(i:Nat):Value:=xs.getD i undef
def Le (t:Nat):Nat→List Nat→Option Nat
 |_,[]=>none
 |k,c::cs=>bif Nat.beq t c then some k else Le t (k+1) cs
def fF:Code→List Tmp
 | .region _ ops _=>ops.toList.filterMap (·.dst)
 | .seq x y=>fF x++fF y
 | .cond _ x y=>fF x++fF y
 | .block _ x=>fF x
 | .loop x=>fF x
 |_=>[]
def wu (t:Nat):List Nat→Bool
 | []=>false
 |c::cs=>bif Nat.beq t c then true else wu t cs
def ng (ws t:Nat):Bool:=Nat.beq (Nat.land (Nat.shiftRight ws t) 1) 1
def zU (ws:Nat):List Nat→Bool
 | []=>true
 |c::cs=>ng ws c&&zU ws cs
def Jb (ρ ρj:Env)(ws:Nat)(cs:List Nat)(xs:List Value):Env:=λt=>
 match Le t 0 cs with
 |some i=>ix xs i
 |none=>match ng ws t with
  |true=>ρj t
  |false=>ρ t
def dK (body:(List Value→af→Prop)→Prop)(rest:List Value→Env→af→Prop):Prop:=
 ∃J:List Value→af→Prop,body J∧∀xs ρj h,J xs h→rest xs ρj h
def aU (init:List Value)(h:af)(body:List Value→Env→af→(List Value→af→Prop)→Prop):Prop:=
 ∃(I:List Value→af→Prop) (m:List Value→af→Nat),I init h∧∀xs ρj h,I xs h→body xs ρj h λys h'=>I ys h'∧m ys h'<m xs h
def aA (c:Value)(x y:Prop):Prop:=
 match c with
 | .bool b=>bif b then x else y
 |_=>False
abbrev CK:=Ann→Env→af→(Ex→Env→af→Prop)→Prop
def seqC (x y:CK):CK:=λan ρ h Q=>match an with
 | .s a b=>x a ρ h λe ρ h=>match e with
  | .nx=>y b ρ h Q
  |e=>Q e ρ h
 | .j ws cs a b=>dK (λJ=>x a ρ h λe ρ h=>match e with
   | .nx=>J (cs.map ρ) h
   |e=>Q e ρ h) λxs ρj h=>y b (Jb ρ ρj ws cs xs) h Q
 |_=>False
def condC (c:Operand)(x y:CK):CK:=λan ρ h Q=>match an with
 | .s a b=>aA (ev ρ c) (x a ρ h Q) (y b ρ h Q)
 |_=>False
def Yv (id:Nat) (x:CK):CK:=λan ρ h Q=>match an with
 | .m ws cs a=>dK (λJ=>x a ρ h λe ρ h=>match e with
   | .nx=>J (cs.map ρ) h
   | .br n=>match Nat.beq n id with
    |true=>J (cs.map ρ) h
    |false=>Q (.br n) ρ h
   | .rt=>Q .rt ρ h) λxs ρj h=>Q .nx (Jb ρ ρj ws cs xs) h
 | a=>x a ρ h λe ρ h=>match e with
  | .nx=>Q .nx ρ h
  | .br n=>match Nat.beq n id with
   |true=>Q .nx ρ h
   |false=>Q (.br n) ρ h
  | .rt=>Q .rt ρ h
def loopC (x:CK):CK:=λan ρ h Q=>match an with
 | .l ws cs a=>aU (cs.map ρ) h λxs ρj h again=>x a (Jb ρ ρj ws cs xs) h λe ρ h=>match e with
  | .nx=>again (cs.map ρ) h
  |e=>Q e ρ h
 |_=>False
noncomputable def VM (P:Program)(ops:Array Oper)(draw:Bool):CK:=λan ρ h Q=>match an with
 | .d plan=>bC h λS=>zv P ops plan S ρ h (Q .nx)
 |_=>match draw with
  |true=>RZ P ops ops.toList ρ h (Q .nx)
  |false=>Vh P ops ops.toList ρ h (Q .nx)
noncomputable def L3 (P:Program)(c:Code):CK:=
 Code.rec (motive:=λ_=>CK)
  (λ_ ρ h Q=>Q .nx ρ h)
  (λ_ ops draw=>VM P ops draw)
  (λ_ _ ihx ihy=>seqC ihx ihy)
  (λc _ _ ihx ihy=>condC c ihx ihy)
  (λid _ ih=>Yv id ih)
  (λ_ ih=>loopC ih)
  (λ_ _ _ _ _ _=>λ_ _ _ _=>False)
  (λid _ ρ h Q=>Q (.br id) ρ h)
  (λ_ _=>λ_ _ _ _=>False)
  (λ_=>λ_ _ _ _=>False)
  (λ_=>λ_ _ _ _=>False)
  (λ_ ρ h Q=>Q .rt ρ h)
  (λ_=>λ_ _ _ _=>False)
  c
def pA (ops:Array Oper):Nat→Nat→Nat→Bool
 |0,_,_=>false
 |n+1,k,i=>match ops[k]? with
  |some o=>o.after.any λe=>Region.binds .any e&&(e.on==i||pA ops n e.on i)
  |none=>false
def OX:List Edge→Nat→Nat
 | [],m=>m
 |e::l,m=>OX l (match Region.binds .any e with|true=>Nat.lor m (Nat.pow 2 e.on)|false=>m)
def Xi (ops:Array Oper):Nat→Nat→Nat
 |0,m=>m
 | j+1,m=>Xi ops j (match ng m j with
  |true=>match ops[j]? with
   |some o=>OX o.after.toList m
   |none=>m
  |false=>m)
def T5 (ops:Array Oper)(k i:Nat):Bool:=ng (Xi ops ops.size (match ops[k]? with|some o=>OX o.after.toList 0|none=>0)) i
def fN:PT→List Nat
 | .nil=>[]
 | .op i q t=>match q with
  | .f=>[i]
  | .n=>[i]
  |_=>fN t
 | .alt x y=>fN x++fN y
def sw:PT→List Nat
 | .nil=>[]
 | .op i _ _=>[i]
 | .alt x y=>sw x++sw y
def uB:PT→Nat
 | .nil=>0
 | .op _ _ t=>uB t+1
 | .alt x y=>Nat.max (uB x) (uB y)
def P7 (P:Program)(ops:Array Oper)(i:Nat):Bool:=
 match ops[i]? with
 |some o=>y7 P o.op
 |none=>false
def lP (P:Program)(ops:Array Oper):PT→Bool→List Nat→Array Bool→Bool
 | .nil,root,_,listed=>root&&(Region.ready .any ops listed).isEmpty
 | .op i q t,root,fs,listed=>(match q with
   | .r=>root&&(Region.free .any ops listed i&&(Region.ready .any ops listed).contains i&&(fN t).all λk=> !(k==i)&&(P7 P ops i||T5 ops k i))
   | .e=>(bif root then Region.ready .any ops listed==[i]else(Region.ready .any ops listed).contains i)&& !((bif root then fN t else fs).contains i)
   |_=>bif root then Region.ready .any ops listed==[i]else(Region.ready .any ops listed).contains i)&&lP P ops t true [] (listed.setIfInBounds i true)
 | .alt x y,root,fs,listed=>(bif root then(Region.ready .any ops listed).all λi=>(sw x++sw y).contains i else true)&&
   (lP P ops x false (bif root then fN x++fN y else fs) listed&&lP P ops y false (bif root then fN x++fN y else fs) listed)
def Bk (n:Nat):List Oper→Bool
 | []=>true
 |o::l=>(match o.dst with|some d=>Nat.blt d n|none=>true)&&Bk n l
def fm (P:Program)(n:Nat):Code→Ann→Bool
 | .skip,_=>true
 | .region _ ops draw,an=>Bk n ops.toList&&match an with
  | .d plan=>draw&&Region.noSelect ops&&Nat.ble (uB plan) ops.size&&lP P ops plan true [] (Array.replicate ops.size false)
  |_=>bif draw then Region.lexB .any ops else true
 | .seq x y,an=>match an with
  | .s a b=>fm P n x a&&fm P n y b
  | .j ws _ a b=>zU ws (fF x)&&(fm P n x a&&fm P n y b)
  |_=>false
 | .cond _ x y,an=>match an with
  | .s a b=>fm P n x a&&fm P n y b
  |_=>false
 | .block _ x,an=>match an with
  | .m ws _ a=>zU ws (fF x)&&fm P n x a
  |a=>fm P n x a
 | .loop x,an=>match an with
  | .l ws _ a=>zU ws (fF x)&&fm P n x a
  |_=>false
 | .exit _,_=>true
 | .ret,_=>true
 |_,_=>false
def Rel (n:Nat)(a:Act)(ρ:Env):Prop:=a.tmps.size=n∧a.defers=[]∧∀t,a.tmps.getD t undef=ρ t
theorem Rel.eval {n:Nat}{a:Act}{ρ:Env}(h:Rel n a ρ):a.eval=ev ρ:=by
 funext x
 cases x<;>simp only[Act.eval,ev]
 exact h.2.2 _
theorem Rel.put {n:Nat}{a:Act}{ρ:Env}(h:Rel n a ρ){d:Option Tmp}(hd:(match d with|some d=>Nat.blt d n|none=>true)=true)(v:Value):Rel n (a.put d v) (up ρ d v):=by
 cases d with
 |none=>exact h
 | some d=>
  refine⟨by simp[Act.put,h.1],h.2.1,λt=>?_⟩;have hd':d<a.tmps.size:=by rw[h.1];simpa[Nat.blt_eq]using hd
  simp only[Act.put,up];have:=h.2.2 t;by_cases ht:t=d
  ·subst ht;simp[hd']
  ·have hb:Nat.beq t d=false:=by rw[Bool.eq_false_iff];intro hb;exact ht (Nat.eq_of_beq_eq_true hb)
   simp only[hb];rw[←this];simp only[Array.getD_eq_getD_getElem?];rw[Array.getElem?_setIfInBounds_ne (Ne.symm ht)]
def D8 (n:Nat)(ρ:Env)(ws:List Tmp)(w0:World)(Q:Ex→Env→af→Prop):Exit→Act→World→Prop:=λe a w=>
 ∃ρ2,Rel n a ρ2∧(∀t,wu t ws=false→ρ2 t=ρ t)∧cV w0 w∧match e with
  | .normal=>Q .nx ρ2 w.heap
  | .exit id=>Q (.br id) ρ2 w.heap
  | .ret=>Q .rt ρ2 w.heap
  |_=>False
theorem pG (t:Nat):∀a b:List Nat,wu t (a++b)=(wu t a||wu t b)
 | [],b=>by simp[wu]
 |c::a,b=>by
  simp only[List.cons_append,wu,pG t a b];cases Nat.beq t c<;>simp
theorem CD {n:Nat}{a:Act}{ρ:Env}(hr:Rel n a ρ){all:Array Oper}{j:Nat}{want:Bool}{o:Oper}(hg:o.guard=some (j,want)):
  Region.wanted o (yielded all a.tmps)=(match gOf all ρ j with| .bool b=>b==want|_=>false):=by
 unfold Region.wanted;rw[hg];simp only;unfold yielded gOf;cases hd:(all[j]?).bind (·.dst)with
 |none=>rfl
 |some t=>
  have h2:=hr.2.2 t;simp only[Option.bind_some];rw[←h2];simp only[Array.getD_eq_getD_getElem?];cases h3:a.tmps[t]? with
  |none=>rfl
  |some v=>cases v<;>simp
section
variable {P:Program}{ρ:Env}{w:World}{n:Nat}{a:Act}
theorem vQ {o:Oper}{K:Value→af→Prop}{next:Act→World→Prop}{Q:Exit→Act→World→Prop}(h:iU P K w ((execOp a.eval o).run P w))
  (hn:∀v w',cV w w'→K v w'.heap→next (a.put o.dst v) w'):o.wp P a w next Q:=by
 unfold Oper.wp;generalize(execOp a.eval o).run P w=r at h;unfold iU at h;split at h
 ·exact hn _ _ h.1 h.2
 ·exact hn _ _ h.1 h.2
 ·obtain⟨rfl,hc⟩:=h;refine(hc.2 _ rfl).mono ?_;rintro e w' ⟨v,rfl,hs,hk⟩;exact hn v w' hs hk
 ·exact h.elim
theorem L2 [jz P]{all:Array Oper}{o:Oper}{K:Value→af→Prop}{next:Act→World→Prop}{Q:Exit→Act→World→Prop}(hr:Rel n a ρ)(h:cOp P all ρ o w.heap K)
  (hn:∀v w',cV w w'→K v w'.heap→next (a.put o.dst v) w'):
  if Region.wanted o (yielded all a.tmps)then o.wp P a w next Q∨(o.asks P a w∧LetsOut Q)else next (a.put o.dst undef) w:=by
 have h:=Vi h;unfold Xf at h;cases hro:roV P ρ o.op w.heap with
 | some r=>
  simp only[roG,hro]at h;cases hg:o.guard with
  | none=>
   simp only[hg]at h;have hw:Region.wanted o (yielded all a.tmps)=true:=by simp[Region.wanted,hg]
   rw[if_pos hw];refine .inl ?_;unfold vK at h;split at h
   ·rename_i v;refine vQ (K:=K) ?_ hn;rw[hr.eval,vv o rfl hro rfl];exact⟨cV.refl w,h⟩
   ·exact h.elim
  | some p=>
   obtain⟨j,want⟩:=p;simp only[hg]at h;rw[CD hr hg];unfold gV at h;split at h
   ·rename_i b hb;by_cases hbw:(b==want)=true
    ·rw[hbw]at h;simp only[cond_true]at h;rw[if_pos hbw];refine .inl ?_;unfold vK at h;split at h
     ·rename_i v;refine vQ (K:=K) ?_ hn;rw[hr.eval,vv o rfl hro rfl];exact⟨cV.refl w,h⟩
     ·exact h.elim
    ·have hbw':(b==want)=false:=by simpa using hbw
     rw[hbw']at h;simp only[cond_false,vK]at h;rw[if_neg hbw];exact hn _ _ (cV.refl w) h
   ·rename_i hb;simp only[vK]at h;rw[if_neg (by simp)];exact hn _ _ (cV.refl w) h
 | none=>
  simp only[roG,hro,effG]at h;cases hg:o.guard with
  |none=>
   simp only[hg]at h;have hw:Region.wanted o (yielded all a.tmps)=true:=by simp[Region.wanted,hg]
   rw[if_pos hw];refine .inl (vQ (K:=K) ?_ hn);rw[hr.eval];exact Jn o rfl h
  | some p=>
   obtain⟨j,want⟩:=p;simp only[hg]at h;rw[CD hr hg];unfold gK at h;split at h
   ·rename_i b hb;by_cases hbw:(b==want)=true
    ·rw[hbw]at h;simp only[cond_true]at h;rw[if_pos hbw];refine .inl (vQ (K:=K) ?_ hn);rw[hr.eval];exact Jn o rfl h
    ·have hbw':(b==want)=false:=by simpa using hbw
     rw[hbw']at h;simp only[cond_false]at h;rw[if_neg hbw];exact hn _ _ (cV.refl w) h
   ·rename_i hb;rw[if_neg (by simp)];exact hn _ _ (cV.refl w) h
theorem BC {o:Oper}{l:List Oper}(h:Bk n (o::l)=true):(match o.dst with|some d=>Nat.blt d n|none=>true)=true∧Bk n l=true:=by
 simpa[Bk]using h
theorem Nt {d:Option Tmp}{v:Value}{t:Nat}{rest:List Tmp}(ht:wu t (match d with|some d=>d::rest|none=>rest)=false):up ρ d v t=ρ t∧wu t rest=false:=by
 cases d with
 |none=>exact⟨rfl,ht⟩
 |some d=>
  simp only[wu]at ht;simp only[up];cases hb:Nat.beq t d with
  |true=>rw[hb]at ht;cases ht
  |false=>rw[hb]at ht;exact⟨rfl,ht⟩
theorem JK [jz P]{all:Array Oper}{Q:Ex→Env→af→Prop}{Q':Exit→Act→World→Prop}:∀(l:List Oper) (k:Nat) (ρ:Env) (a:Act) (w:World),all.toList.drop k=l→Bk n l=true→Rel n a ρ→
  Vh P all l ρ w.heap (Q .nx)→(∀e a' w',D8 n ρ (l.filterMap (·.dst)) w Q e a' w'→Q' e a' w')→wpOps P all Q' (List.range' k l.length) a w
 | [],k,ρ,a,w,_,_,hr,h,hQ=>by
  simp only[List.length_nil,List.range'_zero,wpOps];exact hQ _ _ _ ⟨ρ,hr,λ_ _=>rfl,cV.refl w,h⟩
 | o::l,k,ρ,a,w,hd,hok,hr,h,hQ=>by
  have hk:all[k]? =some o:=by
   rw[←Array.getElem?_toList];have:(all.toList.drop k)[0]? =some o:=by rw[hd];rfl
   simpa using this
  have hd':all.toList.drop (k+1)=l:=by
   have:(all.toList.drop k).drop 1=l:=by rw[hd];rfl
   simpa[List.drop_drop]using this
  obtain⟨h1,h2⟩:=BC hok;simp only[List.length_cons,List.range'_succ,wpOps,hk];rw[To]at h;refine L2 (n:=n) hr h λv w' hs hK=>?_
  refine JK l (k+1) (up ρ o.dst v) _ w' hd' h2 (hr.put h1 v) hK λe a' w'' ⟨ρ2,g1,g2,g3,g4⟩=>hQ e a' w'' ⟨ρ2,g1,λt ht=>?_,hs.trans g3,g4⟩
  have:=Nt (ρ:=ρ) (d:=o.dst) (v:=v) (t:=t) (rest:=l.filterMap (·.dst)) (by cases hdst:o.dst<;>simp[hdst]at ht ⊢ <;>exact ht);rw[g2 t this.2,this.1]
theorem L9 [jz P]{all:Array Oper}{o:Oper}{C:World→Prop}{K:Act→Prop}{h:af}{K0:Value→Prop}(hr:Rel n a ρ)(hC:∀w,C w→w.heap=h)
  (hv:roK P all ρ o h K0) (hn:∀v,K0 v→K (a.put o.dst v)):
  if Region.wanted o (yielded all a.tmps)then o.quiet P a C K else K (a.put o.dst undef):=by
 have hv:=TL hv;unfold roG at hv;cases hro:roV P ρ o.op h with
 |none=>simp[hro]at hv
 | some r=>
  simp only[hro]at hv;have hq:∀v,r=some v→∀w,C w→o.quietAt P a C w v:=by
   intro v hrv w hw;unfold Oper.quietAt;rw[hr.eval,vv (w:=w) o rfl (by rw[hC w hw];exact hro) hrv];exact⟨rfl,rfl⟩
  cases hg:o.guard with
  | none=>
   simp only[hg]at hv;rw[if_pos (by simp[Region.wanted,hg])];unfold vK at hv;split at hv
   ·rename_i v;exact⟨v,hq v rfl,hn v hv⟩
   ·exact hv.elim
  | some p=>
   obtain⟨j,want⟩:=p;simp only[hg]at hv;rw[CD hr hg];unfold gV at hv;split at hv
   ·rename_i b hb;by_cases hbw:(b==want)=true
    ·rw[hbw]at hv;simp only[cond_true]at hv;rw[if_pos hbw];unfold vK at hv;split at hv
     ·rename_i v;exact⟨v,hq v rfl,hn v hv⟩
     ·exact hv.elim
    ·have hbw':(b==want)=false:=by simpa using hbw
     rw[hbw']at hv;simp only[cond_false,vK]at hv;rw[if_neg hbw];exact hn _ hv
   ·rename_i hb;simp only[vK]at hv;rw[if_neg (by simp)];exact hn _ hv
theorem FR [jz P]{all:Array Oper}{Q:Ex→Env→af→Prop}{C:World→Prop}{h:af}{Q':Act→Prop}(hC:∀w,C w→w.heap=h):∀(l:List Oper) (ρ:Env) (a:Act),Bk n l=true→Rel n a ρ→
  RZ P all l ρ h (Q .nx)→(∀a' ρ2,Rel n a' ρ2→(∀t,wu t (l.filterMap (·.dst))=false→ρ2 t=ρ t)→Q .nx ρ2 h→Q' a')→wpQuiet P all C Q' l a
 | [],ρ,a,_,hr,hh,hQ=>hQ _ ρ hr (λ_ _=>rfl) hh
 |o::l,ρ,a,hok,hr,hh,hQ=>by
  obtain⟨h1,h2⟩:=BC hok;simp only[wpQuiet];refine L9 (n:=n) (h:=h) hr hC (K0:=λv=>RZ P all l (up ρ o.dst v) h (Q .nx)) hh λv hK=>?_
  refine FR hC l (up ρ o.dst v) _ h2 (hr.put h1 v) hK λa' ρ2 g1 g2 g3=>hQ a' ρ2 g1 (λt ht=>?_) g3
  have:=Nt (ρ:=ρ) (d:=o.dst) (v:=v) (t:=t) (rest:=l.filterMap (·.dst)) (by cases hdst:o.dst<;>simp[hdst]at ht ⊢ <;>exact ht);rw[g2 t this.2,this.1]
theorem G7 (w:World):cV w {w with drawn:=w.drawn+1}:=⟨rfl,rfl,rfl⟩
theorem Region.wanted_eq {all:Array Oper}{o:Oper}(hr:Rel n a ρ):Region.wanted o (yielded all a.tmps)=match o.guard with
  |none=>true
  |some (j,want)=>match gOf all ρ j with| .bool b=>b==want|_=>false:=by
 cases hg:o.guard with
 |none=>simp[Region.wanted,hg]
 |some p=>obtain⟨j,want⟩:=p;exact CD hr hg
theorem Fi [jz P]{all:Array Oper}{o:Oper}{S:af→Prop}{v:Value}{h0:af}(hr:Rel n a ρ)(h0S:S h0)
  (hv:∀h,S h→(match roG P all ρ o h with|some r=>r|none=>none)=some v):YieldsIf P all (λw=>S w.heap) o v a:=by
 unfold YieldsIf;rw[Region.wanted_eq hr];have key:∀h,S h→∃r,roV P ρ o.op h=some r∧(match o.guard with|none=>r|some (j,want)=>gV (gOf all ρ j) want r)=some v:=by
  intro h hh;have:=hv h hh;unfold roG at this;cases hro:roV P ρ o.op h with
  |none=>simp[hro]at this
  |some r=>
   simp only[hro]at this;refine⟨r,rfl,?_⟩;cases hg:o.guard with
   |none=>simpa[hg]using this
   |some p=>simpa[hg]using this
 cases hg:o.guard with
 |none=>
  refine .inl ⟨rfl,λw hw=>?_⟩;obtain⟨r,h1,h2⟩:=key _ hw;simp only[hg]at h2;rw[hr.eval];exact vv o rfl h1 h2
 | some p=>
  obtain⟨j,want⟩:=p;simp only[hg]at key;cases hgo:gOf all ρ j with
  | bool b=>
   simp only[hgo,gV]at key;cases hbw:(b==want)with
   |true=>
    refine .inl ⟨by simp only[hgo];exact hbw,λw hw=>?_⟩;obtain⟨r,h1,h2⟩:=key _ hw;rw[hbw,cond_true]at h2;rw[hr.eval];exact vv o rfl h1 h2
   |false=>
    obtain⟨r,h1,h2⟩:=key _ h0S;rw[hbw,cond_false]at h2;exact .inr ⟨by simp only[hgo];exact hbw,(Option.some.inj h2).symm⟩
  |_=>
   obtain⟨r,h1,h2⟩:=key _ h0S;simp only[hgo,gV]at h2;exact .inr ⟨by simp only[hgo],(Option.some.inj h2).symm⟩
theorem xL [jz P]{all:Array Oper}{i:Nat}{o:Oper}{K:Value→af→Prop}{next:Act→World→Prop}{Q:Exit→Act→World→Prop}(hi:all[i]? =some o)(hr:Rel n a ρ)(h:cOp P all ρ o w.heap K)
  (hn:∀v w',cV w w'→K v w'.heap→next (a.put o.dst v) w'):wpOp P all Q i next a w:=by
 unfold wpOp;simp only[hi];exact L2 hr h hn
theorem Sp {o:Oper}:∀(l:List Oper) (i:Nat),Bk n l=true→l[i]? =some o→(match o.dst with|some d=>Nat.blt d n|none=>true)=true:=by
 intro l;induction l with
 |nil=>intro i _ h;simp at h
 | cons o' l ih=>
  intro i h hi;obtain⟨h1,h2⟩:=BC h;cases i with
  |zero=>
   simp only[List.getElem?_cons_zero,Option.some.injEq]at hi;subst hi;exact h1
  |succ i=>
   simp only[List.getElem?_cons_succ]at hi;exact ih i h2 hi
theorem FC:∀{t:Nat} {l:List Nat},t∈l→wu t l=true
 | t,c::l,h=>by
  simp only[wu];cases hb:Nat.beq t c with
  |true=>rfl
  |false=>
   rcases List.mem_cons.1 h with rfl|h
   ·simp at hb
   ·exact FC h
theorem Mj {all:Array Oper}{o:Oper}(h:y7 P o.op=true)(h1 h2:af):roG P all ρ o h1=roG P all ρ o h2:=by
 have:roV P ρ o.op h1=roV P ρ o.op h2:=by
  cases ho:o.op with
  | binOp op t x y z=>
   rw[ho]at h;have h:(match Jm P t with| .p=>Ou x||Ou y|_=>true)=true:=h;unfold roV;cases he:Jm P t with
   |p=>
    rw[he]at h;have h:(Ou x||Ou y)=true:=h;simp only[h]
   |_=>simp only[he]
  |_=>first|rfl|(rename_i m;cases m<;>rfl)|(exfalso;rw[ho]at h;cases h)
 unfold roG;rw[this]
def Cx (ops:Array Oper)(listed:Array Bool):Prop:=
 ∀k o,ops[k]? =some o→listed.getD k false=true→∀e∈o.after,Region.binds .any e=true→listed.getD e.on false=true
theorem Cx.step {ops:Array Oper}{listed:Array Bool}{j:Nat}(h:Cx ops listed)(hj:j∈Region.ready .any ops listed):Cx ops (listed.setIfInBounds j true):=by
 intro k o hk hl e he hb;refine getD_set_true ?_;by_cases hkj:k=j
 ·subst hkj;obtain⟨_,o',ho',hall⟩:=mem_ready.1 hj;rw[hk]at ho';cases ho';exact hall e he hb
 ·exact h k o hk (by rw[←getD_set_ne false (Ne.symm hkj)];exact hl) e he hb
theorem FB {ops:Array Oper}{listed:Array Bool}(h:Cx ops listed){i:Nat}:∀(n k:Nat),pA ops n k i=true→(∀o,ops[k]? =some o→∀e∈o.after,Region.binds .any e=true→listed.getD e.on false=true)→listed.getD i false=true
 |0,k,hp,_=>by simp[pA]at hp
 | n+1,k,hp,hk=>by
  unfold pA at hp;cases ho:ops[k]? with
  |none=>simp[ho]at hp
  |some o=>
   simp only[ho,Array.any_eq_true',Bool.and_eq_true,Bool.or_eq_true,beq_iff_eq]at hp;obtain⟨e,he,hb,hp⟩:=hp;have hl:=hk o ho e he hb;rcases hp with rfl|hp
   ·exact hl
   ·exact FB h n e.on hp λo' ho' e' he' hb'=>h e.on o' ho' hl e' he' hb'
theorem Vj (m e i:Nat):ng (Nat.lor m (Nat.pow 2 e)) i=true→ng m i=true∨i=e:=by
 have hb:∀m t,ng m t=m.testBit t:=by
  intro m t;unfold ng;have h1:Nat.land (Nat.shiftRight m t) 1=(m>>>t)%2:=Nat.and_one_is_mod _;rw[h1,Nat.shiftRight_eq_div_pow,Nat.testBit_eq_decide_div_mod_eq];cases h:Nat.beq (m/2^t%2) 1 with
  |true=>simp[Nat.eq_of_beq_eq_true h]
  |false=>have:¬m/2^t%2=1:=Nat.ne_of_beq_eq_false h;simp[this]
 rw[hb,hb];intro h;have h:(m|||2^e).testBit i=true:=h;rw[Nat.testBit_or,Nat.testBit_two_pow,Bool.or_eq_true,decide_eq_true_eq]at h;rcases h with h|h
 ·exact .inl h
 ·exact .inr h.symm
theorem Hq {ops:Array Oper}{j i:Nat}{o:Oper}(ho:ops[j]? =some o){e:Edge}(he:e∈o.after)(hb:Region.binds .any e=true)(hi:e.on=i):∀(n k:Nat),pA ops n k j=true→∃n,pA ops n k i=true
 |0,k,h=>by simp[pA]at h
 | n+1,k,h=>by
  unfold pA at h;cases hk:ops[k]? with
  |none=>simp[hk]at h
  | some o'=>
   simp only[hk,Array.any_eq_true',Bool.and_eq_true,Bool.or_eq_true,beq_iff_eq]at h;obtain⟨e',he',hb',h⟩:=h;have fin:∀m,pA ops m e'.on i=true→∃n,pA ops n k i=true:=λm hm=>⟨m+1,by
    unfold pA;simp only[hk,Array.any_eq_true',Bool.and_eq_true,Bool.or_eq_true,beq_iff_eq];exact⟨e',he',hb',.inr hm⟩⟩
   rcases h with h|h
   ·refine fin 1 ?_;unfold pA;rw[h];simp only[ho,Array.any_eq_true',Bool.and_eq_true,Bool.or_eq_true,beq_iff_eq];exact⟨e,he,hb,.inl hi⟩
   ·obtain⟨m,hm⟩:=Hq ho he hb hi n e'.on h;exact fin m hm
theorem ER {i:Nat}:∀(l:List Edge) (m:Nat),ng (OX l m) i=true→ng m i=true∨∃e∈l,Region.binds .any e=true∧e.on=i
 | [],m,h=>.inl h
 | e::l,m,h=>by
  unfold OX at h;rcases ER l _ h with h1|⟨e',h1,h2⟩
  ·cases hb:Region.binds .any e with
   |true=>
    simp only[hb]at h1;rcases Vj _ _ _ h1 with h1|h1
    ·exact .inl h1
    ·exact .inr ⟨e,by simp,hb,h1.symm⟩
   |false=>
    simp only[hb]at h1;exact .inl h1
  ·exact .inr ⟨e',by simp[h1],h2⟩
theorem Pz {ops:Array Oper}{k:Nat}:∀(j m:Nat),(∀i,ng m i=true→∃n,pA ops n k i=true)→∀i,ng (Xi ops j m) i=true→∃n,pA ops n k i=true
 |0,m,H,i,h=>H i h
 | j +1,m,H,i,h=>by
  unfold Xi at h;refine Pz j _ ?_ i h;intro i h;cases hb:ng m j with
  |false=>simp only[hb]at h;exact H i h
  | true=>
   simp only[hb]at h;cases ho:ops[j]? with
   |none=>simp only[ho]at h;exact H i h
   | some o=>
    simp only[ho]at h;rcases ER _ _ h with h|⟨e,h1,h2,h3⟩
    ·exact H i h
    ·obtain⟨n,hn⟩:=H j hb;exact Hq ho (by simpa using h1) h2 h3 n k hn
theorem N9 {ops:Array Oper}{k i:Nat}(h:T5 ops k i=true):∃n,pA ops n k i=true:=by
 refine Pz ops.size _ ?_ i h;intro i h;cases ho:ops[k]? with
 |none=>
  simp only[ho]at h;simp[ng,Nat.shiftRight_eq_div_pow]at h
 | some o=>
  simp only[ho]at h;rcases ER _ _ h with h|⟨e,h1,h2,h3⟩
  ·have:Nat.land (Nat.shiftRight 0 i) 1=0:=by
    have h1:Nat.land (Nat.shiftRight 0 i) 1=(0>>>i)%2:=Nat.and_one_is_mod _;rw[h1,Nat.shiftRight_eq_div_pow];simp
   unfold ng at h;rw[this]at h;cases h
  ·refine⟨1,?_⟩;unfold pA;simp only[ho,Array.any_eq_true',Bool.and_eq_true,Bool.or_eq_true,beq_iff_eq];exact⟨e,by simpa using h1,h2,.inl h3⟩
def ns (P:Program)(ops:Array Oper)(Q:Exit→Act→World→Prop)(S:World→Prop)(F:Nat→Bool):Nat→Array Bool→Act→World→Prop
 |0,listed,a,w=>Region.ready .any ops listed=[]∧Q .normal a w
 |fuel+1,listed,a,w=>
  (Region.ready .any ops listed=[]→Q .normal a w)∧
  ∀i∈Region.ready .any ops listed,wpOp P ops Q i (λa' w'=>if F i=true then wpAny P .any ops Q fuel (listed.setIfInBounds i true) a' w' else S w'∧ns P ops Q S F fuel (listed.setIfInBounds i true) a' w') a w
theorem rz {P:Program}{ops:Array Oper}{Q:Exit→Act→World→Prop}{S:World→Prop}{F:Nat→Bool}:∀(fuel:Nat) (listed:Array Bool) (a:Act) (w:World),ns P ops Q S F fuel listed a w→wpAny P .any ops Q fuel listed a w
 |0,_,_,_,h=>h
 | fuel+1,_,_,_,h=>⟨h.1,λi hi=>wpOp_mono (λa' w' h'=>by
   split at h'
   ·exact h'
   ·exact rz fuel _ a' w' h'.2) (h.2 i hi)⟩
theorem L8 {P:Program}{ops:Array Oper}{Q:Exit→Act→World→Prop}{S:World→Prop}{F:Nat→Bool}{i:Nat}{oi:Oper}{v:Value}(hi:ops[i]? =some oi)(hsel:∀(j:Nat) (o:Oper) cs b,ops[j]? =some o→o.op≠ .select cs b)
  (hQ:∀c a w,Q (.panic c) (a.put oi.dst v) w→Q (.panic c) a w) (hFi:F i=false) (hF:∀k,F k=true→∃n,pA ops n k i=true):
  ∀(fuel:Nat) (listed:Array Bool) (a:Act) (w:World),
   (∀j oj,ops[j]? =some oj→j≠i→listed.getD j true=false→(∀e∈oj.after,Region.binds .any e=true→e.on≠i)→oi.apart ops oj=true)→
   Cx ops listed→i∈Region.ready .any ops listed→YieldsIf P ops S oi v a→S w→
   ns P ops Q S F fuel (listed.setIfInBounds i true) (a.put oi.dst v) w→ns P ops Q S F (fuel+1) listed a w:=by
 have notF:∀{listed:Array Bool} {j:Nat},Cx ops listed→i∈Region.ready .any ops listed→j∈Region.ready .any ops listed→¬F j=true:=by
  intro listed j hc hr hj hfj;obtain⟨n,hn⟩:=hF j hfj;obtain⟨_,oj,hoj,hall⟩:=mem_ready.1 hj;have h1:=FB hc n j hn λo ho e he hb=>by rw[hoj]at ho;cases ho;exact hall e he hb
  have h0:=(mem_ready.1 hr).1;rcases Nat.lt_or_ge i listed.size with h'|h'
  ·simp[h']at h0 h1;rw[h0]at h1;cases h1
  ·simp[Array.getElem?_eq_none h']at h1
 have hnF:¬F i=true:=by rw[hFi];simp
 intro fuel;induction fuel with
 | zero=>
  intro listed a w _ hc hr hy hS H;refine⟨λh=>(by rw[h]at hr;cases hr),λj hj=>?_⟩;by_cases hji:j=i
  ·subst hji;exact hy.wpOp hi hS (by rw[if_neg hnF];exact⟨hS,H⟩)
  ·have:=ready_mono hj hji;rw[H.1]at this;cases this
 | succ fuel ih=>
  intro listed a w hfree hc hr hy hS H;refine⟨λh=>(by rw[h]at hr;cases hr),λj hj=>?_⟩;by_cases hji:j=i
  ·subst hji;exact hy.wpOp hi hS (by rw[if_neg hnF];exact⟨hS,H⟩)
  ·have h1:=H.2 j (ready_mono hj hji);have hnFj:=notF hc hr hj;simp only[if_neg hnFj]at h1 ⊢;obtain⟨hjun,oj,hoj,hall⟩:=mem_ready.1 hj;have hnot:∀e∈oj.after,Region.binds .any e=true→e.on≠i:=λe he hb heq=>by
    have h1:=hall e he hb;have h0:=(mem_ready.1 hr).1;rw[heq]at h1;rcases Nat.lt_or_ge i listed.size with h'|h'
    ·simp[h']at h0 h1;rw[h0]at h1;cases h1
    ·simp[Array.getElem?_eq_none h']at h1
   have h2:=wpOp_putIf hoj (hfree j oj hoj hji hjun hnot) (λcs b=>hsel i oi cs b hi) (λcs b=>hsel j oj cs b hoj) hQ hy h1;have hfree':∀k ok,ops[k]? =some ok→k≠i→(listed.setIfInBounds j true).getD k true=false→
     (∀e∈ok.after,Region.binds .any e=true→e.on≠i)→oi.apart ops ok=true:=λk ok hk hki hun hno=>by
    refine hfree k ok hk hki ?_ hno;by_cases hjk:j=k
    ·subst hjk;exact hjun
    ·rw[getD_set_ne true hjk]at hun;exact hun
   refine wpOp_mono (λa' w' h3=>⟨h3.2.1,ih (listed.setIfInBounds j true) a' w' hfree' (hc.step hj) (ready_mono hr (Ne.symm hji)) h3.1 h3.2.1 ?_⟩) h2;rw[Array.setIfInBounds_comm _ _ hji];exact h3.2.2
theorem J0 {P:Program}{ops:Array Oper}{Q:Exit→Act→World→Prop}{S:World→Prop}{F:Nat→Bool}{i:Nat}{oi:Oper}{v:Value}(hi:ops[i]? =some oi)(hsel:∀(j:Nat) (o:Oper) cs b,ops[j]? =some o→o.op≠ .select cs b)
  (hQ:∀c a w,Q (.panic c) (a.put oi.dst v) w→Q (.panic c) a w) (hFi:F i=false):
  ∀(fuel:Nat) (listed:Array Bool) (a:Act) (w:World),
   (∀j oj,ops[j]? =some oj→j≠i→listed.getD j true=false→(∀e∈oj.after,Region.binds .any e=true→e.on≠i)→oi.apart ops oj=true)→
   i∈Region.ready .any ops listed→Yields P ops oi v a→S w→
   ns P ops Q S F fuel (listed.setIfInBounds i true) (a.put oi.dst v) w→ns P ops Q S F (fuel+1) listed a w:=by
 have hnF:¬F i=true:=by rw[hFi];simp
 intro fuel;induction fuel with
 | zero=>
  intro listed a w _ hr hy hS H;refine⟨λh=>(by rw[h]at hr;cases hr),λj hj=>?_⟩;by_cases hji:j=i
  ·subst hji;exact hy.wpOp hi (by rw[if_neg hnF];exact⟨hS,H⟩)
  ·have:=ready_mono hj hji;rw[H.1]at this;cases this
 | succ fuel ih=>
  intro listed a w hfree hr hy hS H;refine⟨λh=>(by rw[h]at hr;cases hr),λj hj=>?_⟩;by_cases hji:j=i
  ·subst hji;exact hy.wpOp hi (by rw[if_neg hnF];exact⟨hS,H⟩)
  ·have h1:=H.2 j (ready_mono hj hji);obtain⟨hjun,oj,hoj,hall⟩:=mem_ready.1 hj;have hnot:∀e∈oj.after,Region.binds .any e=true→e.on≠i:=λe he hb heq=>by
    have h1:=hall e he hb;have h0:=(mem_ready.1 hr).1;rw[heq]at h1;rcases Nat.lt_or_ge i listed.size with h'|h'
    ·simp[h']at h0 h1;rw[h0]at h1;cases h1
    ·simp[Array.getElem?_eq_none h']at h1
   have h2:=wpOp_put hoj (hfree j oj hoj hji hjun hnot) (λcs b=>hsel i oi cs b hi) (λcs b=>hsel j oj cs b hoj) hQ hy h1;have hfree':∀k ok,ops[k]? =some ok→k≠i→(listed.setIfInBounds j true).getD k true=false→
     (∀e∈ok.after,Region.binds .any e=true→e.on≠i)→oi.apart ops ok=true:=λk ok hk hki hun hno=>by
    refine hfree k ok hk hki ?_ hno;by_cases hjk:j=k
    ·subst hjk;exact hjun
    ·rw[getD_set_ne true hjk]at hun;exact hun
   refine wpOp_mono (λa' w' h3=>?_) h2;obtain⟨hy',h3⟩:=h3;by_cases hF:F j=true
   ·rw[if_pos hF]at h3 ⊢;rw[Array.setIfInBounds_comm _ _ (Ne.symm hji)]at h3;exact wpAny_first hi hsel hQ fuel (listed.setIfInBounds j true) a' w' hfree' (ready_mono hr (Ne.symm hji)) hy' h3
   ·rw[if_neg hF]at h3 ⊢;refine⟨h3.1,ih (listed.setIfInBounds j true) a' w' hfree' (ready_mono hr (Ne.symm hji)) hy' h3.1 ?_⟩;rw[Array.setIfInBounds_comm _ _ hji];exact h3.2
theorem Fj {P:Program}{ops:Array Oper}{Q:Exit→Act→World→Prop}{S:World→Prop}{F F':Nat→Bool}(hF:∀k,F k=true→F' k=true):∀(fuel:Nat) (listed:Array Bool) (a:Act) (w:World),ns P ops Q S F fuel listed a w→ns P ops Q S F' fuel listed a w
 |0,_,_,_,h=>h
 | fuel+1,_,_,_,h=>⟨h.1,λi hi=>wpOp_mono (λa' w' h'=>by
   by_cases h1:F i=true
   ·rw[if_pos h1]at h';rw[if_pos (hF i h1)];exact h'
   ·rw[if_neg h1]at h';by_cases h2:F' i=true
    ·rw[if_pos h2];exact rz fuel _ a' w' h'.2
    ·rw[if_neg h2];exact⟨h'.1,Fj hF fuel _ a' w' h'.2⟩) (h.2 i hi)⟩
theorem Nr {P:Program}{ops:Array Oper}{Q:Exit→Act→World→Prop}{S:World→Prop}{F:Nat→Bool}{listed:Array Bool}{a:Act}{w:World}(h0:Region.ready .any ops listed=[])(hQ:Q .normal a w):∀fuel,ns P ops Q S F fuel listed a w
 |0=>⟨h0,hQ⟩
 |fuel+1=>⟨λ_=>hQ,λi hi=>by rw[h0]at hi;cases hi⟩
theorem Bi {ops:Array Oper}{listed:Array Bool}:∀(t:PT) (gs:List Nat),lP P ops t false gs listed=true→Region.ready .any ops listed≠[]
 | .nil,gs,h=>by simp[lP]at h
 | .op i q t,gs,h=>by
  intro h0;cases q<;>simp[lP,h0]at h
 | .alt x y,gs,h=>by
  simp only[lP,Bool.and_eq_true,cond_false]at h;exact Bi x gs h.2.1
theorem iC [jz P]{all:Array Oper}{Q:Ex→Env→af→Prop}{Q':Exit→Act→World→Prop}{ρ0:Env}{w0:World}(hns:Region.noSelect all=true)(hok:Bk n all.toList=true)
  (hQp:∀c a w,¬Q' (.panic c) a w):∀(plan:PT) (root:Bool) (fs:List Nat) (S:af→Prop) (listed:Array Bool) (ρ:Env) (a:Act) (w:World) (fuel:Nat),lP P all plan root fs listed=true→uB plan≤fuel→Cx all listed→Rel n a ρ→(∀t,wu t (all.toList.filterMap (·.dst))=false→ρ t=ρ0 t)→cV w0 w→S w.heap→
  zv P all plan S ρ w.heap (Q .nx)→(∀e a' w',D8 n ρ0 (all.toList.filterMap (·.dst)) w0 Q e a' w'→Q' e a' w')→
  (root=true→ns P all Q' (λw=>S w.heap) (λj=>(fN plan).contains j) fuel listed a w)∧
  (root=false→(∀k,(fN plan).contains k=true→fs.contains k=true)→∀i∈Region.ready .any all listed,i∈sw plan→∃fuel',fuel=fuel'+1∧
   wpOp P all Q' i (λa' w'=>if fs.contains i=true then wpAny P .any all Q' fuel' (listed.setIfInBounds i true) a' w' else S w'.heap∧ns P all Q' (λw=>S w.heap) (λj=>fs.contains j) fuel' (listed.setIfInBounds i true) a' w') a w)
 | .nil,root,fs,S,listed,ρ,a,w,fuel,hp,hf,hcl,hr,hρ,hs,hS,h,hQ=>by
  simp only[lP,Bool.and_eq_true]at hp;refine⟨λ_=>Nr (by simpa using hp.2) (hQ _ _ _ ⟨ρ,hr,hρ,hs,h⟩) fuel,λh0=>?_⟩;rw[h0]at hp;cases hp.1
 | .alt x y,root,fs,S,listed,ρ,a,w,fuel,hp,hf,hcl,hr,hρ,hs,hS,h,hQ=>by
  simp only[lP,Bool.and_eq_true]at hp;obtain⟨hp0,hp1,hp2⟩:=hp;rw[Tp]at h;have hfx:uB x≤fuel:=Nat.le_trans (Nat.le_max_left _ _) hf;have hfy:uB y≤fuel:=Nat.le_trans (Nat.le_max_right _ _) hf;have key:∀gs:List Nat,lP P all x false gs listed=true→lP P all y false gs listed=true→(∀k,(fN x++fN y).contains k=true→gs.contains k=true)→∀i∈Region.ready .any all listed,i∈sw (.alt x y)→∃fuel',fuel=fuel'+1∧
    wpOp P all Q' i (λa' w'=>if gs.contains i=true then wpAny P .any all Q' fuel' (listed.setIfInBounds i true) a' w' else S w'.heap∧ns P all Q' (λw=>S w.heap) (λj=>gs.contains j) fuel' (listed.setIfInBounds i true) a' w') a w:=by
   intro gs g1 g2 g3 i hi hih;rcases List.mem_append.1 hih with hih|hih
   ·exact(iC hns hok hQp x false gs S listed ρ a w fuel g1 hfx hcl hr hρ hs hS h.1 hQ).2 rfl (λk hk=>g3 k (by simp at hk ⊢;exact .inl hk)) i hi hih
   ·exact(iC hns hok hQp y false gs S listed ρ a w fuel g2 hfy hcl hr hρ hs hS h.2 hQ).2 rfl (λk hk=>g3 k (by simp at hk ⊢;exact .inr hk)) i hi hih
  refine⟨λh0=>?_,λh0 hk=>?_⟩
  ·subst h0;simp only[cond_true]at hp0 hp1 hp2;have k2:=key _ hp1 hp2 (λk hk=>hk);have hne:=Bi x _ hp1;cases fuel with
   |zero=>
    obtain⟨i,hi⟩:=List.exists_mem_of_ne_nil _ hne;have:=List.all_eq_true.1 hp0 i hi;obtain⟨fuel',h1,_⟩:=k2 i hi (by simpa[sw]using this);cases h1
   | succ fuel=>
    refine⟨λhnone=>absurd hnone hne,λi hi=>?_⟩
    ·have hih:=List.all_eq_true.1 hp0 i hi;obtain⟨fuel',h1,h2⟩:=k2 i hi (by simpa[sw]using hih);cases h1;exact h2
  ·subst h0;simp only[cond_false]at hp1 hp2;exact key fs hp1 hp2 (λk hk'=>hk k hk')
 | .op i q plan,root,fs,S,listed,ρ,a,w,fuel,hp,hf,hcl,hr,hρ,hs,hS,h,hQ=>by
  obtain⟨fuel,rfl⟩:∃f,fuel=f+1:=⟨fuel-1,by simp only[uB]at hf;omega⟩
  have hf':uB plan≤fuel:=by simp only[uB]at hf;omega
  simp only[lP,Bool.and_eq_true]at hp;obtain⟨hp1,hp2⟩:=hp;rw[Q8]at h;cases hi:all[i]? with
  |none=>simp[hi]at h
  | some o=>
   simp only[hi]at h;have hd:=Sp (o:=o) all.toList i hok (by simpa using hi);have hρ':∀v t,wu t (all.toList.filterMap (·.dst))=false→up ρ o.dst v t=ρ0 t:=by
    intro v t ht;rw[←hρ t ht];cases hdst:o.dst with
    |none=>rfl
    | some d=>
     simp only[up];cases hb:Nat.beq t d with
     |false=>rfl
     |true=>
      have htd:=Nat.eq_of_beq_eq_true hb;subst htd;rw[FC (List.mem_filterMap.2 ⟨o,List.mem_of_getElem? (i:=i) (by simpa using hi),hdst⟩)]at ht;cases ht
   cases q with
   | r =>
    simp only[Bool.and_eq_true]at hp1;obtain⟨hroot,⟨hfree,hready⟩,hnext⟩:=hp1;refine⟨λ_=>?_,λh0=>by rw[hroot]at h0;cases h0⟩;have hin:i∈Region.ready .any all listed:=by simpa using hready
    simp only at h;have hall:∀k,(fN plan).contains k=true→¬k=i∧(P7 P all i=true∨T5 all k i=true):=by
     intro k hk;have:=List.all_eq_true.1 hnext k (by simpa using hk);simpa using this
    have hFi:(fN plan).contains i=false:=by
     rw[Bool.eq_false_iff];intro hc;exact(hall i hc).1 rfl
    cases hl:y7 P o.op with
    |false=>
     simp only[hl]at h;obtain⟨v,hv,hK⟩:=h;have ih:=(iC hns hok hQp plan true [] S _ _ _ w fuel hp2 hf' (hcl.step hin) (hr.put hd v) (hρ' v) hs hS hK hQ).1 rfl;refine L8 (F:=λj=>(fN plan).contains j) hi (Region.noSelect_spec hns) (λc a w hq=>absurd hq (hQp _ _ _)) hFi ?_ fuel listed a w (Region.free_spec hi hfree) hcl hin (Fi hr hS hv) hS ih;intro k hk;rcases(hall k hk).2 with h1|h1
     ·simp[P7,hi,hl]at h1
     ·exact N9 h1
    | true=>
     simp only[hl]at h;have h:=TL h;cases hg:roG P all ρ o w.heap with
     |none=>rw[hg]at h;exact h.elim
     | some r=>
      rw[hg]at h;simp only[vK]at h;split at h
      ·rename_i v;have ih:=(iC hns hok hQp plan true [] S _ _ _ w fuel hp2 hf' (hcl.step hin) (hr.put hd v) (hρ' v) hs hS h hQ).1 rfl;have hyI:=Fi (all:=all) (S:=λ_=>True) (v:=v) (h0:=w.heap) hr trivial (λh' _=>by rw[Mj hl h' w.heap,hg]);have hy:Yields P all o v a:=hyI.imp (λ⟨g1,g2⟩=>⟨g1,λw=>g2 w trivial⟩) id;exact J0 (F:=λj=>(fN plan).contains j) hi (Region.noSelect_spec hns) (λc a w hq=>absurd hq (hQp _ _ _)) hFi fuel listed a w (Region.free_spec hi hfree) hin hy hS ih
      ·exact h.elim
   | e=>
    simp only[Bool.and_eq_true,Bool.not_eq_true']at hp1;obtain⟨hready,hnext⟩:=hp1;have step:∀gs:List Nat,gs.contains i=false→(∀k,(fN plan).contains k=true→gs.contains k=true)→i∈Region.ready .any all listed→
      wpOp P all Q' i (λa' w'=>if gs.contains i=true then wpAny P .any all Q' fuel (listed.setIfInBounds i true) a' w' else S w'.heap∧ns P all Q' (λw=>S w.heap) (λj=>gs.contains j) fuel (listed.setIfInBounds i true) a' w') a w:=by
     intro gs hg hsub hin;refine xL hi hr h λv w' hs' hK=>?_
     refine Eq.mpr (if_neg (by rw[hg];exact Bool.false_ne_true)) ?_;exact⟨hK.1,Fj hsub _ _ _ _ ((iC hns hok hQp plan true [] S _ _ _ w' fuel hp2 hf' (hcl.step hin) (hr.put hd v) (hρ' v) (hs.trans hs') hK.1 hK.2 hQ).1 rfl)⟩
    refine⟨λh0=>?_,λh0 hsub j hj hjh=>?_⟩
    ·subst h0;simp only[cond_true]at hready hnext;have hready:Region.ready .any all listed=[i]:=by simpa using hready
     refine⟨λh0=>(by rw[h0]at hready;cases hready),λj hj=>?_⟩;obtain rfl:j=i:=by rw[hready]at hj;simpa using hj
     exact step (fN plan) hnext (λk hk=>hk) hj
    ·subst h0;obtain rfl:j=i:=by simpa[sw]using hjh
     simp only[cond_false]at hnext;exact⟨fuel,rfl,step fs hnext hsub hj⟩
   | f=>
    have step:i∈Region.ready .any all listed→wpOp P all Q' i (λa' w'=>wpAny P .any all Q' fuel (listed.setIfInBounds i true) a' w') a w:=by
     intro hin;refine xL hi hr h λv w' hs' hK=>?_
     obtain⟨S',hS',hK⟩:=hK;exact rz _ _ _ _ ((iC hns hok hQp plan true [] S' _ _ _ w' fuel hp2 hf' (hcl.step hin) (hr.put hd v) (hρ' v) (hs.trans hs') hS' hK hQ).1 rfl)
    refine⟨λh0=>?_,λh0 hsub j hj hjh=>?_⟩
    ·subst h0;have hready:Region.ready .any all listed=[i]:=by simpa using hp1
     refine⟨λh0=>(by rw[h0]at hready;cases hready),λj hj=>?_⟩;obtain rfl:j=i:=by rw[hready]at hj;simpa using hj
     exact wpOp_mono (λa' w' h'=>Eq.mpr (if_pos (by simp[fN])) h') (step hj)
    ·obtain rfl:j=i:=by simpa[sw]using hjh
     exact⟨fuel,rfl,wpOp_mono (λa' w' h'=>Eq.mpr (if_pos (hsub j (by simp[fN]))) h') (step hj)⟩
   | n=>
    have step:i∈Region.ready .any all listed→wpOp P all Q' i (λa' w'=>wpAny P .any all Q' fuel (listed.setIfInBounds i true) a' w') a w:=by
     intro hin;refine xL hi hr h λv w' hs' hK=>?_
     exact rz _ _ _ _ ((iC hns hok hQp plan true [] (λ_=>True) _ _ _ w' fuel hp2 hf' (hcl.step hin) (hr.put hd v) (hρ' v) (hs.trans hs') trivial hK hQ).1 rfl)
    refine⟨λh0=>?_,λh0 hsub j hj hjh=>?_⟩
    ·subst h0;have hready:Region.ready .any all listed=[i]:=by simpa using hp1
     refine⟨λh0=>(by rw[h0]at hready;cases hready),λj hj=>?_⟩;obtain rfl:j=i:=by rw[hready]at hj;simpa using hj
     exact wpOp_mono (λa' w' h'=>Eq.mpr (if_pos (by simp[fN])) h') (step hj)
    ·obtain rfl:j=i:=by simpa[sw]using hjh
     exact⟨fuel,rfl,wpOp_mono (λa' w' h'=>Eq.mpr (if_pos (hsub j (by simp[fN]))) h') (step hj)⟩
theorem te {ws:Nat}:∀{l:List Nat},zU ws l=true→∀{t:Nat},ng ws t=false→wu t l=false
 | [],_,_,_=>rfl
 | c::l,h,t,ht=>by
  simp only[zU,Bool.and_eq_true]at h;simp only[wu];cases hb:Nat.beq t c with
  |true=>
   have:=Nat.eq_of_beq_eq_true hb;subst this;rw[h.1]at ht;cases ht
  |false=>exact te h.2 ht
theorem Ca {ρ ρ':Env}{ws:Nat}{cs:List Nat}(h:∀t,ng ws t=false→ρ' t=ρ t):Jb ρ ρ' ws cs (cs.map ρ')=ρ':=by
 funext t
 have key:∀(cs:List Nat) (k:Nat),match Le t k cs with|some i=>k≤i∧cs[i-k]? =some t|none=>True:=by
  intro cs;induction cs with
  |nil=>intro k;simp[Le]
  | cons c cs ih=>
   intro k;simp only[Le];cases hb:Nat.beq t c with
   |true=>have:=Nat.eq_of_beq_eq_true hb;subst this;simp
   | false=>
    simp only[cond_false];have:=ih (k+1);split
    ·rename_i i hi;rw[hi]at this;refine⟨by omega,?_⟩;rw[show i-k=(i-(k+1))+1 from by omega];simpa using this.2
    ·trivial
 have k0:=key cs 0;unfold Jb;cases hp:Le t 0 cs with
 |some i=>
  rw[hp]at k0;simp only;have:cs[i]? =some t:=by simpa using k0.2
  unfold ix;rw[List.getD_eq_getElem?_getD,List.getElem?_map,this];rfl
 |none=>
  simp only;cases hm:ng ws t with
  |true=>rfl
  |false=>exact(h t hm).symm
theorem Pv [jz P](hm:P.follows .mixedOrders=true):∀(c:Code) (an:Ann) (ρ:Env) (a:Act) (w:World) (Q:Ex→Env→af→Prop),fm P n c an=true→Rel n a ρ→L3 P c an ρ w.heap Q→
  c.wp P (D8 n ρ (fF c) w Q) a w:=by
 intro c;induction c with
 |skip=>intro an ρ a w Q _ hr h;exact wp_skip ⟨ρ,hr,λ_ _=>rfl,cV.refl w,h⟩
 |exit id=>intro an ρ a w Q _ hr h;exact wp_exit ⟨ρ,hr,λ_ _=>rfl,cV.refl w,h⟩
 |ret=>intro an ρ a w Q _ hr h;exact wp_ret ⟨ρ,hr,λ_ _=>rfl,cV.refl w,h⟩
 | region id ops draw=>
  intro an ρ a w Q hok hr h;have hops:Bk n ops.toList=true:=by simp only[fm,Bool.and_eq_true]at hok;exact hok.1
  have seqCase:Vh P ops ops.toList ρ w.heap (Q .nx)→(Code.region id ops false).wp P (D8 n ρ (fF (.region id ops false)) w Q) a w:=by
   intro h;refine wp_region ?_;have:=JK (Q:=Q) (Q':=D8 n ρ (ops.toList.filterMap (·.dst)) w Q) ops.toList 0 ρ a w (by simp) hops hr h (λ_ _ _ h=>h);rw[List.range_eq_range'];have e:wpOps P ops (D8 n ρ (ops.toList.filterMap (·.dst)) w Q) (List.range' 0 ops.size) a w:=by simpa using this
   exact e
  have roCase:Region.lexB .any ops=true→RZ P ops ops.toList ρ w.heap (Q .nx)→(Code.region id ops true).wp P (D8 n ρ (fF (.region id ops true)) w Q) a w:=by
   intro hl h;refine wp_region_quiet (C:=λw'=>cV w w'∧w'.heap=w.heap) hm hl ⟨G7 w,rfl⟩ ?_;refine FR (C:=λw'=>cV w w'∧w'.heap=w.heap) (λw' h=>h.2) ops.toList ρ a hops hr h λa' ρ2 g1 g2 g3 w' hw'=>?_
   exact⟨ρ2,g1,g2,hw'.1,by simp only[hw'.2];exact g3⟩
  have other:(∀plan,an≠ .d plan)→(Code.region id ops draw).wp P (D8 n ρ (fF (.region id ops draw)) w Q) a w:=by
   intro hne;cases draw with
   |false=>cases an<;>first|exact absurd rfl (hne _)|exact seqCase h
   |true=>cases an<;>first|exact absurd rfl (hne _)|exact roCase (by simp only[fm,Bool.and_eq_true]at hok;exact hok.2) h
  by_cases hd:∃plan,an=.d plan
  ·obtain⟨plan,rfl⟩:=hd;simp only[fm,Bool.and_eq_true]at hok;obtain⟨_,⟨⟨h1,h2⟩,h3⟩,h4⟩:=hok;subst h1;obtain⟨S,hS,h⟩:=h;refine wp_region_any hm ?_;have:=iC (P:=P) (Q:=Q) (Q':=D8 n ρ (ops.toList.filterMap (·.dst)) w Q) (ρ0:=ρ) (w0:=w) h2 hops (λc a w hq=>by obtain⟨_,_,_,_,hf⟩:=hq;exact hf)
    plan true [] S (Array.replicate ops.size false) ρ a {w with drawn:=w.drawn+1} ops.size h4 (Nat.le_of_ble_eq_true h3) (λk o hk hl=>by simp[Array.getElem?_replicate]at hl;split at hl<;>simp at hl) hr (λ_ _=>rfl) (G7 w) hS h (λ_ _ _ h=>h)
   exact rz _ _ _ _ (this.1 rfl)
  ·exact other (λplan he=>hd ⟨plan,he⟩)
 | seq x y ihx ihy=>
  intro an ρ a w Q hok hr h;have lift:∀{ρ1:Env} {w1:World} (_:∀t,wu t (fF x)=false→ρ1 t=ρ t) (_:cV w w1) (e:Exit) (a2:Act) (w2:World),D8 n ρ1 (fF y) w1 Q e a2 w2→D8 n ρ (fF (.seq x y)) w Q e a2 w2:=by
   intro ρ1 w1 h1 h2 e a2 w2 ⟨ρ2,g1,g2,g3,g4⟩;refine⟨ρ2,g1,λt ht=>?_,h2.trans g3,g4⟩;simp only[fF,pG,Bool.or_eq_false_iff]at ht;rw[g2 t ht.2,h1 t ht.1]
  have liftx:∀(e:Exit) (a2:Act) (w2:World),D8 n ρ (fF x) w Q e a2 w2→D8 n ρ (fF (.seq x y)) w Q e a2 w2:=by
   intro e a2 w2 ⟨ρ2,g1,g2,g3,g4⟩;refine⟨ρ2,g1,λt ht=>?_,g3,g4⟩;simp only[fF,pG,Bool.or_eq_false_iff]at ht;exact g2 t ht.1
  cases an with
  |s p q=>
   simp only[fm,Bool.and_eq_true]at hok;refine wp_seq (wp_mono (ihx p ρ a w _ hok.1 hr h) ?_);intro e a1 w1 ⟨ρ1,g1,g2,g3,g4⟩;cases e with
   |normal=>exact wp_mono (ihy q ρ1 a1 w1 Q hok.2 g1 g4) (lift g2 g3)
   |exit id=>exact liftx (.exit id) a1 w1 ⟨ρ1,g1,g2,g3,g4⟩
   |ret=>exact liftx .ret a1 w1 ⟨ρ1,g1,g2,g3,g4⟩
   |_=>exact g4.elim
  | j ws cs p q=>
   simp only[fm,Bool.and_eq_true]at hok;obtain⟨hws,hok⟩:=hok;obtain⟨J,h1,h2⟩:=h;refine wp_seq (wp_mono (ihx p ρ a w _ hok.1 hr h1) ?_);intro e a1 w1 ⟨ρ1,g1,g2,g3,g4⟩;cases e with
   |normal=>
    have this:L3 P y q (Jb ρ ρ1 ws cs (cs.map ρ1)) w1.heap Q:=h2 (cs.map ρ1) ρ1 w1.heap g4;rw[Ca (λt ht=>g2 t (te hws ht))]at this;exact wp_mono (ihy q ρ1 a1 w1 Q hok.2 g1 this) (lift g2 g3)
   |exit id=>exact liftx (.exit id) a1 w1 ⟨ρ1,g1,g2,g3,g4⟩
   |ret=>exact liftx .ret a1 w1 ⟨ρ1,g1,g2,g3,g4⟩
   |_=>exact g4.elim
  |_=>simp[fm]at hok
 | cond c x y ihx ihy=>
  intro an ρ a w Q hok hr h;cases an with
  | s p q=>
   simp only[fm,Bool.and_eq_true]at hok;have h:aA (ev ρ c) (L3 P x p ρ w.heap Q) (L3 P y q ρ w.heap Q):=h;unfold aA at h;split at h
   ·rename_i b hb;refine wp_cond (t:=b) (by rw[hr.eval];exact hb) ?_;cases b with
    |true=>
     refine wp_mono (ihx p ρ a w Q hok.1 hr h) ?_;intro e a2 w2 ⟨ρ2,g1,g2,g3,g4⟩;refine⟨ρ2,g1,λt ht=>?_,g3,g4⟩;simp only[fF,pG,Bool.or_eq_false_iff]at ht;exact g2 t ht.1
    |false=>
     refine wp_mono (ihy q ρ a w Q hok.2 hr h) ?_;intro e a2 w2 ⟨ρ2,g1,g2,g3,g4⟩;refine⟨ρ2,g1,λt ht=>?_,g3,g4⟩;simp only[fF,pG,Bool.or_eq_false_iff]at ht;exact g2 t ht.2
   ·exact h.elim
  |_=>simp[fm]at hok
 | block id x ih=>
  intro an ρ a w Q hok hr h;have plain:∀an',fm P n x an'=true→L3 P x an' ρ w.heap (λe ρ h=>match e with
   | .nx=>Q .nx ρ h
   | .br n=>bif Nat.beq n id then Q .nx ρ h else Q (.br n) ρ h
   | .rt=>Q .rt ρ h)→(Code.block id x).wp P (D8 n ρ (fF (.block id x)) w Q) a w:=by
   intro an' hok h;refine wp_block (wp_mono (ih an' ρ a w _ hok hr h) ?_);intro e a1 w1 ⟨ρ1,g1,g2,g3,g4⟩;cases e with
   |normal=>exact⟨ρ1,g1,g2,g3,g4⟩
   | exit id'=>
    simp only[Exit.inBlock];simp only at g4;by_cases hid:id'=id
    ·subst hid;rw[if_pos rfl];simp only[Nat.beq_refl]at g4;exact⟨ρ1,g1,g2,g3,g4⟩
    ·rw[if_neg hid];have hb:Nat.beq id' id=false:=by rw[Bool.eq_false_iff];intro hb;exact hid (Nat.eq_of_beq_eq_true hb)
     simp only[hb]at g4;exact⟨ρ1,g1,g2,g3,g4⟩
   |ret=>exact⟨ρ1,g1,g2,g3,g4⟩
   |_=>exact g4.elim
  cases an with
  | m ws cs p=>
   simp only[fm,Bool.and_eq_true]at hok;obtain⟨hws,hok⟩:=hok;obtain⟨J,h1,h2⟩:=h;refine wp_block (wp_mono (ih p ρ a w _ hok hr h1) ?_);intro e a1 w1 ⟨ρ1,g1,g2,g3,g4⟩;have meet:J (cs.map ρ1) w1.heap→Q .nx ρ1 w1.heap:=by
    intro hJ;have this:Q .nx (Jb ρ ρ1 ws cs (cs.map ρ1)) w1.heap:=h2 (cs.map ρ1) ρ1 w1.heap hJ
    rwa [Ca (λt ht=>g2 t (te hws ht))]at this
   cases e with
   |normal=>exact⟨ρ1,g1,g2,g3,meet g4⟩
   | exit id'=>
    simp only[Exit.inBlock];simp only at g4;by_cases hid:id'=id
    ·subst hid;rw[if_pos rfl];simp only[Nat.beq_refl]at g4;exact⟨ρ1,g1,g2,g3,meet g4⟩
    ·rw[if_neg hid];have hb:Nat.beq id' id=false:=by rw[Bool.eq_false_iff];intro hb;exact hid (Nat.eq_of_beq_eq_true hb)
     simp only[hb]at g4;exact⟨ρ1,g1,g2,g3,g4⟩
   |ret=>exact⟨ρ1,g1,g2,g3,g4⟩
   |_=>exact g4.elim
  |_=>exact plain _ hok h
 | loop x ih=>
  intro an ρ a w Q hok hr h;cases an with
  | l ws cs p=>
   simp only[fm,Bool.and_eq_true]at hok;obtain⟨hws,hok⟩:=hok;obtain⟨I,m,h0,h1⟩:=h
   let val:Act→Nat→Value:=λa t=>a.tmps.getD t undef
   refine wp_loop (λa' w'=>Rel n a' (val a')∧(∀t,wu t (fF x)=false→val a' t=ρ t)∧cV w w'∧I (cs.map (val a')) w'.heap) (λa' w'=>m (cs.map (val a')) w'.heap) ?_ ?_
   ·have e:val a=ρ:=funext hr.2.2;rw[e];exact⟨hr,λ_ _=>rfl,cV.refl w,h0⟩
   ·intro a' w' ⟨i1,i2,i3,i4⟩;have hb:=h1 (cs.map (val a')) (val a') w'.heap i4;simp only at hb;rw[Ca (λt ht=>i2 t (te hws ht))]at hb;refine wp_mono (ih p (val a') a' w' _ hok i1 hb) ?_;intro e a2 w2 ⟨ρ2,g1,g2,g3,g4⟩;have e2:val a2=ρ2:=funext g1.2.2;cases e with
    |normal=>
     simp only[Exit.then];rw[e2];exact⟨⟨g1,λt ht=>by rw[g2 t ht,i2 t ht],i3.trans g3,g4.1⟩,g4.2⟩
    |exit id=>exact⟨ρ2,g1,λt ht=>by rw[g2 t ht,i2 t ht],i3.trans g3,g4⟩
    |ret=>exact⟨ρ2,g1,λt ht=>by rw[g2 t ht,i2 t ht],i3.trans g3,g4⟩
    |_=>exact g4.elim
  |_=>simp[fm]at hok
 |_=>intro an ρ a w Q hok hr h;simp[fm]at hok
end
noncomputable def FV (P:Program)(rs:List ResultVar):List Value→Env→af→(Value→af→Prop)→Prop:=
 List.rec (motive:=λ_=>List Value→Env→af→(Value→af→Prop)→Prop)
  (λacc _ h R=>R (match acc with| [v]=>v|l=>.tuple l.reverse.toArray) h)
  (λr _ ih acc ρ h R=>match r with
   | .tmp t=>ih (ρ t::acc) ρ h R
   | .cell a t=>match w8 P t with
    |some false=>vK (ldV h (ρ a)) λv=>ih (v::acc) ρ h R
    |some true=>match dH P t with
     |some n=>vK (aH n h (ρ a)) λv=>ih (v::acc) ρ h R
     |none=>False
    |none=>False) rs
theorem TN {P:Program}{acc:List Value}{ρ:Env}{h:af}{R:Value→af→Prop}:FV P [] acc ρ h R=R (match acc with| [v]=>v|l=>.tuple l.reverse.toArray) h:=rfl
theorem TM {P:Program}{t:Tmp}{rs:List ResultVar}{acc:List Value}{ρ:Env}{h:af}{R:Value→af→Prop}:FV P (.tmp t::rs) acc ρ h R=FV P rs (ρ t::acc) ρ h R:=rfl
theorem Sk {P:Program}{a:Tmp}{t:TypeId}{rs:List ResultVar}{acc:List Value}{ρ:Env}{h:af}{R:Value→af→Prop}:FV P (.cell a t::rs) acc ρ h R=match w8 P t with
  |some false=>vK (ldV h (ρ a)) λv=>FV P rs (v::acc) ρ h R
  |some true=>match dH P t with
   |some n=>vK (aH n h (ρ a)) λv=>FV P rs (v::acc) ρ h R
   |none=>False
  |none=>False:=rfl
def UF (args:List Value):Env:=λt=>args.getD t undef
noncomputable def Xw (P:Program)(c:Code)(an:Ann)(rs:List ResultVar)(args:List Value)(h:af)(R:Value→af→Prop):Prop:=
 L3 P c an (UF args) h λe ρ h=>match e with
  | .nx=>FV P rs [] ρ h R
  | .rt=>FV P rs [] ρ h R
  | .br _=>False
theorem yD {P:Program} {w:World} {R:Value→af→Prop} {tmps:Array Value}:∀(rs:List ResultVar) (acc:List Value),FV P rs acc (λt=>tmps.getD t undef) w.heap R→
  ∃l,(rs.mapM (λ| .tmp t=>pure (tmps.getD t undef)| .cell a t=>do loadVar t (←asAddr (tmps.getD a undef)):ResultVar→Sem Value)).run P w=.ok l w∧R (match l.reverse++acc with| [v]=>v|l=>.tuple l.reverse.toArray) w.heap
 | [],acc,h=>⟨[],rfl,by rw[TN]at h;simpa using h⟩
 | .tmp t::rs,acc,h=>by
  rw[TM]at h;obtain⟨l,h1,h2⟩:=yD rs (tmps.getD t undef::acc) h;refine⟨tmps.getD t undef::l,?_,by simpa using h2⟩;simp only[List.mapM_cons,Sem.run_bind,Sem.run_pure,Result.andThen_ok,h1]
 | .cell a t::rs,acc,h=>by
  rw[Sk]at h;cases hta:w8 P t with
  |none=>simp[hta]at h
  | some b=>
   simp only[hta]at h;have key:∀v,(∃ad,tmps.getD a undef=.pointer (some ad)∧(loadVar t ad).run P w=.ok v w)→FV P rs (v::acc) (λt=>tmps.getD t undef) w.heap R→∃l,((ResultVar.cell a t::rs).mapM (λ| .tmp t=>pure (tmps.getD t undef)| .cell a t=>do loadVar t (←asAddr (tmps.getD a undef)):ResultVar→Sem Value)).run P w=.ok l w∧R (match l.reverse++acc with| [v]=>v|l=>.tuple l.reverse.toArray) w.heap:=by
    intro v ⟨ad,hp,hl⟩ h;obtain⟨l,h1,h2⟩:=yD rs (v::acc) h;refine⟨v::l,?_,by simpa using h2⟩;have has:(asAddr (tmps.getD a undef)).run P w=.ok ad w:=by rw[hp];rfl
    simp only[List.mapM_cons,Sem.run_bind,Sem.run_pure,Result.andThen_ok,has,hl,h1]
   cases b with
   | false=>
    simp only at h;unfold vK at h;split at h
    ·rename_i v hv;refine key v ?_ h;unfold ldV at hv;split at hv
     ·rename_i ad hp;exact⟨ad,hp,xv hta hv⟩
     ·cases hv
    ·exact h.elim
   | true=>
    simp only at h;cases hs:dH P t with
    |none=>simp[hs]at h
    | some n=>
     simp only[hs]at h;unfold vK at h;split at h
     ·rename_i v hv;refine key v ?_ h;unfold aH at hv;split at hv
      ·rename_i ad hp;cases hl:dx w.heap ad 0 n with
       |none=>simp[hl]at hv
       |some l=>
        simp only[hl,Option.map_some,Option.some.injEq]at hv;subst hv;exact⟨ad,hp,xx hta hs hl⟩
      ·cases hv
     ·exact h.elim
theorem PZ {P:Program}{ρ:Env}{w:World}{R:Value→af→Prop}{fn:Func}{tmps:Array Value}(ht:∀t,tmps.getD t undef=ρ t)(h:FV P fn.results.toList [] ρ w.heap R):
  ∃v,(results fn tmps).run P w=.ok v w∧R v w.heap:=by
 obtain rfl:ρ=λt=>tmps.getD t undef:=funext λt=>(ht t).symm
 obtain⟨l,h1,h2⟩:=yD _ [] h;have e:(fn.results.mapM (λ| .tmp t=>pure (tmps.getD t undef)| .cell a t=>do loadVar t (←asAddr (tmps.getD a undef)):ResultVar→Sem Value)).run P w=.ok l.toArray w:=by
  rw[Array.mapM_eq_mapM_toList,Sem.run_map,h1];rfl
 have hres:results fn tmps=(do
  let vs←fn.results.mapM (λ| .tmp t=>pure (tmps.getD t undef)| .cell a t=>do loadVar t (←asAddr (tmps.getD a undef)):ResultVar→Sem Value)
  pure (if h:vs.size=1 then vs[0]else .tuple vs)):=rfl
 rw[hres];simp only[Sem.run_bind];rw[e];simp only[Result.andThen_ok,Sem.run_pure];refine⟨_,rfl,?_⟩;cases l with
 |nil=>simpa using h2
 | cons v l=>
  cases l with
  |nil=>simpa using h2
  | cons u l=>
   have:¬((v::u::l).toArray.size=1):=by simp
   rw[dif_neg this];simp only[List.append_nil]at h2;split at h2
   ·rename_i hh;have:=congrArg List.length hh;simp at this
   ·simpa using h2
theorem UE {P:Program}[jz P](hm:P.follows .mixedOrders=true){f:FuncId}{fn:Func}{c:Code}{an:Ann}(hf:P.funcs[f]? =some fn)(hb:fn.body=some c)(hc:pD P f=true)
  (hok:fm P fn.ntmps c an=true) {args:Array Value} (ha:Nat.ble args.size fn.ntmps=true) {h:af} {R:Value→af→Prop} (H:Xw P c an fn.results.toList args.toList h R):ae P f args h R:=by
 refine ae.ofCalls hc λw hw=>?_
 subst hw;have ha':args.size≤fn.ntmps:=by simpa using ha
 have hr:Rel fn.ntmps {tmps:=args++Array.replicate (fn.ntmps-args.size) undef,defers:=[]} (UF args.toList):=by
  refine⟨by simp;omega,rfl,λt=>?_⟩;simp only[UF,Array.getD_eq_getD_getElem?,List.getD_eq_getElem?_getD,Array.getElem?_append,Array.getElem?_toList];split
  ·rfl
  ·rw[Array.getElem?_replicate,Array.getElem?_eq_none (by omega)];split<;>rfl
 refine calls_of_wp hf hb (wp_mono (Pv hm c an _ _ w _ hok hr H) ?_);intro e a' w' ⟨ρ2,g1,_,g3,g4⟩;have fin:FV P fn.results.toList [] ρ2 w'.heap R→a'.defers=[]∧∃v,(results fn a'.tmps).run P w'=.ok v w'∧∃u,Ending.returned v=.returned u∧cV w w'∧R u w'.heap:=by
  intro hret;obtain⟨v,h1,h2⟩:=PZ g1.2.2 hret;exact⟨g1.2.1,v,h1,v,rfl,g3,h2⟩
 cases e with
 |normal=>exact fin g4
 |ret=>exact fin g4
 |exit id=>exact g4.elim
 |_=>exact g4.elim
def fkB (P:Program)(f:FuncId)(fn:Func)(an:Ann)(n:Nat):Bool:=P.follows .mixedOrders&&(fn.body.isSome&&(pD P f&&(fm P fn.ntmps (fn.body.getD .skip) an&&Nat.ble n fn.ntmps)))
theorem fk {P:Program}[jz P](fn:Func)(an:Ann){f:FuncId}{args:Array Value}{h:af}{R:Value→af→Prop}{X:Prop}(H:X)
  (hf:P.funcs[f]? =some fn:=by kernel_rfl) (hb:fkB P f fn an args.size=true:=by kernel_rfl) (e:X=Xw P (fn.body.getD .skip) an fn.results.toList args.toList h R:=by kernel_rfl):ae P f args h R:=by
 unfold fkB at hb;simp only[Bool.and_eq_true]at hb;obtain⟨h1,h2,h3,h4,h5⟩:=hb;obtain⟨c,hc⟩:=Option.isSome_iff_exists.1 h2;rw[hc,Option.getD_some]at h4 e;exact UE h1 hf hc h3 h4 h5 (e.mp H)
end
end Go.Crisp
namespace Go.Crisp
open Go
theorem ah (v:Value)(K:Value→Prop):vK (some v) K=K v:=Eq.trans rfl rfl
theorem GE (r:Option (Array Value))(c:Array Value)(h:r=some c)(K:Value→Prop):vK (r.map .agg) K=K (.agg c):=by rw[h];rfl
theorem fI (x y:Prop):aA (.bool true) x y=x:=Eq.trans rfl rfl
theorem cf (x y:Prop):aA (.bool false) x y=y:=Eq.trans rfl rfl
theorem iH {b:Bool}{x y:Prop}(h1:b=true→x)(A:b=false→y):aA (.bool b) x y:=by
 cases b
 ·exact A rfl
 ·exact h1 rfl
theorem aj {p:Prop}[Decidable p]{x y:Prop}(h1:p→x)(A:¬p→y):aA (.bool (decide p)) x y:=
 iH (λh=>h1 (of_decide_eq_true h)) (λh=>A (of_decide_eq_false h))
theorem Wa (r:Option Value):gV (.bool true) true r=r:=Eq.trans rfl rfl
theorem ib (r:Option Value):gV (.bool false) false r=r:=Eq.trans rfl rfl
theorem gV_tf (r:Option Value):gV (.bool true) false r=some undef:=Eq.trans rfl rfl
theorem gV_ft (r:Option Value):gV (.bool false) true r=some undef:=Eq.trans rfl rfl
theorem XR (w:Bool)(r:Option Value):gV undef w r=some undef:=Eq.trans rfl rfl
theorem Wm (m:(Value→af→Prop)→Prop)(h:af)(K:Value→af→Prop):gK (.bool true) true m h K=m K:=Eq.trans rfl rfl
theorem Jg (m:(Value→af→Prop)→Prop)(h:af)(K:Value→af→Prop):gK (.bool false) false m h K=m K:=Eq.trans rfl rfl
theorem gK_tf (m:(Value→af→Prop)→Prop)(h:af)(K:Value→af→Prop):gK (.bool true) false m h K=K undef h:=Eq.trans rfl rfl
theorem gK_ft (m:(Value→af→Prop)→Prop)(h:af)(K:Value→af→Prop):gK (.bool false) true m h K=K undef h:=Eq.trans rfl rfl
theorem XX (w:Bool)(m:(Value→af→Prop)→Prop)(h:af)(K:Value→af→Prop):gK undef w m h K=K undef h:=Eq.trans rfl rfl
theorem Qa (x y:Value):az (.bool true) x y=some x:=Eq.trans rfl rfl
theorem tZ (x y:Value):az (.bool false) x y=some y:=Eq.trans rfl rfl
theorem gb (a:Value)(l:List Value):ix (a::l) 0=a:=Eq.trans rfl rfl
theorem uA (a b:Value)(l:List Value):ix (a::b::l) 1=b:=Eq.trans rfl rfl
theorem V5 (a b c:Value)(l:List Value):ix (a::b::c::l) 2=c:=Eq.trans rfl rfl
theorem XP (a b c d:Value)(l:List Value):ix (a::b::c::d::l) 3=d:=Eq.trans rfl rfl
theorem ix_4 (a b c d e:Value)(l:List Value):ix (a::b::c::d::e::l) 4=e:=Eq.trans rfl rfl
theorem ix_5 (a b c d e f:Value)(l:List Value):ix (a::b::c::d::e::f::l) 5=f:=Eq.trans rfl rfl
theorem cN (e:EK)(k:IntKind)(a b:Int):ag e .add (.int k a) (.int k b)=some (.int k (k.wrap (a+b))):=by simp[ag,DS]
theorem fO (e:EK)(k:IntKind)(a b:Int):ag e .sub (.int k a) (.int k b)=some (.int k (k.wrap (a-b))):=by simp[ag,DS]
theorem kr (e:EK)(k:IntKind)(a b:Int):ag e .mul (.int k a) (.int k b)=some (.int k (k.wrap (a*b))):=by simp[ag,DS]
theorem kq (e:EK)(k:IntKind)(a b:Int)(h:b≠0):ag e .quo (.int k a) (.int k b)=some (.int k (k.wrap (a.tdiv b))):=by simp[ag,DS,h]
theorem dc (e:EK)(k:IntKind)(a b:Int)(h:b≠0):ag e .rem (.int k a) (.int k b)=some (.int k (a.tmod b)):=by simp[ag,DS,h]
theorem bU (e:EK)(k:IntKind)(a b:Int):ag e .lss (.int k a) (.int k b)=some (.bool (decide (a<b))):=by simp[ag,DS]
theorem JN (e:EK)(k:IntKind)(a b:Int):ag e .leq (.int k a) (.int k b)=some (.bool (decide (a≤b))):=by simp[ag,DS]
theorem l8 (e:EK)(k:IntKind)(a b:Int):ag e .gtr (.int k a) (.int k b)=some (.bool (decide (b<a))):=by simp[ag,DS]
theorem JO (e:EK)(k:IntKind)(a b:Int):ag e .geq (.int k a) (.int k b)=some (.bool (decide (b≤a))):=by simp[ag,DS]
theorem sG (e:EK)(k:IntKind)(a b:Int):ag e .eql (.int k a) (.int k b)=some (.bool (decide (a=b))):=by
 simp[ag,DS];rw[Bool.eq_iff_iff];simp
theorem vH (e:EK)(k:IntKind)(a b:Int):ag e .neq (.int k a) (.int k b)=some (.bool (!decide (a=b))):=by
 simp[ag,DS];rw[Bool.eq_iff_iff];simp
theorem Vl (a b:Bool):ag .b .eql (.bool a) (.bool b)=some (.bool (a==b)):=Eq.trans rfl rfl
theorem Vk (a b:Bool):ag .b .neq (.bool a) (.bool b)=some (.bool !(a==b)):=Eq.trans rfl rfl
theorem Ri (b:Bool):unV .not (.bool b)=some (.bool !b):=Eq.trans rfl rfl
theorem Vy (k:IntKind)(a:Int):unV .neg (.int k a)=some (.int k (k.wrap (0-a))):=Eq.trans rfl rfl
theorem zi (k k':IntKind)(a:Int):eS k (.int k' a)=some (.int k (k.wrap a)):=Eq.trans rfl rfl
theorem IG (k:IntKind)(a b:Int):ia (.int k a) (.int k b)=some (.int k (max a b)):=by
 simp only[ia,Option.some.injEq,Value.int.injEq,true_and];split<;>omega
theorem ID (k:IntKind)(a b:Int):pF (.int k a) (.int k b)=some (.int k (min a b)):=by
 simp only[pF,Option.some.injEq,Value.int.injEq,true_and];split<;>omega
theorem w64 {n:Int}(h1: -9223372036854775808≤n)(A:n≤9223372036854775807):IntKind.i64.wrap n=n:=by
 show(if(true&&decide (n%(2^64:Int)≥(2^63:Int)))=true then n%(2^64:Int)-(2^64:Int)else n%(2^64:Int))=n;split
 ·rename_i hh;simp only[Bool.true_and,decide_eq_true_eq]at hh;omega
 ·rename_i hh;simp only[Bool.true_and,decide_eq_true_eq]at hh;omega
theorem wu16 {n:Int}(h1:0≤n)(A:n≤65535):IntKind.u16.wrap n=n:=by
 simp only[IntKind.wrap,IntKind.bits,IntKind.signed];simp;omega
theorem wu64 {n:Int}(h1:0≤n)(A:n≤18446744073709551615):IntKind.u64.wrap n=n:=by
 simp only[IntKind.wrap,IntKind.bits,IntKind.signed];simp;omega
theorem EM (a:Option Addr)(n c:Nat):aq (.slice a n c)=some (.int .i64 n):=Eq.trans rfl rfl
theorem SC (s:ByteArray):EL (.string s)=some (.int .i64 s.size):=Eq.trans rfl rfl
theorem X4 (a:Value)(l:List Value):aE (.tuple ⟨a::l⟩) 0=some a:=Eq.trans rfl rfl
theorem X3 (a b:Value)(l:List Value):aE (.tuple ⟨a::b::l⟩) 1=some b:=Eq.trans rfl rfl
theorem X2 (a b c:Value)(l:List Value):aE (.tuple ⟨a::b::c::l⟩) 2=some c:=Eq.trans rfl rfl
theorem X0 (a b c d:Value)(l:List Value):aE (.tuple ⟨a::b::c::d::l⟩) 3=some d:=Eq.trans rfl rfl
theorem Ua (a:Addr):aK (.pointer (some a))=some (.pointer (some a)):=Eq.trans rfl rfl
theorem XY (b o:Nat):am 0 (.pointer (some ⟨b,o,none⟩))=some (.pointer (some ⟨b,o,none⟩)):=Eq.trans rfl rfl
theorem kF (b o n:Nat):(⟨b,o,none⟩:Addr).add n=⟨b,o+n,none⟩:=by
 unfold Addr.add;split<;>simp_all
theorem OQ (n b o:Nat):am n (.pointer (some ⟨b,o,none⟩))=some (.pointer (some ⟨b,o+n,none⟩)):=by
 show some (Value.pointer (some ((⟨b,o,none⟩:Addr).add n)))=_;rw[kF]
theorem qR (h:af)(a:Addr):ldV h (.pointer (some a))=aB h a:=Eq.trans rfl rfl
theorem pK {s b o len cap:Nat}{k:IntKind}{i:Nat}(hi:i<len):aR s (.slice (some ⟨b,o,none⟩) len cap) (.int k (i:Int))=some (.pointer (some ⟨b,o+i*s,none⟩)):=by
 show(if 0≤(i:Int)∧(i:Int)<(len:Int)then some (Value.pointer (some ((⟨b,o,none⟩:Addr).add ((i:Int).toNat*s))))else none)=_;rw[if_pos (by omega),kF,Int.toNat_natCast]
theorem ai {h:af}{b o:Nat}{c:Array Value}{t:TypeId}{f:Nat×Nat}(A:h[b]? =some (.cells c t f)):aB h ⟨b,o,none⟩=c[o]? :=by
 unfold aB;simp[A]
theorem TU {h:af}{o:Obj}{b:Nat}(A:b<h.size):(h.push o)[b]? =h[b]? :=by
 rw[Array.getElem?_push,if_neg (by omega)]
theorem pu {h:af}{o:Obj}:(h.push o)[h.size]? =some o:=by simp
def Ext (h h':af):Prop:=h.size≤h'.size∧∀b,b<h.size→h'[b]? =h[b]?
theorem Ext.refl (h:af):Ext h h:=⟨Nat.le_refl _,λ_ _=>rfl⟩
theorem Ext.trans {a b c:af}(h:Ext a b)(k:Ext b c):Ext a c:=⟨Nat.le_trans h.1 k.1,λi hi=>(k.2 i (Nat.lt_of_lt_of_le hi h.1)).trans (h.2 i hi)⟩
theorem Ext.push (h:af)(o:Obj):Ext h (h.push o):=⟨by simp,λb A=>TU A⟩
theorem Ext.cell {h h':af}(e:Ext h h'){a:Addr}{v:Value}(hc:aB h a=some v):aB h' a=some v:=by
 unfold aB at*;rcases Nat.lt_or_ge a.block h.size with A|A
 ·rw[e.2 _ A];exact hc
 ·rw[Array.getElem?_eq_none A]at hc;cases hc
theorem TD {r A:Option Value}{K:Value→Prop}(h:r=A):vK r K=vK A K:=by rw[h]
theorem Qu {c c':Value}{x y:Prop}(h:c=c'):aA c x y=aA c' x y:=by rw[h]
theorem PF {P:Program}{f:FuncId}{args A:Array Value}{h h':af}{K:Value→af→Prop}(D:args=A)(hh:h=h'):ae P f args h K=ae P f A h' K:=by rw[D,hh]
theorem OB {a A:List Value}{h h':af}{body:List Value→Env→af→(List Value→af→Prop)→Prop}(D:a=A)(hh:h=h'):aU a h body=aU A h' body:=by rw[D,hh]
theorem Uy {g A:Value}{w:Bool}{m:(Value→af→Prop)→Prop}{h:af}{K:Value→af→Prop}(D:g=A):gK g w m h K=gK A w m h K:=by rw[D]
theorem Qj {c c':Array Value}{t:TypeId}{h:af}{K:Value→af→Prop}(hc:c=c'):aP c t h K=aP c' t h K:=by rw[hc]
theorem Se {n:Nat}{x D v A:Value}{h:af}{K:Value→af→Prop}(G:x=D)(F:v=A):stK n x v h K=stK n D A h K:=by rw[G,F]
theorem PY {c:Array Value}{e:TypeId}{n:Nat}{l A:List (Nat×Nat×Value)}{h:af}{K:Value→af→Prop}(D:l=A):cE c e n l h K=cE c e n A h K:=by rw[D]
theorem Sx {z:Value}{e:TypeId}{s b:Nat}{l A c c':Value}{h:af}{K:Value→af→Prop}(D:l=A)(hc:c=c'):mkK z e s b l c h K=mkK z e s b A c' h K:=by rw[D,hc]
theorem Ra {z:Value}{e:TypeId}{s b:Nat}{l A c c':Value}{h:af}{K:Value→af→Prop}(D:l=A)(hc:c=c'):cF z e s b l c h K=cF z e s b A c' h K:=by rw[D,hc]
theorem QK {s:Nat}{l A c c':Value}{h:af}{K:Value→af→Prop}(D:l=A)(hc:c=c'):Ch s l c h K=Ch s A c' h K:=by rw[D,hc]
theorem O0 {h h':af}{b:(af→Prop)→Prop}(hh:h=h'):bC h b=bC h' b:=by rw[hh]
theorem TT {S:af→Prop}{r A:af→Option Value}{K:Value→Prop}(D:r=A):qK S r K=qK S A K:=by rw[D]
theorem KS {d:TypeDesc}{m A k k' v D:Value}{h:af}{K:Value→af→Prop}(h1:m=A)(G:k=k')(F:v=D):qQ d m k v h K=qQ d A k' D h K:=by rw[h1,G,F]
theorem KU {d:TypeDesc}{m A k k':Value}{h:af}{K:Value→af→Prop}(h1:m=A)(D:k=k'):lW d m k h K=lW d A k' h K:=by rw[h1,D]
attribute [congr] TD Qu PF OB Uy Qj Se PY Sx Ra QK O0 TT KS KU
theorem aC {c:Array Value}{t:TypeId}{h:af}{K:Value→af→Prop}(H:∀b h',h'[b]? =some (.cells c t (0,0))→Ext h h'→h.size≤b→K (.pointer (some ⟨b,0,none⟩)) h'):aP c t h K:=
 H h.size (h.push (.cells c t)) pu (Ext.push h _) (Nat.le_refl _)
theorem Ext.row {h h':af}(e:Ext h h'){b:Nat}{o:Obj}(A:h[b]? =some o):h'[b]? =some o:=by
 rw[e.2 b (Array.getElem?_eq_some_iff.1 A).1];exact A
theorem bG (c:Array Value):Value.cells (.agg c)=c:=Eq.trans rfl rfl
theorem Qr (h:af)(b o i n:Nat):dx h ⟨b,o,none⟩ i (n+1)=match aB h ⟨b,o+i,none⟩with
  |some v=>match dx h ⟨b,o,none⟩ (i+1) n with
   |some l=>some (v::l)
   |none=>none
  |none=>none:=by
 have e:dx h ⟨b,o,none⟩ i (n+1)=match aB h ((⟨b,o,none⟩:Addr).add i)with
  |some v=>match dx h ⟨b,o,none⟩ (i+1) n with
   |some l=>some (v::l)
   |none=>none
  |none=>none:=rfl
 rw[e,kF]
theorem Ui (n:Nat)(h:af)(a:Addr):aH n h (.pointer (some a))=(dx h a 0 n).map λl=>.agg l.toArray:=Eq.trans rfl rfl
theorem Aa {h:af}{b o:Nat}:∀(l:List Value) (i:Nat),(∀j (A:j<l.length),aB h ⟨b,o+i+j,none⟩=some l[j])→dx h ⟨b,o,none⟩ i l.length=some l
 | [],_,_=>rfl
 | v::l,i,H=>by
  rw[List.length_cons,Qr];have h0:=H 0 (by simp);simp only[Nat.add_zero,List.getElem_cons_zero]at h0;rw[h0];have:=Aa l (i+1) λj A=>by
   have:=H (j+1) (by simpa using A);simpa[Nat.add_assoc,Nat.add_comm 1 j]using this
  simp only[this]
theorem DO {h:af}{b o:Nat}(l:List Value)(n:Nat)(A:l.length=n)(H:∀j (D:j<l.length),aB h ⟨b,o+j,none⟩=some l[j]):aH n h (.pointer (some ⟨b,o,none⟩))=some (.agg l.toArray):=by
 subst A;rw[Ui,Aa l 0 (by simpa using H)];rfl
theorem aM {h:af}{b:Nat}{l:List Value}{t:TypeId}{f:Nat×Nat}(D:h[b]? =some (.cells l.toArray t f))(n:Nat)(A:l.length=n):aH n h (.pointer (some ⟨b,0,none⟩))=some (.agg l.toArray):=
 DO l n A λj F=>by rw[Nat.zero_add,ai D];simp
theorem Ext.loads {h h':af}(e:Ext h h'){a:Addr}:∀{n i:Nat} {l:List Value},dx h a i n=some l→dx h' a i n=some l
 |0,_,_,H=>H
 | n+1,i,l,H=>by
  unfold dx at H ⊢;cases hc:aB h (a.add i)with
  |none=>simp[hc]at H
  | some v=>
   simp only[hc]at H;rw[e.cell hc];cases A:dx h a (i+1) n with
   |none=>simp[A]at H
   |some D=>
    simp only[A]at H;simp only[e.loads A];exact H
theorem Ext.lds {h h':af}(e:Ext h h'){n:Nat}{x v:Value}(H:aH n h x=some v):aH n h' x=some v:=by
 unfold aH at*;split at H
 ·rename_i a;cases A:dx h a 0 n with
  |none=>simp[A]at H
  |some l=>
   simp only[A]at H;simp only[e.loads A];exact H
 ·cases H
theorem rY (h:af)(b k:Nat)(o:Obj):(dS h b o)[k]? =if k=b then(if b<h.size then some o else none)else h[k]? :=by
 unfold dS;rw[Array.getElem?_setIfInBounds];by_cases A:k=b
 ·subst A;simp
 ·rw[if_neg (Ne.symm A),if_neg A]
theorem tQ (h:af)(b:Nat)(o:Obj):(dS h b o).size=h.size:=by simp[dS]
theorem NK (h:af)(x y:Obj):dS (h.push x) h.size y=h.push y:=by
 unfold dS;apply Array.ext';simp
theorem NL {h:af}{b o:Nat}{cur:Array Value}{t:TypeId}{f:Nat×Nat}{v:Value}(D:h[b]? =some (.cells cur t f)):GZ h ⟨b,o,none⟩ v=dS h b (.cells (cur.setIfInBounds o v) t f):=by
 have A:b<h.size:=(Array.getElem?_eq_some_iff.1 D).1;unfold GZ;apply Array.ext
 ·simp[tQ]
 ·intro i h1 F;apply Option.some.inj;rw[←Array.getElem?_eq_getElem,←Array.getElem?_eq_getElem,rY,Array.getElem?_modify];by_cases hi:i=b
  ·subst hi;have e:h[i]=.cells cur t f:=by rw[Array.getElem?_eq_getElem A]at D;exact Option.some.inj D
   simp[A,e]
  ·rw[if_neg (Ne.symm hi),if_neg hi]
def wrL (cur:Array Value):Nat→List Value→Array Value
 |_,[]=>cur
 |o,v::l=>wrL (cur.setIfInBounds o v) (o+1) l
theorem bX:∀(l:List Value) (cur:Array Value) (o:Nat),(wrL cur o l).size=cur.size
 | [],_,_=>rfl
 |v::l,cur,o=>by simp[wrL,bX l]
theorem Rg:∀(l:List Value) (cur:Array Value) (o k:Nat),o+l.length≤cur.size→(wrL cur o l)[k]? =if o≤k∧k<o+l.length then l[k-o]? else cur[k]?
 | [],cur,o,k,_=>by simp only[wrL,List.length_nil];rw[if_neg (by omega)]
 | v::l,cur,o,k,h=>by
  simp only[List.length_cons]at h;simp only[wrL];rw[Rg l _ (o+1) k (by simp;omega)];by_cases A:k=o
  ·subst A;rw[if_neg (by omega),if_pos (by simp)];rw[Array.getElem?_setIfInBounds];simp;omega
  ·by_cases D:o+1≤k∧k<o+1+l.length
   ·rw[if_pos D,if_pos (by simp only[List.length_cons];omega)];rw[show k-o=(k-(o+1))+1 from by omega];simp
   ·rw[if_neg D,if_neg (by simp only[List.length_cons];omega)];rw[Array.getElem?_setIfInBounds_ne (Ne.symm A)]
theorem L7 (l:List Value)(cur:Array Value)(h:l.length=cur.size):wrL cur 0 l=l.toArray:=by
 apply Array.ext
 ·simp[bX,h]
 ·intro i h1 A;apply Option.some.inj;rw[←Array.getElem?_eq_getElem,←Array.getElem?_eq_getElem,Rg l cur 0 i (by omega)];simp only[bX]at h1;rw[if_pos (by omega)];simp
theorem kO {t:TypeId}{b o:Nat}:∀(l:List Value) (i:Nat) (h:af) (cur:Array Value),h[b]? =some (.cells cur t (0,0))→o+i+l.length≤cur.size→(∀v∈l,aJ v=true)→
  iO h ⟨b,o,none⟩ i l=some (dS h b (.cells (wrL cur (o+i) l) t (0,0)))
 | [],i,h,cur,hb,_,_=>by
  simp only[iO,wrL,Option.some.injEq];have A:b<h.size:=(Array.getElem?_eq_some_iff.1 hb).1;apply Array.ext
  ·simp[tQ]
  ·intro k h1 G;apply Option.some.inj;rw[←Array.getElem?_eq_getElem,←Array.getElem?_eq_getElem,rY];split
   ·rename_i F;subst F;first|rw[if_pos A,hb]|exact hb
   ·rfl
 |v::l,i,h,cur,hb,hs,h1=>by
  simp only[List.length_cons]at hs;have A:b<h.size:=(Array.getElem?_eq_some_iff.1 hb).1;have hc:aB h ⟨b,o+i,none⟩=some cur[o+i]:=by rw[ai hb,Array.getElem?_eq_getElem (by omega)]
  have D:sA h ⟨b,o+i,none⟩=false:=by unfold sA;simp[hb]
  unfold iO;rw[kF];simp only[hc,D,h1 v (by simp),Bool.not_false,Bool.and_self,cond_true];rw[NL hb];rw[kO l (i+1) _ (cur.setIfInBounds (o+i) v) (by rw[rY,if_pos rfl,if_pos A]) (by simp;omega) (λu hu=>h1 u (by simp[hu]))];simp only[wrL,Nat.add_assoc,Option.some.injEq];unfold dS;simp
theorem stN {t:TypeId}{b o n:Nat}{h:af}{cur:Array Value}{l:List Value}{K:Value→af→Prop}(G:h[b]? =some (.cells cur t (0,0)))(F:o+l.length≤cur.size)(h1:∀v∈l,aJ v=true)(D:l.length=n)
  (A:K undef (dS h b (.cells (wrL cur o l) t (0,0)))):stK n (.pointer (some ⟨b,o,none⟩)) (.agg l.toArray) h K:=by
 unfold stK;have:=kO (t:=t) (b:=b) (o:=o) l 0 h cur G (by simpa using F) h1;simp only[Value.cells,List.size_toArray,D,if_true,this];exact A
theorem bT {v:Value}(h:aJ v=true):v.cells=#[v]:=by cases v<;>first|rfl|cases h
theorem st1 {t:TypeId}{b o:Nat}{h:af}{cur:Array Value}{v:Value}{K:Value→af→Prop}(D:h[b]? =some (.cells cur t (0,0)))(F:o<cur.size)(h1:aJ v=true)
  (A:K undef (dS h b (.cells (cur.setIfInBounds o v) t (0,0)))):stK 1 (.pointer (some ⟨b,o,none⟩)) v h K:=by
 unfold stK;have:=kO (t:=t) (b:=b) (o:=o) [v] 0 h cur D (by simp;omega) (by simpa using h1);simp only[bT h1,List.size_toArray,List.length_cons,List.length_nil,if_true,this];exact A
theorem st_new {t:TypeId}{n:Nat}{h:af}{A:Array Value}{l:List Value}{K:Value→af→Prop}(G:l.length=A.size)(h1:∀v∈l,aJ v=true)(F:l.length=n)
  (D:K undef (h.push (.cells l.toArray t))):stK n (.pointer (some ⟨h.size,0,none⟩)) (.agg l.toArray) (h.push (.cells A t)) K:=by
 refine stN (cur:=A) (t:=t) (by simp) (by omega) h1 F ?_;rw[NK,L7 l A G];exact D
def Upd (b:Nat)(h h':af):Prop:=h'.size=h.size∧∀k,k≠b→h'[k]? =h[k]?
theorem Upd.row {b k:Nat}{h h':af}(u:Upd b h h')(A:k≠b){o:Obj}(r:h[k]? =some o):h'[k]? =some o:=by rw[u.2 k A];exact r
theorem Upd.set {b:Nat}{h:af}{o:Obj}:Upd b h (dS h b o):=⟨tQ h b o,λk A=>by rw[rY,if_neg A]⟩
theorem Ext.upd {h h1 A:af}{b:Nat}(e:Ext h h1)(F:h.size≤b)(u:Upd b h1 A):Ext h A:=
 ⟨by rw[u.1];exact e.1,λk D=>by rw[u.2 k (by omega)];exact e.2 k D⟩
theorem kB {h:af}{b:Nat}{o o':Obj}(r:h[b]? =some o):(dS h b o')[b]? =some o':=by
 rw[rY,if_pos rfl,if_pos (Array.getElem?_eq_some_iff.1 r).1]
theorem ch {t:TypeId}{b n:Nat}{h:af}{A:Array Value}{l:List Value}{K:Value→af→Prop}(r:h[b]? =some (.cells A t (0,0)))(G:l.length=A.size)(h1:∀v∈l,aJ v=true)(F:l.length=n)
  (D:∀h',h'[b]? =some (.cells l.toArray t (0,0))→Upd b h h'→K undef h'):stK n (.pointer (some ⟨b,0,none⟩)) (.agg l.toArray) h K:=by
 refine stN r (by omega) h1 F ?_;rw[L7 l A G];exact D _ (kB r) Upd.set
theorem bK {t:TypeId}{b o:Nat}{h:af}{cur:Array Value}{v:Value}{K:Value→af→Prop}(r:h[b]? =some (.cells cur t (0,0)))(D:o<cur.size)(h1:aJ v=true)
  (A:∀h',h'[b]? =some (.cells (cur.setIfInBounds o v) t (0,0))→Upd b h h'→K undef h'):stK 1 (.pointer (some ⟨b,o,none⟩)) v h K:=
 st1 r D h1 (A _ (kB r) Upd.set)
theorem cz {c c':Array Value}{e:TypeId}{n:Nat}{l:List (Nat×Nat×Value)}{h:af}{K:Value→af→Prop}(A:aF c l=some c')
  (H:∀b h',h'[b]? =some (.cells c' e (0,0))→Ext h h'→h.size≤b→K (.slice (some ⟨b,0,none⟩) n n) h'):cE c e n l h K:=by
 unfold cE;rw[A];exact H h.size (h.push (.cells c' e)) pu (Ext.push h _) (Nat.le_refl _)
theorem least {p:Nat→Prop}:∀(n:Nat),p n→∃m,p m∧∀k,p k→m≤k:=by
 intro n;induction n using Nat.strongRecOn with
 | _ n G=>
  intro I;by_cases F:∃k,k<n∧p k
  ·obtain⟨k,D,H⟩:=F;exact G k D H
  ·exact⟨n,I,λk D=>Nat.le_of_not_lt λA=>F ⟨k,A,D⟩⟩
theorem cO {init:List Value}{h:af}{body:List Value→Env→af→(List Value→af→Prop)→Prop}(I:Nat→List Value→af→Prop)(d0:Nat)(h0:I d0 init h)
  (step:∀d A ρj h again,I d A h→(∀L h' F,F<d→I F L h'→again L h')→body A ρj h again):aU init h body:=by
 have G:∀A h,∃m:Nat,(∃d,I d A h)→I m A h∧∀k,I k A h→m≤k:=by
  intro A h;by_cases U:∃d,I d A h
  ·obtain⟨d,hd⟩:=U;obtain⟨m,H,W⟩:=least (p:=λd=>I d A h) d hd;exact⟨m,λ_=>⟨H,W⟩⟩
  ·exact⟨0,λh=>absurd h U⟩
 let m:List Value→af→Nat:=λA h=>Classical.choose (G A h)
 have H:∀A h,(∃d,I d A h)→I (m A h) A h∧∀k,I k A h→m A h≤k:=λA h=>Classical.choose_spec (G A h)
 refine⟨λA h=>∃d,I d A h,m,⟨d0,h0⟩,?_⟩;intro A ρj h hI;refine step (m A h) A ρj h _ (H A h hI).1 ?_;intro L h' F hd D;exact⟨⟨F,D⟩,Nat.lt_of_le_of_lt ((H L h' ⟨F,D⟩).2 F D) hd⟩
theorem aV {body:(List Value→af→Prop)→Prop}{rest:List Value→Env→af→Prop}(J:List Value→af→Prop)(h1:body J)(D:∀A ρj h,J A h→rest A ρj h):dK body rest:=⟨J,h1,D⟩
theorem LH {h:af}{body:(af→Prop)→Prop}(H:body (Ext h)):bC h body:=⟨Ext h,Ext.refl h,H⟩
theorem ao {S:af→Prop}{r:af→Option Value}{K:Value→Prop}(v:Value)(h:∀h,S h→r h=some v)(A:K v):qK S r K:=⟨v,h,A⟩
attribute [go_sem] XR XX ah fI cf Wa ib gV_tf gV_ft Wm Jg gK_tf gK_ft Qa tZ gb uA V5 XP ix_4 ix_5 cN fO kr bU JN l8 JO sG vH Vl Vk Ri Vy zi IG ID bG EM SC List.getElem?_toArray List.getElem?_cons_zero List.getElem?_cons_succ Nat.zero_add decide_true decide_false Bool.not_true Bool.not_false Bool.and_true Bool.and_false Bool.or_true Bool.or_false Bool.true_and Bool.false_and Bool.true_or Bool.false_or not_true_eq_false not_false_eq_true X4 X3 X2 X0 Ua XY OQ qR
def Fr (M:Nat→Prop)(h h':af):Prop:=h.size≤h'.size∧∀b,b<h.size→¬M b→h'[b]? =h[b]?
theorem Fr.refl (M:Nat→Prop)(h:af):Fr M h h:=⟨Nat.le_refl _,λ_ _ _=>rfl⟩
theorem Fr.trans {M:Nat→Prop}{a b c:af}(h:Fr M a b)(k:Fr M b c):Fr M a c:=
 ⟨Nat.le_trans h.1 k.1,λi hi A=>(k.2 i (Nat.lt_of_lt_of_le hi h.1) A).trans (h.2 i hi A)⟩
theorem Fr.mono {M M':Nat→Prop}{a b:af}(h:Fr M a b)(k:∀i,i<a.size→M i→M' i):Fr M' a b:=⟨h.1,λi hi A=>h.2 i hi λx=>A (k i hi x)⟩
theorem Ext.fr {M:Nat→Prop}{a b:af}(h:Ext a b):Fr M a b:=⟨h.1,λi hi _=>h.2 i hi⟩
theorem Ext.then_fr {M:Nat→Prop}{a b c:af}(h:Ext a b)(k:Fr M b c)(n:∀i,M i→a.size≤i):Ext a c:=
 ⟨Nat.le_trans h.1 k.1,λi hi=>(k.2 i (Nat.lt_of_lt_of_le hi h.1) λm=>Nat.not_le.2 hi (n i m)).trans (h.2 i hi)⟩
theorem Fr.row {M:Nat→Prop}{h h':af}(e:Fr M h h'){b:Nat}{o:Obj}(A:h[b]? =some o)(D:¬M b):h'[b]? =some o:=by
 rw[e.2 b (Array.getElem?_eq_some_iff.1 A).1 D];exact A
theorem Fr.cell {M:Nat→Prop}{h h':af}(e:Fr M h h'){a:Addr}{v:Value}(hc:aB h a=some v)(D:¬M a.block):aB h' a=some v:=by
 unfold aB at*;rcases Nat.lt_or_ge a.block h.size with A|A
 ·rw[e.2 _ A D];exact hc
 ·rw[Array.getElem?_eq_none A]at hc;cases hc
theorem RL {h:af}{a:Addr}{v:Value}(hc:aB h a=some v):a.block<h.size:=by
 unfold aB at hc;rcases Nat.lt_or_ge a.block h.size with A|A
 ·exact A
 ·rw[Array.getElem?_eq_none A]at hc;cases hc
def blk:Value→Nat→Prop
 | .slice (some a) _ _,b=>b=a.block
 | .pointer (some a),b=>b=a.block
 |_,_=>False
def SlC (w:Nat)(h:af)(v:Value)(n:Nat)(cs:List Value):Prop:=
 cs.length=n*w∧∃a cap,v=.slice a n cap∧(cs=[]∨∃b o,a=some ⟨b,o,none⟩∧∀j (hj:j<cs.length),aB h ⟨b,o+j,none⟩=some cs[j])
def Own (w:Nat)(h:af)(v:Value)(n:Nat)(cs:List Value):Prop:=
 (v=.slice none 0 0∧n=0∧cs=[])∨∃b cap r e,v=.slice (some ⟨b,0,none⟩) n cap∧n≤cap∧cs.length=n*w∧(cs++r).length=cap*w∧h[b]? =some (.cells (cs++r).toArray e (0,0))
theorem SlC.fr {w:Nat}{M:Nat→Prop}{h h':af}{v:Value}{n:Nat}{cs:List Value}(H:SlC w h v n cs)(e:Fr M h h')(F:∀b,b<h.size→blk v b→¬M b):SlC w h' v n cs:=by
 obtain⟨D,a,cap,rfl,H⟩:=H;refine⟨D,a,cap,rfl,?_⟩;rcases H with H|⟨b,o,rfl,H⟩
 ·exact .inl H
 ·exact .inr ⟨b,o,rfl,λj A=>e.cell (H j A) (F b (RL (H j A)) rfl)⟩
theorem SlC.ext {w:Nat}{h h':af}{v:Value}{n:Nat}{cs:List Value}(H:SlC w h v n cs)(e:Ext h h'):SlC w h' v n cs:=H.fr (M:=λ_=>False) e.fr λ_ _ _=>id
theorem Own.sl {w:Nat}{h:af}{v:Value}{n:Nat}{cs:List Value}(H:Own w h v n cs):SlC w h v n cs:=by
 rcases H with⟨rfl,rfl,rfl⟩|⟨b,cap,r,e,rfl,hc,D,_,F⟩
 ·exact⟨by simp,none,0,rfl,.inl rfl⟩
 ·refine⟨D,_,cap,rfl,.inr ⟨b,0,rfl,λj A=>?_⟩⟩;rw[Nat.zero_add,ai F];simp[List.getElem?_append_left A,A]
theorem Own.fr {w:Nat}{M:Nat→Prop}{h h':af}{v:Value}{n:Nat}{cs:List Value}(H:Own w h v n cs)(f:Fr M h h')(D:∀b,blk v b→¬M b):Own w h' v n cs:=by
 rcases H with⟨rfl,rfl,rfl⟩|⟨b,cap,r,e,rfl,hc,F,A,G⟩
 ·exact .inl ⟨rfl,rfl,rfl⟩
 ·exact .inr ⟨b,cap,r,e,rfl,hc,F,A,f.row G (D b rfl)⟩
theorem Own.lt {w:Nat}{h:af}{v:Value}{n:Nat}{cs:List Value}(H:Own w h v n cs){b:Nat}(A:blk v b):b<h.size:=by
 rcases H with⟨rfl,rfl,rfl⟩|⟨D,cap,r,e,rfl,hc,G,F,h'⟩
 ·cases A
 ·rw[show b=D from A];exact(Array.getElem?_eq_some_iff.1 h').1
theorem SlC.loads {w:Nat}{h:af}{v:Value}{n:Nat}{cs:List Value}(H:SlC w h v n cs):tf w h n v=some cs:=by
 obtain⟨A,a,cap,rfl,H⟩:=H;cases a with
 |none=>
  rcases H with rfl|⟨b,o,h1,_⟩
  ·rfl
  ·cases h1
 | some a=>
  show dx h a 0 (n*w)=_;rcases H with rfl|⟨b,o,h1,H⟩
  ·rw[←A];rfl
  ·cases h1;rw[←A];exact Aa cs 0 (by simpa using H)
theorem Cy:∀(ds cs r:List Value),ds.length≤r.length→wrL (cs++r).toArray cs.length ds=(cs++ds++r.drop ds.length).toArray
 | [],cs,r,_=>by simp[wrL]
 | v::ds,cs,r,h=>by
  cases r with
  |nil=>simp at h
  |cons x r=>
   have e:((cs++x::r).toArray).setIfInBounds cs.length v=((cs++[v])++r).toArray:=by simp
   rw[wrL,e];have:=Cy ds (cs++[v]) r (by simpa using h);rw[List.length_append,List.length_singleton]at this;rw[this];simp
theorem Upd.fr {b:Nat}{h h':af}(u:Upd b h h'):Fr (λk=>k=b) h h':=⟨Nat.le_of_eq u.1.symm,λk _ A=>u.2 k A⟩
theorem Mb (z:Array Value)(n:Nat):(Builtin.zeroCells z n).size=n*z.size:=by simp[Builtin.zeroCells]
theorem sI {z:Value}{e:TypeId}{w bytes n m:Nat}{s x:Value}{h:af}{cs ds:List Value}{K:Value→af→Prop}
  (hs:Own w h s n cs) (hx:SlC w h x m ds) (ho:∀v∈ds,aJ v=true) (hz:z.cells.size=w) (G:(n+m)*bytes≤140737488355328) (hn:n+m≤9223372036854775807)
  (H:∀W h',Own w h' W (n+m) (cs++ds)→Fr (blk s) h h'→(∀b,blk W b→blk s b∨h.size≤b)→K W h'):cF z e w bytes s x h K:=by
 have L:=hs.sl.loads;have F:=hx.loads;obtain⟨D,a',ad,rfl,al⟩:=hx;rcases hs with⟨rfl,rfl,rfl⟩|⟨b,cap,r,e0,rfl,hc,U,hr,I⟩
 ·unfold cF;simp only[KV];split
  ·rename_i h0;have:m=0:=by omega
   subst this;rw[F];have:ds=[]:=List.eq_nil_of_length_eq_zero (by simpa using D);subst this;exact H _ _ (.inl ⟨rfl,rfl,rfl⟩) (Fr.refl _ _) (λb G=>G.elim)
  ·rename_i h0;rw[L,F];refine⟨by simp only[IntKind.max];simp only[IntKind.signed,IntKind.bits];omega,Nat.le_trans (growslice_fits (by omega) G) (by decide),λA h1 h2=>?_⟩;refine H _ _ (.inr ⟨h.size,A,(Builtin.zeroCells z.cells (A-(0+m))).toList,e,rfl,h1,?_,?_,?_⟩) (Ext.push h _).fr (λb G=>.inr (by rw[show b=h.size from G];exact Nat.le_refl _))
   ·simp[D]
   ·simp[D,Mb,hz];rw[←Nat.add_mul];congr 1;omega
   ·rw[pu];simp
 ·unfold cF;simp only[KV];split
  ·rename_i h0;rw[F];have aa:ds.length≤r.length:=by
    rw[List.length_append]at hr;rw[D];have:(n+m)*w≤cap*w:=Nat.mul_le_mul_right w h0;rw[Nat.add_mul]at this;omega
   have ab:=kO (o:=n*w) ds 0 h _ I (by simp;omega) ho;simp only[kF,Nat.zero_add,ab];rw[Nat.add_zero,←U,Cy ds cs r aa];refine H _ _ (.inr ⟨b,cap,r.drop ds.length,e0,rfl,h0,?_,?_,kB I⟩) (Upd.set.fr) (λk hk=>.inl hk)
   ·simp[U,D,Nat.add_mul]
   ·rw[←hr];simp;omega
  ·rename_i h0;rw[L,F];refine⟨by simp only[IntKind.max];simp only[IntKind.signed,IntKind.bits];omega,Nat.le_trans (growslice_fits (by omega) G) (by decide),λA h1 h2=>?_⟩;refine H _ _ (.inr ⟨h.size,A,(Builtin.zeroCells z.cells (A-(n+m))).toList,e,rfl,h1,?_,?_,?_⟩) (Ext.push h _).fr (λb G=>.inr (by rw[show b=h.size from G];exact Nat.le_refl _))
   ·simp[U,D,Nat.add_mul]
   ·simp[U,D,Mb,hz];rw[←Nat.add_mul,←Nat.add_mul];congr 1;omega
   ·rw[pu];simp
theorem SlC.at1 {h:af}{v:Value}{n:Nat}{cs:List Value}(H:SlC 1 h v n cs){k:IntKind}{i:Nat}(hi:i<n):∃p,aR 1 v (.int k (i:Int))=some p∧ldV h p=some (cs[i]'(by rw[H.1];omega)):=by
 have A:=H.1;obtain⟨_,a,cap,rfl,H⟩:=H;rcases H with rfl|⟨b,o,rfl,H⟩
 ·simp at A;omega
 ·refine⟨_,pK hi,?_⟩;rw[qR,Nat.mul_one];exact H i (by omega)
theorem SlC.atw {w:Nat}{h:af}{v:Value}{n:Nat}{cs:List Value}(H:SlC w h v n cs)(G:0<w){k:IntKind}{i:Nat}(hi:i<n):
  ∃p,aR w v (.int k (i:Int))=some p∧aH w h p=some (.agg ((cs.drop (i*w)).take w).toArray):=by
 have D:=H.1;obtain⟨_,a,cap,rfl,H⟩:=H;have A:i*w+w≤cs.length:=by rw[D,←Nat.succ_mul];exact Nat.mul_le_mul_right w hi
 rcases H with rfl|⟨b,o,rfl,H⟩
 ·simp at A;omega
 ·refine⟨_,pK hi,?_⟩;refine DO _ w (by simp;omega) λj F=>?_
  simp at F;have:=H (i*w+j) (by omega);rw[←Nat.add_assoc]at this;rw[this];simp
theorem Own.at1 {h:af}{v:Value}{n:Nat}{cs:List Value}(H:Own 1 h v n cs){k:IntKind}{i:Nat}(hi:i<n):
  ∃p,aR 1 v (.int k (i:Int))=some p∧ldV h p=some (cs[i]'(by rw[H.sl.1];omega))∧∀(x:Value) (K:Value→af→Prop),aJ x=true→
   (∀h',Own 1 h' v n (cs.set i x)→Fr (blk v) h h'→h'.size=h.size→K undef h')→stK 1 p x h K:=by
 have U:=H.sl.1;rcases H with⟨rfl,rfl,rfl⟩|⟨b,cap,r,e,rfl,hc,_,F,D⟩
 ·omega
 ·refine⟨_,pK hi,?_,λx K I L=>?_⟩
  ·rw[qR,Nat.mul_one,ai D];have A:i<cs.length:=by omega
   simp only[Nat.zero_add,List.getElem?_toArray];rw[List.getElem?_append_left A,List.getElem?_eq_getElem A]
  ·refine bK D (by simp;omega) I λh' W u=>?_
   refine L h' (.inr ⟨b,cap,r,e,rfl,hc,by simpa using U,by simpa using F,?_⟩) (u.fr.mono λk _ G=>G) u.1;rw[W]
   congr 2
   simp[List.set_append_left,show i<cs.length by omega]
theorem R8 {z:Value}(A:z.cells=#[z])(n:Nat):gQ z n=(List.replicate n z).toArray:=by
 unfold gQ;rw[A];apply Array.ext
 ·simp
 ·intro i h1 D;simp[Nat.mod_one]
theorem lU {z:Value}{e:TypeId}{bytes n:Nat}{k k':IntKind}{h:af}{K:Value→af→Prop}(D:z.cells=#[z])(A:bytes*n≤281474976710656)(G:n≤9223372036854775807)
  (H:∀v h',Own 1 h' v n (List.replicate n z)→Ext h h'→(∀b,blk v b→h.size≤b)→K v h'):mkK z e 1 bytes (.int k n) (.int k' n) h K:=by
 unfold mkK;have F:IntKind.i64.wrap (n:Int)=n:=w64 (by omega) (by omega);simp only[F];refine⟨by omega,by omega,by exact_mod_cast A,?_⟩;rw[Int.toNat_natCast,Nat.mul_one,R8 D];refine H _ _ (.inr ⟨h.size,n,[],e,rfl,Nat.le_refl _,by simp,by simp,?_⟩) (Ext.push h _) (λb A=>by rw[show b=h.size from A];exact Nat.le_refl _);rw[pu];simp
theorem SlC.load_some {w:Nat}{h:af}{v:Value}{n:Nat}{cs:List Value}(H:SlC w h v n cs){k:Nat}(F:k≤n):tf w h k v=some (cs.take (k*w)):=by
 obtain⟨L,a,cap,rfl,H⟩:=H;have I:k*w≤n*w:=Nat.mul_le_mul_right w F;have A:(cs.take (k*w)).length=k*w:=by rw[List.length_take];omega
 cases a with
 |none=>
  rcases H with rfl|⟨b,o,h1,_⟩
  ·simp[tf]
  ·cases h1
 | some a=>
  show dx h a 0 (k*w)=_;rcases H with rfl|⟨b,o,h1,H⟩
  ·simp at A;rw[←A];simp[dx]
  ·cases h1;have:=Aa (h:=h) (b:=b) (o:=o) (cs.take (k*w)) 0 (λj G=>by
    have D:j<cs.length:=by rw[List.length_take]at G;omega
    simpa using H j D)
   rw[A]at this;exact this
theorem D0 {n m:Nat}{d x:Value}{h:af}{cs ds:List Value}{K:Value→af→Prop}(hd:Own 1 h d n cs)(I:SlC 1 h x m ds)(ho:∀v∈ds,aJ v=true)
  (H:∀h',Own 1 h' d n (ds.take n++cs.drop m)→Fr (blk d) h h'→h'.size=h.size→K (.int .i64 (Nat.min m n:Nat)) h'):Ch 1 d x h K:=by
 have A:=I.load_some (k:=Nat.min m n) (Nat.min_le_left ..);obtain⟨aa,a',L,rfl,ab⟩:=I;unfold Ch;rcases hd with⟨rfl,rfl,rfl⟩|⟨b,cap,r,e,rfl,hc,hl,hr,U⟩
 ·simp only[KV];rw[A];refine H _ (.inl ⟨rfl,rfl,by simp⟩) (Fr.refl _ _) rfl
 ·simp only[KV];rw[A];have F:ds.take (Nat.min m n*1)=ds.take n:=by
   rw[Nat.mul_one];rcases Nat.le_total m n with h1|h1
   ·rw[show Nat.min m n=m from Nat.min_eq_left h1,List.take_of_length_le (by omega),List.take_of_length_le (by omega)]
   ·rw[show Nat.min m n=n from Nat.min_eq_right h1]
  rw[F];have D:(ds.take n).length≤(cs++r).length:=by simp;omega
  have G:=kO (o:=0) (ds.take n) 0 h _ U (by simp;omega) (λv hv=>ho v (List.mem_of_mem_take hv));simp only[G];have W:=Cy (ds.take n) [] (cs++r) D;simp only[List.nil_append,List.length_nil]at W;rw[show(0+0:Nat)=0 from rfl,W];refine H _ (.inr ⟨b,cap,r,e,rfl,hc,?_,?_,?_⟩) Upd.set.fr (tQ ..)
  ·simp;omega
  ·simp at hr ⊢;omega
  ·rw[kB U]
   congr 3
   rw[List.append_assoc]
   congr 1
   rcases Nat.le_total m n with h1|h1
   ·rw[List.length_take,List.drop_append_of_le_length (by omega)]
    congr 2;omega
   ·rw[List.length_take,Nat.min_eq_left (by omega), @List.drop_eq_nil_of_le _ cs _ (by omega),List.nil_append];rw[show n=cs.length by omega,List.drop_left]
theorem Lm {h:af}{body:List Value→Env→af→(List Value→af→Prop)→Prop}(n A:Nat)(I:Nat→af→Prop)(h0:I A h)
  (step:∀k h again ρj,A≤k→I k h→(∀h',k<n→I (k+1) h'→again [.int .i64 ((k:Int)+1)] h')→body [.int .i64 (k:Int)] ρj h again):aU [.int .i64 (A:Int)] h body:=by
 refine cO (λd L h=>∃k,A≤k∧d=n-k∧L=[.int .i64 (k:Int)]∧I k h) (n-A) ⟨A,Nat.le_refl _,rfl,rfl,h0⟩ ?_;rintro d _ ρj h1 again ⟨k,F,hd,rfl,H⟩ D;exact step k h1 again ρj F H λh' U G=>D _ _ (n-(k+1)) (by omega) ⟨k+1,by omega,rfl,by simp,G⟩
theorem B5 {h:af}{body:List Value→Env→af→(List Value→af→Prop)→Prop}(n:Nat)(I:Nat→af→Prop)(h0:I 0 h)
  (step:∀k h again ρj,I k h→(∀h',k<n→I (k+1) h'→again [.int .i64 ((k:Int)+1)] h')→body [.int .i64 (k:Int)] ρj h again):aU [.int .i64 0] h body:=
 Lm n 0 I h0 λk h again ρj _=>step k h again ρj
structure Rp (α:Type) where
 w:Nat
 R:(Nat→Prop)→af→List Value→α→Prop
 len:∀{Z:Nat→Prop} {h:af} {cs:List Value} {x:α},R Z h cs x→cs.length=w
 one:∀{Z:Nat→Prop} {h:af} {cs:List Value} {x:α},R Z h cs x→∀v∈cs,aJ v=true
 fr:∀{Z M:Nat→Prop} {h h':af} {cs:List Value} {x:α},R Z h cs x→Fr M h h'→(∀b,b<h.size→Z b→¬M b)→R Z h' cs x
 mono:∀{Z Z':Nat→Prop} {h:af} {cs:List Value} {x:α},R Z h cs x→(∀b,b<h.size→Z b→Z' b)→R Z' h cs x
theorem Rp.ext {α:Type}(e:Rp α){Z:Nat→Prop}{h h':af}{cs:List Value}{x:α}(H:e.R Z h cs x)(k:Ext h h'):e.R Z h' cs x:=e.fr (M:=λ_=>False) H k.fr λ_ _ _=>id
theorem SlC.nil {w:Nat}{h h':af}{v:Value}{n:Nat}(H:SlC w h v n []):SlC w h' v n []:=by
 obtain⟨A,a,cap,rfl,H⟩:=H;exact⟨A,a,cap,rfl,.inl rfl⟩
theorem SlC.isSl {w:Nat}{h:af}{v:Value}{n:Nat}{cs:List Value}(H:SlC w h v n cs):∃a cap,v=.slice a n cap:=by
 obtain⟨_,a,cap,rfl,_⟩:=H;exact⟨a,cap,rfl⟩
theorem Own.isSl {w:Nat}{h:af}{v:Value}{n:Nat}{cs:List Value}(H:Own w h v n cs):∃a cap,v=.slice a n cap:=H.sl.isSl
theorem SlC.lt {w:Nat}{h:af}{v:Value}{n:Nat}{cs:List Value}(H:SlC w h v n cs)(h0:cs≠[]){b:Nat}(D:blk v b):b<h.size:=by
 obtain⟨F,a,cap,rfl,H⟩:=H;rcases H with rfl|⟨A,o,rfl,H⟩
 ·exact absurd rfl h0
 ·have:=RL (H 0 (List.length_pos_iff.2 h0));rw[show b=A from D];exact this
namespace Rp
def int (k:IntKind):Rp Int where
 w:=1
 R:=λ_ _ cs n=>cs=[.int k n]
 len:=by rintro _ _ _ _ rfl;rfl
 one:=by rintro _ _ _ _ rfl;simp[aJ]
 fr:=λH _ _=>H
 mono:=λH _=>H
def bool:Rp Bool where
 w:=1
 R:=λ_ _ cs n=>cs=[.bool n]
 len:=by rintro _ _ _ _ rfl;rfl
 one:=by rintro _ _ _ _ rfl;simp[aJ]
 fr:=λH _ _=>H
 mono:=λH _=>H
def str:Rp ByteArray where
 w:=1
 R:=λ_ _ cs n=>cs=[.string n]
 len:=by rintro _ _ _ _ rfl;rfl
 one:=by rintro _ _ _ _ rfl;simp[aJ]
 fr:=λH _ _=>H
 mono:=λH _=>H
abbrev el (w:Nat)(ds:List Value)(i:Nat):List Value:=(ds.drop (i*w)).take w
def Sl {α:Type}(e:Rp α)(Z:Nat→Prop)(h:af)(v:Value)(l:List α):Prop:=
 ∃ds,SlC e.w h v l.length ds∧(ds≠[]→∀b,blk v b→Z b)∧∀i (hi:i<l.length),e.R Z h (el e.w ds i) l[i]
theorem Sl.fr {α:Type}{e:Rp α}{Z M:Nat→Prop}{h h':af}{v:Value}{l:List α}(H:Sl e Z h v l)(f:Fr M h h')(q:∀b,b<h.size→Z b→¬M b):Sl e Z h' v l:=by
 obtain⟨ds,F,D,I⟩:=H;refine⟨ds,?_,D,λi hi=>e.fr (I i hi) f q⟩;by_cases h0:ds=[]
 ·subst h0;exact F.nil
 ·exact F.fr f λb G A=>q b G (D h0 b A)
theorem Sl.ext {α:Type}{e:Rp α}{Z:Nat→Prop}{h h':af}{v:Value}{l:List α}(H:Sl e Z h v l)(k:Ext h h'):Sl e Z h' v l:=H.fr (M:=λ_=>False) k.fr λ_ _ _=>id
theorem Sl.mono {α:Type}{e:Rp α}{Z Z':Nat→Prop}{h:af}{v:Value}{l:List α}(H:Sl e Z h v l)(q:∀b,b<h.size→Z b→Z' b):Sl e Z' h v l:=by
 obtain⟨ds,A,F,G⟩:=H;exact⟨ds,A,λh0 b D=>q b (A.lt h0 D) (F h0 b D),λi hi=>e.mono (G i hi) q⟩
theorem Sl.isSl {α:Type}{e:Rp α}{Z:Nat→Prop}{h:af}{v:Value}{l:List α}(H:Sl e Z h v l):∃a cap,v=.slice a l.length cap:=by
 obtain⟨ds,A,_⟩:=H;exact A.isSl
theorem Sl.one {α:Type}{e:Rp α}{Z:Nat→Prop}{h:af}{v:Value}{l:List α}(H:Sl e Z h v l):aJ v=true:=by
 obtain⟨a,cap,rfl⟩:=H.isSl;rfl
theorem Sl.nil {α:Type}{e:Rp α}{Z:Nat→Prop}{h:af}:Sl e Z h (.slice none 0 0) []:=⟨[],⟨by simp,none,0,rfl,.inl rfl⟩,λh=>absurd rfl h,λi hi=>absurd hi (by simp)⟩
def sl {α:Type}(e:Rp α):Rp (List α) where
 w:=1
 R:=λZ h cs l=>∃v,cs=[v]∧Sl e Z h v l
 len:=by rintro _ _ _ _ ⟨v,rfl,_⟩;rfl
 one:=by
  rintro _ _ _ _ ⟨v,rfl,H⟩ u hu;rw[List.mem_singleton.1 hu];exact H.one
 fr:=by rintro _ _ _ _ _ _ ⟨v,rfl,H⟩ f q;exact⟨v,rfl,H.fr f q⟩
 mono:=by rintro _ _ _ _ _ ⟨v,rfl,H⟩ q;exact⟨v,rfl,H.mono q⟩
def Pt {α:Type}(e:Rp α)(Z:Nat→Prop)(h:af)(v:Value)(x:α):Prop:=
 ∃b ds t,v=.pointer (some ⟨b,0,none⟩)∧h[b]? =some (.cells (List.toArray ds) t (0,0))∧Z b∧e.R Z h ds x
theorem Pt.fr {α:Type}{e:Rp α}{Z M:Nat→Prop}{h h':af}{v:Value}{x:α}(H:Pt e Z h v x)(f:Fr M h h')(q:∀b,b<h.size→Z b→¬M b):Pt e Z h' v x:=by
 obtain⟨b,ds,t,rfl,r,A,D⟩:=H;exact⟨b,ds,t,rfl,f.row r (q b (Array.getElem?_eq_some_iff.1 r).1 A),A,e.fr D f q⟩
theorem Pt.ext {α:Type}{e:Rp α}{Z:Nat→Prop}{h h':af}{v:Value}{x:α}(H:Pt e Z h v x)(k:Ext h h'):Pt e Z h' v x:=H.fr (M:=λ_=>False) k.fr λ_ _ _=>id
theorem Pt.mono {α:Type}{e:Rp α}{Z Z':Nat→Prop}{h:af}{v:Value}{x:α}(H:Pt e Z h v x)(q:∀b,b<h.size→Z b→Z' b):Pt e Z' h v x:=by
 obtain⟨b,ds,t,rfl,r,A,D⟩:=H;exact⟨b,ds,t,rfl,r,q b (Array.getElem?_eq_some_iff.1 r).1 A,e.mono D q⟩
def pt {α:Type}(e:Rp α):Rp α where
 w:=1
 R:=λZ h cs x=>∃v,cs=[v]∧Pt e Z h v x
 len:=by rintro _ _ _ _ ⟨v,rfl,_⟩;rfl
 one:=by
  rintro _ _ _ _ ⟨v,rfl,b,ds,t,rfl,_⟩ u hu;rw[List.mem_singleton.1 hu];rfl
 fr:=by rintro _ _ _ _ _ _ ⟨v,rfl,H⟩ f q;exact⟨v,rfl,H.fr f q⟩
 mono:=by rintro _ _ _ _ _ ⟨v,rfl,H⟩ q;exact⟨v,rfl,H.mono q⟩
theorem QC {w:Nat}{ds:List Value}{n i:Nat}(A:ds.length=n*w)(hi:i<n):(el w ds i).length=w:=by
 have:i*w+w≤n*w:=by rw[←Nat.succ_mul];exact Nat.mul_le_mul_right w hi
 show((ds.drop (i*w)).take w).length=w;rw[List.length_take,List.length_drop];omega
theorem el_one {ds:List Value}{i:Nat}(hi:i<ds.length):el 1 ds i=[ds[i]]:=by
 show(ds.drop (i*1)).take 1=[ds[i]];rw[Nat.mul_one,List.drop_eq_getElem_cons hi];rfl
theorem QE {w:Nat}{ds cs:List Value}{n i:Nat}(A:ds.length=n*w)(hi:i<n):el w (ds++cs) i=el w ds i:=by
 have:i*w+w≤n*w:=by rw[←Nat.succ_mul];exact Nat.mul_le_mul_right w hi
 show((ds++cs).drop (i*w)).take w=(ds.drop (i*w)).take w;rw[List.drop_append_of_le_length (by omega),List.take_append_of_le_length (by rw[List.length_drop];omega)]
theorem QF {w:Nat}{ds cs:List Value}{n i:Nat}(A:ds.length=n*w)(hi:n≤i):el w (ds++cs) i=el w cs (i-n):=by
 have:n*w≤i*w:=Nat.mul_le_mul_right w hi;show((ds++cs).drop (i*w)).take w=(cs.drop ((i-n)*w)).take w;rw[List.drop_append, @List.drop_eq_nil_of_le _ ds _ (by omega),List.nil_append,A,Nat.sub_mul]
theorem el_self {w:Nat}{cs:List Value}(A:cs.length=w):el w cs 0=cs:=by
 show(cs.drop (0*w)).take w=cs;rw[Nat.zero_mul,List.drop_zero];exact List.take_of_length_le (by omega)
theorem Sl.atw {α:Type}{e:Rp α}{Z:Nat→Prop}{h:af}{v:Value}{l:List α}(H:Sl e Z h v l)(D:0<e.w){k:IntKind}{i:Nat}(hi:i<l.length):
  ∃p cs,aR e.w v (.int k (i:Int))=some p∧aH e.w h p=some (.agg (List.toArray cs))∧e.R Z h cs l[i]:=by
 obtain⟨ds,G,I,F⟩:=H;obtain⟨p,A,hq⟩:=G.atw D (k:=k) hi;exact⟨p,_,A,hq,F i hi⟩
theorem Sl.atp {α:Type}{e:Rp α}{Z:Nat→Prop}{h:af}{v:Value}{l:List α}(H:Sl e Z h v l)(hw:0<e.w){k:IntKind}{i:Nat}(hi:i<l.length):
  ∃b o cs,aR e.w v (.int k (i:Int))=some (.pointer (some ⟨b,o,none⟩))∧cs.length=e.w∧(∀j (G:j<cs.length),aB h ⟨b,o+j,none⟩=some cs[j])∧e.R Z h cs l[i]∧Z b:=by
 obtain⟨ds,⟨F,a,cap,rfl,I⟩,L,W⟩:=H;have A:i*e.w+e.w≤ds.length:=by rw[F,←Nat.succ_mul];exact Nat.mul_le_mul_right e.w hi
 have D:ds≠[]:=λh0=>by rw[h0]at A;simp at A;omega
 rcases I with h0|⟨b,o,rfl,I⟩
 ·exact absurd h0 D
 ·refine⟨b,o+i*e.w,el e.w ds i,pK hi,QC F hi,λj G=>?_,W i hi,L D b rfl⟩;have U:j<e.w:=by rw[QC F hi]at G;exact G
  have:=I (i*e.w+j) (by omega);rw[←Nat.add_assoc]at this;rw[this];simp
theorem Sl.at1 {α:Type}{e:Rp α}(A:e.w=1){Z:Nat→Prop}{h:af}{v:Value}{l:List α}(H:Sl e Z h v l){k:IntKind}{i:Nat}(hi:i<l.length):
  ∃p c,aR 1 v (.int k (i:Int))=some p∧ldV h p=some c∧e.R Z h [c] l[i]:=by
 obtain⟨ds,D,L,I⟩:=H;have G:=D.1;rw[A]at D;obtain⟨p,F,hq⟩:=D.at1 (k:=k) hi;refine⟨p,_,F,hq,?_⟩;have:=I i hi;rw[A,el_one (by rw[G,A];omega)]at this;exact this
def Ow {α:Type}(e:Rp α)(Z:Nat→Prop)(h:af)(v:Value)(l:List α):Prop:=
 ∃ds,Own e.w h v l.length ds∧(∀b,blk v b→¬Z b)∧∀i (hi:i<l.length),e.R Z h (el e.w ds i) l[i]
theorem Ow.nil {α:Type}{e:Rp α}{Z:Nat→Prop}{h:af}:Ow e Z h (.slice none 0 0) []:=⟨[],.inl ⟨rfl,rfl,rfl⟩,λb A=>A.elim,λi hi=>absurd hi (by simp)⟩
theorem Ow.fr {α:Type}{e:Rp α}{Z M:Nat→Prop}{h h':af}{v:Value}{l:List α}(H:Ow e Z h v l)(f:Fr M h h')(q:∀b,b<h.size→Z b→¬M b)(F:∀b,blk v b→¬M b):Ow e Z h' v l:=by
 obtain⟨ds,A,D,G⟩:=H;exact⟨ds,A.fr f F,D,λi hi=>e.fr (G i hi) f q⟩
theorem Ow.ext {α:Type}{e:Rp α}{Z:Nat→Prop}{h h':af}{v:Value}{l:List α}(H:Ow e Z h v l)(k:Ext h h'):Ow e Z h' v l:=H.fr (M:=λ_=>False) k.fr (λ_ _ _=>id) λ_ _=>id
theorem Ow.mono {α:Type}{e:Rp α}{Z Z':Nat→Prop}{h:af}{v:Value}{l:List α}(H:Ow e Z h v l)(q:∀b,b<h.size→Z b→Z' b)(A:∀b,blk v b→¬Z' b):Ow e Z' h v l:=by
 obtain⟨ds,F,G,D⟩:=H;exact⟨ds,F,A,λi hi=>e.mono (D i hi) q⟩
theorem Ow.lt {α:Type}{e:Rp α}{Z:Nat→Prop}{h:af}{v:Value}{l:List α}(H:Ow e Z h v l){b:Nat}(D:blk v b):b<h.size:=by
 obtain⟨ds,A,_⟩:=H;exact A.lt D
theorem Ow.isSl {α:Type}{e:Rp α}{Z:Nat→Prop}{h:af}{v:Value}{l:List α}(H:Ow e Z h v l):∃a cap,v=.slice a l.length cap:=by
 obtain⟨ds,A,_⟩:=H;exact A.isSl
theorem Ow.one {α:Type}{e:Rp α}{Z:Nat→Prop}{h:af}{v:Value}{l:List α}(H:Ow e Z h v l):aJ v=true:=by
 obtain⟨a,cap,rfl⟩:=H.isSl;rfl
theorem Ow.sl {α:Type}{e:Rp α}{Z:Nat→Prop}{h:af}{v:Value}{l:List α}(H:Ow e Z h v l):Sl e (λb=>Z b∨blk v b) h v l:=by
 obtain⟨ds,F,G,D⟩:=H;exact⟨ds,F.sl,λ_ b A=>.inr A,λi hi=>e.mono (D i hi) λ_ _ A=>.inl A⟩
theorem app_ow {α:Type}{e:Rp α}{Z:Nat→Prop}{z:Value}{t:TypeId}{bytes:Nat}{s x:Value}{h:af}{l l2:List α}{K:Value→af→Prop}
  {cs:List Value} (hs:Ow e Z h s l) (hc:SlC e.w h x l2.length cs) (F:∀i (hi:i<l2.length),e.R Z h (el e.w cs i) l2[i]) (hz:z.cells.size=e.w) (D:(l.length+l2.length)*bytes≤140737488355328) (hn:l.length+l2.length≤9223372036854775807) (hZ:∀b,Z b→b<h.size)
  (H:∀G h',Ow e Z h' G (l++l2)→Fr (blk s) h h'→(∀b,blk G b→blk s b∨h.size≤b)→K G h'):cF z t e.w bytes s x h K:=by
 obtain⟨ds,I,hd,he⟩:=hs;refine sI I hc ?_ hz D hn λG h' o' L n'=>H G h' ⟨ds++cs,?_,?_,?_⟩ L n'
 ·intro v hv;obtain⟨j,hj,rfl⟩:=List.mem_iff_getElem.1 hv;have U:=hc.1;have W:0<e.w:=by
   rcases Nat.eq_zero_or_pos e.w with h0|h0
   ·rw[h0,Nat.mul_zero]at U;omega
   ·exact h0
  have hi:j/e.w<l2.length:=by rw[Nat.div_lt_iff_lt_mul W];omega
  have:=e.one (F _ hi) (cs[j]) ?_
  ·exact this
  ·rw[List.mem_iff_getElem];have h1:j/e.w*e.w+j%e.w=j:=by rw[Nat.mul_comm];exact Nat.div_add_mod j e.w
   have h2:j%e.w<e.w:=Nat.mod_lt _ W;refine⟨j%e.w,by rw[QC U hi];exact h2,?_⟩;simp only[List.getElem_take,List.getElem_drop,h1]
 ·rw[List.length_append];exact o'
 ·intro b D A;rcases n' b D with h1|h1
  ·exact hd b h1 A
  ·have:=hZ b A;omega
 ·intro i hi;rw[List.length_append]at hi;by_cases h1:i<l.length
  ·rw[QE I.sl.1 h1,List.getElem_append_left h1];exact e.fr (he i h1) L λb _ A D=>hd b D A
  ·rw[QF I.sl.1 (by omega),List.getElem_append_right (by omega)];exact e.fr (F _ (by omega)) L λb _ A D=>hd b D A
theorem SlC.single {h:af}{b:Nat}{t:TypeId}{cs:List Value}(r:h[b]? =some (.cells cs.toArray t (0,0))):SlC cs.length h (.slice (some ⟨b,0,none⟩) 1 1) 1 cs:=
 ⟨by simp,_,1,rfl,.inr ⟨b,0,rfl,λj A=>by rw[Nat.zero_add,ai r];simp[A]⟩⟩
theorem LC:∀(cs:List Value) (c:Array Value) (o:Nat),(cs.zipIdx o).foldl (λcs (p:Value×Nat)=>cs.setIfInBounds p.2 p.1) c=wrL c o cs
 | [],c,o=>rfl
 |v::cs,c,o=>by
  simp only[List.zipIdx_cons,List.foldl_cons,wrL];exact LC cs _ (o+1)
theorem fill_whole {c:Array Value}{w:Nat}{cs:List Value}(hc:c.size=w)(A:cs.length=w):aF c [(0,w,.agg cs.toArray)]=some cs.toArray:=by
 simp only[aF,bG];rw[if_neg (by simp[A,hc])]
 congr 1
 rw[Array.zipIdx_toArray,List.foldl_toArray']
 ·simp only[Nat.zero_add];rw[LC,L7 cs c (by omega)]
 ·simp
theorem fill_one {z v:Value}(A:aJ v=true):aF #[z] [(0,1,v)]=some #[v]:=by
 simp only[aF,bT A];rw[if_neg (by simp)];simp
theorem push_ow {α:Type}{e:Rp α}{Z:Nat→Prop}{z:Value}{c:Array Value}{t L:TypeId}{bytes:Nat}{s:Value}{h:af}{l:List α}{cs:List Value}{x:α}{K:Value→af→Prop}
  (hs:Ow e Z h s l) (F:e.R Z h cs x) (hc:c.size=e.w) (U:z.cells.size=e.w) (hb:(l.length+1)*bytes≤140737488355328) (hn:l.length+1≤9223372036854775807) (hZ:∀b,Z b→b<h.size)
  (H:∀A h',Ow e Z h' A (l++[x])→Fr (blk s) h h'→(∀b,blk A b→blk s b∨h.size≤b)→K A h'):cE c t 1 [(0,e.w,.agg cs.toArray)] h λW h3=>cF z L e.w bytes s W h3 K:=by
 refine cz (fill_whole hc (e.len F)) λb h1 r1 D n1=>?_
 have I:=SlC.single r1;rw[e.len F]at I;refine app_ow (l2:=[x]) (hs.ext D) I (λi hi=>?_) U (by simpa using hb) (by simpa using hn) (λk G=>Nat.lt_of_lt_of_le (hZ k G) D.1) λA h' o' f' n'=>
  H A h' o' (D.fr.trans f') λk G=>(n' k G).imp id λh2=>Nat.le_trans D.1 h2
 have hi:i=0:=by simpa using hi
 subst hi;rw[el_self (e.len F)];exact e.ext F D
theorem push_ow1 {α:Type}{e:Rp α}{Z:Nat→Prop}{z z' c:Value}{t F:TypeId}{bytes:Nat}{s:Value}{h:af}{l:List α}{x:α}{K:Value→af→Prop}(L:e.w=1)
  (hs:Ow e Z h s l) (I:e.R Z h [c] x) (hz:z.cells.size=1) (hb:(l.length+1)*bytes≤140737488355328) (hn:l.length+1≤9223372036854775807) (hZ:∀b,Z b→b<h.size)
  (H:∀A h',Ow e Z h' A (l++[x])→Fr (blk s) h h'→(∀b,blk A b→blk s b∨h.size≤b)→K A h'):cE #[z'] t 1 [(0,1,c)] h λv2 h3=>cF z F 1 bytes s v2 h3 K:=by
 refine cz (fill_one (e.one I c (by simp))) λb h1 r1 D n1=>?_
 have U:=SlC.single (cs:=[c]) r1;rw[show[c].length=e.w by rw[L];rfl]at U;have W:cF z F 1 bytes s (.slice (some ⟨b,0,none⟩) 1 1) h1 K=cF z F e.w bytes s (.slice (some ⟨b,0,none⟩) 1 1) h1 K:=by rw[L]
 rw[W];refine app_ow (l2:=[x]) (hs.ext D) U (λi hi=>?_) (hz.trans L.symm) (by simpa using hb) (by simpa using hn) (λk G=>Nat.lt_of_lt_of_le (hZ k G) D.1) λA h' o' f' n'=>
  H A h' o' (D.fr.trans f') λk G=>(n' k G).imp id λh2=>Nat.le_trans D.1 h2
 have hi:i=0:=by simpa using hi
 subst hi;rw[el_self (e.len I)];exact e.ext I D
end Rp
theorem aQ:∀v∈([]:List Value),aJ v=true:=λv h=>absurd h (by simp)
theorem ak {a:Value}{l:List Value}(h:aJ a=true)(H:∀v∈l,aJ v=true):∀v∈a::l,aJ v=true:=λv A=>by
 rcases List.mem_cons.1 A with rfl|A
 ·exact h
 ·exact H v A
theorem aW {h:af}{b:Nat}{o:Obj}(r:h[b]? =some o):b<h.size:=(Array.getElem?_eq_some_iff.1 r).1
theorem aI {h:af}{body:(af→Prop)→Prop}(S:af→Prop)(A:S h)(H:body S):bC h body:=⟨S,A,H⟩
theorem cD {c:Array Value}{t:TypeId}{n:Nat}{cs:List Value}{h:af}{K:Value→af→Prop}(W:cs.length=c.size)(h1:∀v∈cs,aJ v=true)(L:cs.length=n)
  (H:∀b h',h'[b]? =some (.cells cs.toArray t (0,0))→Ext h h'→h.size≤b→K (.pointer (some ⟨b,0,none⟩)) h'):aP c t h λv D=>stK n v (.agg cs.toArray) D λ_ A=>K v A:=
 aC λb D r2 G F=>ch r2 W h1 L λA U I=>H b A U (G.upd F I) F
def I64 (n:Int):Prop:= -9223372036854775808≤n∧n≤9223372036854775807
def iB (m:Nat)(below:Bool):Int:=
 if below then(if 9223372036854775808≤m then-9223372036854775808 else-(m:Int))else(if 9223372036854775807<m then 9223372036854775807 else(m:Int))
def jl (a b:Int):Bool:= !(decide (a<0)==decide (b<0))
def ub (m d:Nat)(below:Bool):Nat:=m/d+(if below then(if d<2*(m%d)then 1 else 0)else(if d≤2*(m%d)then 1 else 0))
def Cf (m d:Nat)(below:Bool):Nat:=m/d+(if below∧m%d≠0 then 1 else 0)
def EQ (a b:Int):Int:=if b=0 then 0 else iB (Cf a.natAbs b.natAbs (jl a b)) (jl a b)
def cg (a b d:Int):Int:=if d=0 then 0 else iB (ub (a.natAbs*b.natAbs) d.natAbs (jl a b != decide (d<0))) (jl a b != decide (d<0))
def Ay (a b:Int):Int:=max (-9223372036854775808) (min (a+b) 9223372036854775807)
def VY (a b:Int):Int:=iB (a.natAbs*b.natAbs) (jl a b)
theorem LA (m:Nat)(b:Bool):I64 (iB m b):=by
 unfold iB I64;cases b
 ·simp only[Bool.false_eq_true,if_false];split<;>omega
 ·simp only[if_true];split<;>omega
theorem vJ (a b:Int):I64 (Ay a b):=by unfold Ay I64;omega
theorem gF (n:Int):IntKind.i64.wrap n=(n+9223372036854775808)%18446744073709551616-9223372036854775808:=by
 show(if(true&&decide (n%(2^64:Int)≥(2^63:Int)))=true then n%(2^64:Int)-(2^64:Int)else n%(2^64:Int))=_;split
 ·rename_i hh;simp only[Bool.true_and,decide_eq_true_eq]at hh;omega
 ·rename_i hh;simp only[Bool.true_and,decide_eq_true_eq]at hh;omega
theorem dF (n:Int):IntKind.u64.wrap n=n%18446744073709551616:=by simp[IntKind.wrap,IntKind.bits,IntKind.signed]
theorem eO {m:Nat}(h:m<18446744073709551616):IntKind.u64.wrap (m:Int)=(m:Int):=by rw[dF];omega
theorem NH {x:Int}(h:I64 x)(A:x<0):IntKind.u64.wrap (0-IntKind.u64.wrap x)=(x.natAbs:Int):=by
 unfold I64 at h;rw[dF,dF];omega
theorem NG {x:Int}(h:I64 x)(A:¬x<0):IntKind.u64.wrap x=(x.natAbs:Int):=by
 unfold I64 at h;rw[dF];omega
theorem OL (n i:Nat):n/2^i=2*(n/2^(i+1))+n/2^i%2:=by
 rw[Nat.pow_succ,←Nat.div_div_eq_div_mul];omega
theorem So {n d q r bit:Nat}(hd:0<d)(G:n/d=q)(D:n%d=r)(H:bit≤1):
  (2*n+bit)/d=2*q+(if d≤2*r+bit then 1 else 0)∧(2*n+bit)%d=(if d≤2*r+bit then 2*r+bit-d else 2*r+bit):=by
 have h:=Nat.div_add_mod n d;rw[G,D]at h;have F:r<d:=D▸Nat.mod_lt _ hd;have e:2*n+bit=d*(2*q)+(2*r+bit):=by
  rw[←h,Nat.mul_left_comm,Nat.mul_add];omega
 by_cases hc:d≤2*r+bit
 ·rw[if_pos hc,if_pos hc];have A:2*n+bit=(2*r+bit-d)+d*(2*q+1):=by rw[e,Nat.mul_add d (2*q) 1];omega
  rw[A];constructor
  ·rw[Nat.add_mul_div_left _ _ hd,Nat.div_eq_of_lt (by omega)];omega
  ·rw[Nat.add_mul_mod_self_left,Nat.mod_eq_of_lt (by omega)]
 ·rw[if_neg hc,if_neg hc];have A:2*n+bit=(2*r+bit)+d*(2*q):=by rw[e];omega
  rw[A];constructor
  ·rw[Nat.add_mul_div_left _ _ hd,Nat.div_eq_of_lt (by omega)];omega
  ·rw[Nat.add_mul_mod_self_left,Nat.mod_eq_of_lt (by omega)]
def l9 (n:Nat):Value:=.agg #[.int .u64 ((n/18446744073709551616:Nat):Int),.int .u64 ((n%18446744073709551616:Nat):Int)]
end Go.Crisp
namespace Go.Proofs.YtjljhnandbbldaaGreatDoor
open Go Go.Crisp
abbrev rI:Rp Int:=Rp.int .i64
structure OpD where
 kind:Int
 border:Int
 sigma:Int
 radius:Int
 x:List Int
 y:List Int
 filter:Int
 w:Int
 hh:Int
structure OpD.Wf (o:OpD):Prop where
 kind:I64 o.kind
 border:I64 o.border
 sigma:I64 o.sigma
 radius:I64 o.radius
 filter:I64 o.filter
 w:I64 o.w
 hh:I64 o.hh
 x:∀n∈o.x,I64 n
 y:∀n∈o.y,I64 n
def rOp:Rp OpD where
 w:=9
 R:=λZ h cs o=>∃s t,cs=[.int .i64 o.kind,.int .i64 o.border,.int .i64 o.sigma,.int .i64 o.radius,s,t,.int .i64 o.filter,.int .i64 o.w,.int .i64 o.hh]∧Rp.Sl rI Z h s o.x∧Rp.Sl rI Z h t o.y
 len:=by rintro _ _ _ _ ⟨s,t,rfl,_⟩;rfl
 one:=by
  rintro _ _ _ _ ⟨s,t,rfl,H,K⟩ v hv;have:=H.one;have:=K.one;simp only[List.mem_cons,List.not_mem_nil,or_false]at hv;rcases hv with rfl|rfl|rfl|rfl|rfl|rfl|rfl|rfl|rfl<;>first|rfl|assumption
 fr:=by rintro _ _ _ _ _ _ ⟨s,t,rfl,H,K⟩ f q;exact⟨s,t,rfl,H.fr f q,K.fr f q⟩
 mono:=by rintro _ _ _ _ _ ⟨s,t,rfl,H,K⟩ q;exact⟨s,t,rfl,H.mono q,K.mono q⟩
end Go.Proofs.YtjljhnandbbldaaGreatDoor
namespace Go.Crisp
open Go Go.ChangeShapes Go.WideShapes Go.ChangeAt Go.RowKit
inductive TS where
 |int (k:IntKind)
 |bool
 |str
 |sl (e:TS) (z:Nat)
 |st (b:TS)
 |unit
 |pair (a b:TS)
def TS.T:TS→Type
 | .int _=>Int
 | .bool=>Bool
 | .str=>ByteArray
 | .sl e _=>List e.T
 | .st b=>b.T
 | .unit=>Unit
 | .pair a b=>a.T×b.T
def TS.w:TS→Nat
 | .int _=>1
 | .bool=>1
 | .str=>1
 | .sl _ _=>1
 | .st b=>b.w
 | .unit=>0
 | .pair a b=>a.w+b.w
def Rd:(t:TS)→af→List Value→t.T→Prop
 | .int k,_,cs,n=>cs=[.int k n]∧(Lit.int k n).wf=true
 | .bool,_,cs,b=>cs=[.bool b]
 | .str,_,cs,s=>cs=[.string s]∧s.size≤140737488351232
 | .sl e z,h,cs,l=>∃a cap,cs=[.slice a (List.length l) cap]∧List.length l≤cap∧cap≤maxLen∧cap*z≤140737488351232∧
   (List.length l=0∨∃b o,(e.w=0∨a=some ⟨b,o,none⟩)∧∀i (hi:i<List.length l),∃ds:List Value,ds.length=e.w∧
    (∀j (hj:j<ds.length),aB h ⟨b,o+i*e.w+j,none⟩=some ds[j])∧Rd e h ds (List.get (α:=e.T) l ⟨i,hi⟩))
 | .st b,h,cs,x=>Rd b h cs x
 | .unit,_,cs,_=>cs=[]
 | .pair a b,h,cs,x=>∃c1 c2,cs=c1++c2∧Rd a h c1 x.1∧Rd b h c2 x.2
mutual
/--The type has this shape. -/
def TS.okB (P:Program):TS→TypeId→Bool
 | .int k,t=>match P.underlying t with|some (.int k')=>decide (k'=k)|_=>false
 | .bool,t=>match P.underlying t with|some .bool=>true|_=>false
 | .str,t=>match P.underlying t with|some .string=>true|_=>false
 | .sl e z,t=>match P.underlying t with|some (.slice e')=>P.cellsOf e'==e.w&&P.bytesOf e'==z&&e.okB P e'|_=>false
 | .st b,t=>match P.underlying t with|some (.struct fs)=>P.cellsOf t==b.w&&b.okF P fs.toList 0|_=>false
 |_,_=>false
/--The fields have these shapes,from this place on. -/
def TS.okF (P:Program):TS→List Field→Nat→Bool
 | .unit,fs,_=>match fs with| []=>true|_=>false
 | .pair a b,fs,n=>match fs with| []=>false|f::fs=>f.offset==n&&P.cellsOf f.type==a.w&&a.okB P f.type&&b.okF P fs (n+a.w)
 |_,_,_=>false
end
def xz (l:List Nat):Prop:=∀n∈l,n≤140737488351232
theorem D7 (b o n:Nat):(⟨b,o,none⟩:Addr).add n=⟨b,o+n,none⟩:=by
 unfold Addr.add;split<;>simp_all
theorem Ci {w:World}{a:Addr}{n:Nat}{l:List Value}(h:w.cells? 0 a n=some l):l.length=n∧∀j (A:j<l.length),aB w.heap (a.add j)=some l[j]:=by
 unfold World.cells? at h;rw[if_pos (Nat.zero_le _)]at h;have D:l.length=n:=by simpa using mapM_some_length h
 refine⟨D,λj A=>?_⟩;have:=mapM_some_get h j j (by simp[←D,A]);rw[List.getElem?_eq_getElem A]at this;exact this
theorem vB {a b:List Nat}(h:xz (a++b)):xz a∧xz b:=⟨λn A=>h n (List.mem_append.2 (.inl A)),λn A=>h n (List.mem_append.2 (.inr A))⟩
theorem IL {a:Nat}{b:List Nat}(h:xz (a::b)):a≤140737488351232∧xz b:=⟨h a (List.mem_cons_self ..),λn A=>h n (List.mem_cons_of_mem _ A)⟩
theorem Lp {H:Type}{P:Program}{e:TypeId}:∀{l:List (DataW H)},xz (DataW.weightsAll P e l)→∀d∈l,xz (d.weights P e)
 | [],_,d,hd=>by cases hd
 |x::r,h,d,hd=>by
  rw[DataW.weightsAll]at h;rcases List.mem_cons.1 hd with rfl|hd
  ·exact(vB h).1
  ·exact Lp (vB h).2 d hd
theorem VN {H:Type}{ar:TypeId×Value→H}{P:Program}{w:World}{held:Bool}(t:TS):
  (∀(id:TypeId) (A:Nat) (cs:List Value) (x:DataW H×List MemPlace),t.okB P id=true→DataW.trod ar P w 0 (λ_=>true) held A id cs=some x→xz (x.1.weights P id)→∃d:t.T,Rd t w.heap cs d)∧
  (∀(fs:List Field) (off A:Nat) (cs:List Value) (xs:List (DataW H×List MemPlace)),t.okF P fs off=true→off+t.w=cs.length→
   fs.mapM (λf=>DataW.trod ar P w 0 (λ_=>true) held A f.type ((cs.drop f.offset).take (P.cellsOf f.type)))=some xs→xz (DataW.weightsEach P (fs.map (·.type)) (xs.map (·.1)))→∃d:t.T,Rd t w.heap (cs.drop off) d):=by
 induction t with
 |int k=>
  refine⟨λid A cs x ok h F=>?_,λ_ _ _ _ _ ok=>by simp[TS.okF]at ok⟩;rw[TS.okB]at ok;split at ok<;>simp at ok
  rename_i k' I;subst ok;obtain⟨n,rfl,_,hn⟩:=DataW.trod_int I h;exact⟨n,rfl,hn⟩
 |bool=>
  refine⟨λid A cs x ok h F=>?_,λ_ _ _ _ _ ok=>by simp[TS.okF]at ok⟩;rw[TS.okB]at ok;split at ok<;>simp at ok
  rename_i I;obtain⟨n,rfl,_⟩:=DataW.trod_bool I h;exact⟨n,by simp[Rd]⟩
 |str=>
  refine⟨λid A cs x ok h F=>?_,λ_ _ _ _ _ ok=>by simp[TS.okF]at ok⟩;rw[TS.okB]at ok;split at ok<;>simp at ok
  rename_i I;obtain⟨s,rfl,rfl,_⟩:=DataW.trod_string I h;simp only[DataW.weights]at F;have:=(IL F).1;exact⟨s,rfl,by rw[Array.length_toList]at this;exact this⟩
 | sl e z ih=>
  refine⟨λid A cs x ok h F=>?_,λ_ _ _ _ _ ok=>by simp[TS.okF]at ok⟩;rw[TS.okB]at ok;split at ok<;>simp at ok
  rename_i e' I;obtain⟨⟨hc,hz⟩,ok⟩:=ok;rcases DataW.trod_slice I h with⟨rfl,rfl⟩|⟨a,len,cap,L,rest,n,rfl,rfl,rfl,_,bc,ax,b3,hi,be,_⟩
  ·exact⟨([]:List e.T),none,0,rfl,Nat.le_refl _,Nat.zero_le _,by simp,.inl rfl⟩
  ·obtain⟨b1,_⟩:=be rfl;rw[DataW.weights,I]at F;simp only[List.length_map]at F;obtain⟨ad,F⟩:=IL F;have F:=Lp (vB F).1;have ab:L.length+rest.length=cap:=by omega
   rw[ab,hz]at ad;have each:∀i,i<len→∃(ds:List Value) (x:e.T),ds.length=e.w∧(∀j (W:j<ds.length),aB w.heap ((a.add (i*e.w)).add j)=some ds[j])∧Rd e w.heap ds x:=by
    intro i D;have h1:=hi i D;have an:i<L.length:=by omega
    rw[List.getElem?_eq_getElem an]at h1;rw[Option.bind_eq_some_iff]at h1;obtain⟨ds,al,h1⟩:=h1;rw[hc]at al;obtain⟨U,W⟩:=Ci al;obtain⟨x,hx⟩:=ih.1 e' n ds _ ok h1 (F _ (List.mem_map.2 ⟨_,List.getElem_mem an,rfl⟩));exact⟨ds,x,U,W,hx⟩
   let f (i:Nat):Option e.T:=if D:i<len then some (each i D).choose_spec.choose else none
   have hf:∀i,i<len→∃y,f i=some y:=λi D=>⟨_,dif_pos D⟩
   obtain⟨l,U⟩:∃l,(List.range len).mapM f=some l:=by
    have:∀(r:List Nat),(∀i∈r,i<len)→∃l,r.mapM f=some l:=by
     intro r;induction r with
     |nil=>exact λ_=>⟨[],rfl⟩
     |cons i r a9=>
      intro hr;obtain⟨y,hy⟩:=hf i (hr i (List.mem_cons_self ..));obtain⟨l,U⟩:=a9 λk I=>hr k (List.mem_cons_of_mem _ I)
      exact⟨y::l,by simp[List.mapM_cons,hy,U]⟩
    exact this _ λi hi=>List.mem_range.1 hi
   have aa:l.length=len:=by simpa using mapM_some_length U
   refine⟨l,some a,cap,by rw[aa],by rw[aa];exact bc,ax,ad,?_⟩;by_cases au:List.length l=0
   ·exact .inl au
   ·have hs:e.w=0∨a=⟨a.block,a.off,none⟩:=by
     by_cases h0:e.w=0
     ·exact .inl h0
     ·refine .inr ?_;obtain⟨ds,x,b2,W,_⟩:=each 0 (by omega);have W:=W 0 (by omega);obtain⟨b,o,sp⟩:=a;cases sp with
      |none=>rfl
      |some s=>simp[aB,Addr.add]at W;split at W<;>simp at W
    refine .inr ⟨a.block,a.off,hs.imp (λh=>h) (congrArg some),λi D=>?_⟩
    ·have G:i<len:=by rw[←aa];exact D
     obtain⟨h1,h2,h3⟩:=(each i G).choose_spec.choose_spec;have hx:l.get ⟨i,D⟩=(each i G).choose_spec.choose:=by
      have:=mapM_some_get U i i (by simp[G]);rw[show f i=some (each i G).choose_spec.choose from dif_pos G,List.getElem?_eq_getElem D]at this;exact(Option.some.inj this).symm
     refine⟨(each i G).choose,h1,λj W=>?_,?_⟩
     ·have h2:=h2 j W;rcases hs with h0|ha
      ·omega
      ·have a8:(a.add (i*e.w)).add j=⟨a.block,a.off+i*e.w+j,none⟩:=by rw[ha,D7,D7]
       exact a8▸h2
     ·rw[show List.get (α:=e.T) l ⟨i,D⟩=_ from hx];exact h3
 | st b ih=>
  refine⟨λid A cs x ok h F=>?_,λ_ _ _ _ _ ok=>by simp[TS.okF]at ok⟩;rw[TS.okB]at ok;split at ok<;>simp at ok
  rename_i fs I;obtain⟨hc,ok⟩:=ok;cases A with
  |zero=>simp[DataW.trod]at h
  | succ n=>
   unfold DataW.trod at h;rw[I]at h;simp only at h;split at h
   ·rename_i bd;rw[Option.map_eq_some_iff]at h;obtain⟨xs,bg,rfl⟩:=h;rw[DataW.weights,I]at F;obtain⟨d,hd⟩:=ih.2 fs.toList 0 n cs xs ok (by rw[bd,hc];omega) bg F;exact⟨d,by simpa[Rd]using hd⟩
   ·simp at h
 |unit=>
  refine⟨λid A cs x ok h F=>by simp[TS.okB]at ok,λfs off A cs xs ok U h F=>⟨(),?_⟩⟩;simp only[Rd];simp[TS.w]at U;exact List.drop_eq_nil_of_le (by omega)
 | pair a b a7 aw=>
  refine⟨λid A cs x ok h F=>by simp[TS.okB]at ok,λfs off A cs xs ok U h F=>?_⟩;cases fs with
  |nil=>simp[TS.okF]at ok
  |cons f fs=>
   simp[TS.okF]at ok;obtain⟨⟨⟨ho,hc⟩,bo⟩,bv⟩:=ok;rw[List.mapM_cons]at h;simp only[Option.bind_eq_bind,Option.bind_eq_some_iff,Option.pure_def,Option.some.injEq]at h;obtain⟨x,hx,ys,b0,rfl⟩:=h;simp only[List.map_cons,DataW.weightsEach]at F;obtain⟨ay,bk⟩:=vB F;obtain⟨d1,h1⟩:=a7.1 f.type A _ x bo hx ay;obtain⟨d2,h2⟩:=aw.2 fs (off+a.w) A cs ys bv (by simp[TS.w]at U;omega) b0 bk;refine⟨(d1,d2),(cs.drop off).take a.w,cs.drop (off+a.w),?_,?_,h2⟩
   ·rw[←List.drop_drop];exact(List.take_append_drop ..).symm
   ·rw[←hc,←ho];exact h1
def RdV:(t:TS)→af→Value→t.T→Prop
 | .st b,h,v,x=>∃cs:Array Value,v=.agg cs∧Rd b h cs.toList x
 | .int k,h,v,x=>Rd (.int k) h [v] x
 | .bool,h,v,x=>Rd .bool h [v] x
 | .str,h,v,x=>Rd .str h [v] x
 | .sl e z,h,v,x=>Rd (.sl e z) h [v] x
 |_,_,_,_=>False
def sV:List TS→af→List Value→Prop
 | [],_,vs=>vs=[]
 |t::ts,h,vs=>∃v r,vs=v::r∧(∃x:t.T,RdV t h v x)∧sV ts h r
def DG (P:Program):List TS→List TypeId→Bool
 | [],ids=>match ids with| []=>true|_=>false
 |t::ts,ids=>match ids with| []=>false|id::ids=>t.okB P id&&DG P ts ids
theorem XF {H:Type}{L:TypeId×Value→H}{P:Program}{w:World}{held:Bool}{r:Reach}{I:Nat}{t:TS}{id:TypeId}{v:Value}{d:DataW H}{W:List MemPlace}
  (ok:t.okB P id=true) (A:Value.okWide P w r I id v) (h:DataW.Trod L P w 0 (λ_=>true) held id v d W) (hw:xz (d.weights P id)):∃x:t.T,RdV t w.heap v x:=by
 obtain⟨G,U⟩:=h;obtain⟨x,F⟩:=(VN t).1 id G _ _ ok U hw;cases t with
 |int k=>
  rw[TS.okB]at ok;split at ok<;>simp at ok
  rename_i D;obtain⟨n,rfl⟩:=okWide_int D A;exact⟨x,F⟩
 |bool=>
  rw[TS.okB]at ok;split at ok<;>simp at ok
  rename_i D;obtain⟨n,rfl⟩:=okWide_bool D A;exact⟨x,F⟩
 |str=>
  rw[TS.okB]at ok;split at ok<;>simp at ok
  rename_i D;obtain⟨n,rfl⟩:=okWide_string D A;exact⟨x,F⟩
 |sl e z=>
  rw[TS.okB]at ok;split at ok<;>simp at ok
  rename_i D;obtain⟨a,l,c,rfl⟩:=okWide_slice D A;exact⟨x,F⟩
 |st b=>
  rw[TS.okB]at ok;split at ok<;>simp at ok
  rename_i D;obtain⟨cs,rfl,_⟩:=okWide_struct D A;exact⟨x,cs,rfl,F⟩
 |unit=>simp[TS.okB]at ok
 |pair a b=>simp[TS.okB]at ok
theorem R0 {H:Type}{F:TypeId×Value→H}{P:Program}{w:World}{held:Bool}{r:Reach}{A:Nat}:∀{G:List TS} {ids:List TypeId} {D:List Value} {ds:List (DataW H)} {L:List MemPlace},
  DG P G ids=true→(∀(j:Nat) t v,ids[j]? =some t→D[j]? =some v→Value.okWide P w r A t v)→DataW.TrodAll F P w 0 (λ_=>true) held ids D ds L→
  xz (DataW.weightsEach P ids ds)→sV G w.heap D
 | [],ids,D,ds,L,ok,_,h,_=>by
  cases ids with
  |nil=>exact(trodAll_nil h).1
  |cons=>simp[DG]at ok
 | t::G,ids,D,ds,L,ok,hval,h,hw=>by
  cases ids with
  |nil=>simp[DG]at ok
  |cons id ids=>
   simp[DG]at ok;obtain⟨v,I,d,aa,p,q,rfl,rfl,rfl,h1,h2⟩:=trodAll_cons h;rw[DataW.weightsEach]at hw;obtain⟨W,U⟩:=vB hw;exact⟨v,I,rfl,XF ok.1 (hval 0 id v rfl rfl) h1 W,R0 ok.2 (λj t v ht hv=>hval (j+1) t v ht hv) h2 U⟩
theorem LJ {H:Type}{A:TypeId×Value→H}{P:Program}{W G:World}(I:laidOutB P=true)(L:Below W.heap.size W G):∀{ids:List TypeId} {F:List Value} {ds:List (DataW H)} {D:List MemPlace},
  ids.all (λt=>P.readableRec t&&decide (t<P.types.size))=true→DataW.TrodAll A P W 0 (λ_=>true) true ids F ds D→DataW.TrodAll A P G 0 (λb=>decide (b<W.heap.size)) true ids F ds D
 | [],F,ds,D,_,h=>by obtain⟨rfl,rfl,rfl⟩:=trodAll_nil h;exact trodAll_mk0
 |t::ids,F,ds,D,hr,h=>by
  simp only[List.all_cons,Bool.and_eq_true,decide_eq_true_eq]at hr;obtain⟨v,ab,d,aa,p,q,rfl,rfl,rfl,h1,h2⟩:=trodAll_cons h;refine trodAll_cons_mk (Below.trod I hr.1.1 hr.1.2 h1 L ?_) (LJ I L hr.2 h2);obtain⟨m,U⟩:=h1;exact DataW.trod_lt m _ _ _ U
end Go.Crisp
namespace Go.Crisp
open Go
theorem PQ {e:TS}{z:Nat}{h:af}{cs:List Value}{l:List e.T}(D:e.T→Value)(Q:e.T→Prop)(hw:e.w=1)(W:∀ds x,Rd e h ds x→ds=[D x]∧Q x)(H:Rd (.sl e z) h cs l):
  ∃v,cs=[v]∧SlC 1 h v l.length (l.map D)∧(∀x∈l,Q x)∧l.length*z≤140737488351232:=by
 obtain⟨a,cap,rfl,h1,_,h2,A⟩:=H;have L:l.length*z≤140737488351232:=Nat.le_trans (Nat.mul_le_mul_right z h1) h2;rcases A with A|⟨b,o,I,A⟩
 ·have:l=[]:=List.eq_nil_of_length_eq_zero A;subst this;exact⟨_,rfl,⟨rfl,a,cap,rfl,.inl rfl⟩,λx G=>absurd G (by simp),L⟩
 ·have I:a=some ⟨b,o,none⟩:=I.resolve_left (by omega);refine⟨_,rfl,⟨by simp,a,cap,rfl,.inr ⟨b,o,I,λj U=>?_⟩⟩,λx G=>?_,L⟩
  ·rw[List.length_map]at U;obtain⟨ds,_,hc,F⟩:=A j U;obtain⟨rfl,_⟩:=W _ _ F;have:=hc 0 (by simp);rw[hw]at this;simp only[Nat.mul_one,Nat.add_zero,List.getElem_cons_zero]at this;rw[List.getElem_map];exact this
  ·obtain⟨i,hi,rfl⟩:=List.mem_iff_getElem.1 G;obtain⟨ds,_,hc,F⟩:=A i hi;exact(W _ _ F).2
theorem Xn {n:Int}(h:(Lit.int .u8 n).wf=true):0≤n∧n≤255:=by
 have h:(decide (IntKind.u8.min≤n)&&decide (n≤IntKind.u8.max))=true:=h;rw[Bool.and_eq_true,decide_eq_true_eq,decide_eq_true_eq]at h;exact h
theorem y6 {n:Int}(h:(Lit.int .i64 n).wf=true): -9223372036854775808≤n∧n≤9223372036854775807:=by
 have h:(decide (IntKind.i64.min≤n)&&decide (n≤IntKind.i64.max))=true:=h;rw[Bool.and_eq_true,decide_eq_true_eq,decide_eq_true_eq]at h;exact h
theorem XC {h:af}{cs:List Value}{z:Nat}{l:List Int}(H:Rd (.sl (.int .u8) z) h cs l):
  ∃v,cs=[v]∧SlC 1 h v l.length (l.map (.int .u8))∧(∀x∈l,0≤x∧x≤255)∧l.length*z≤140737488351232:=
 PQ (e:=.int .u8) (Value.int .u8) (λx:Int=>0≤x∧x≤255) rfl (λds x A=>⟨A.1,Xn A.2⟩) H
theorem VL (e:EK)(k:IntKind)(a b:Nat)(h:0<b):ag e .rem (.int k (a:Int)) (.int k (b:Int))=some (.int k ((a%b:Nat):Int)):=by
 rw[dc _ _ _ _ (by omega),Int.ofNat_tmod]
end Go.Crisp
namespace Go.Proofs.YtjljhnandbbldaaGreatDoor
open Go Go.Crisp
abbrev tI:TS:=.int .i64
abbrev tIs:TS:=.sl (.int .i64) 8
abbrev tOp:TS:=.pair tI (.pair tI (.pair tI (.pair tI (.pair tIs (.pair tIs (.pair tI (.pair tI (.pair tI .unit))))))))
def Od (x:tOp.T):OpD:=⟨x.1,x.2.1,x.2.2.1,x.2.2.2.1,x.2.2.2.2.1,x.2.2.2.2.2.1,x.2.2.2.2.2.2.1,x.2.2.2.2.2.2.2.1,x.2.2.2.2.2.2.2.2.1⟩
theorem Sf {h:af}{v:Value}{l:List Int}(H:SlC 1 h v l.length (l.map (Value.int .i64))):Rp.Sl rI (λ_=>True) h v l:=
 ⟨_,H,λ_ _ _=>trivial,λi hi=>by
  show Rp.el 1 _ i=[.int .i64 l[i]];rw[Rp.el_one (by simpa using hi),List.getElem_map]⟩
theorem RD {h:af}{cs:List Value}{l:List Int}(H:Rd tIs h cs l):∃v,cs=[v]∧Rp.Sl rI (λ_=>True) h v l∧∀n∈l,I64 n:=by
 obtain⟨v,rfl,h1,D,_⟩:=PQ (e:=.int .i64) (Value.int .i64) I64 rfl (λds x A=>⟨A.1,y6 A.2⟩) H;exact⟨v,rfl,Sf h1,D⟩
theorem Xp {h:af}{cs:List Value}{x:tOp.T}(H:Rd tOp h cs x):rOp.R (λ_=>True) h cs (Od x)∧(Od x).Wf:=by
 obtain⟨_,_,rfl,⟨rfl,a1⟩,_,_,rfl,⟨rfl,a2⟩,_,_,rfl,⟨rfl,a3⟩,_,_,rfl,⟨rfl,a4⟩,_,_,rfl,a5,_,_,rfl,a6,_,_,rfl,⟨rfl,I⟩,_,_,rfl,⟨rfl,A⟩,_,_,rfl,⟨rfl,G⟩,rfl⟩:=H;obtain⟨s,rfl,D,F⟩:=RD a5;obtain⟨t,rfl,t1,t2⟩:=RD a6;exact⟨⟨s,t,rfl,D,t1⟩,⟨y6 a1,y6 a2,y6 a3,y6 a4,y6 I,y6 A,y6 G,F,t2⟩⟩
theorem XL {h:af}{cs:List Value}{x:tOp.T}(H:Rd tOp h cs x):(Od x).x.length≤17592186044416∧(Od x).y.length≤17592186044416:=by
 obtain⟨_,_,rfl,_,_,_,rfl,_,_,_,rfl,_,_,_,rfl,_,_,_,rfl,a5,_,_,rfl,a6,_⟩:=H;obtain⟨_,L,_,h1,_,I,_⟩:=a5;obtain⟨_,U,_,F,_,G,_⟩:=a6;have A:(Od x).x.length=List.length (α:=tI.T) x.2.2.2.2.1:=rfl;have D:(Od x).y.length=List.length (α:=tI.T) x.2.2.2.2.2.1:=rfl;rw[A,D];omega
end Go.Proofs.YtjljhnandbbldaaGreatDoor
namespace Go.Proofs.YtjljhnandbbldaaGreatDoor
open Go Go.Crisp
open _root_.Go.Proofs.Tryz
section
variable {a0 a1 a2 a3 a4 a5 a6:Value}{h:af}{R:Value→af→Prop}
abbrev kh:FuncId:=4
abbrev iW:FuncId:=7
abbrev oH:FuncId:=8
abbrev uk:FuncId:=9
abbrev gB:FuncId:=10
abbrev jH:FuncId:=11
abbrev fT:FuncId:=12
abbrev io:FuncId:=13
abbrev mF:FuncId:=14
abbrev uH:FuncId:=15
abbrev aO:FuncId:=16
abbrev kf:FuncId:=17
abbrev mE:FuncId:=18
abbrev bD:FuncId:=28
abbrev bF:FuncId:=29
abbrev pT:FuncId:=31
abbrev lB:FuncId:=32
abbrev uJ:FuncId:=33
abbrev uI:FuncId:=34
abbrev wR:FuncId:=35
abbrev kV:FuncId:=36
abbrev fi:FuncId:=37
abbrev dE:FuncId:=38
abbrev fV:FuncId:=39
abbrev zG:FuncId:=40
abbrev jS:FuncId:=41
abbrev oe:FuncId:=42
abbrev nW:FuncId:=43
abbrev ja:FuncId:=44
abbrev ii:FuncId:=45
abbrev dj:FuncId:=46
abbrev qh:FuncId:=47
abbrev sK:FuncId:=48
abbrev gC:FuncId:=49
abbrev oG:FuncId:=56
abbrev gx:FuncId:=59
abbrev eZ:FuncId:=60
abbrev JY:FuncId:=61
abbrev ru:FuncId:=62
abbrev zO:FuncId:=63
abbrev mc:FuncId:=64
abbrev lz:FuncId:=65
abbrev uK:FuncId:=66
abbrev ce:FuncId:=67
abbrev dt:FuncId:=68
abbrev gR:FuncId:=69
abbrev jc:FuncId:=70
abbrev iq:FuncId:=71
abbrev bB:FuncId:=72
abbrev cJ:FuncId:=73
abbrev wS:FuncId:=74
abbrev lC:FuncId:=75
abbrev db:FuncId:=76
abbrev pU:FuncId:=77
abbrev ke:FuncId:=78
abbrev gy:FuncId:=79
abbrev wW:FuncId:=80
abbrev sT:FuncId:=81
abbrev JZ:FuncId:=82
abbrev zH:FuncId:=83
abbrev wV:FuncId:=84
abbrev jG:FuncId:=85
abbrev jF:FuncId:=86
abbrev jE:FuncId:=87
abbrev uD:FuncId:=88
abbrev qZ:FuncId:=89
abbrev fX:FuncId:=90
abbrev gA:FuncId:=91
abbrev og:FuncId:=92
abbrev kU:FuncId:=93
abbrev fW:FuncId:=94
abbrev eN:FuncId:=95
abbrev fC:FuncId:=96
abbrev nZ:FuncId:=97
abbrev iK:FuncId:=98
abbrev mD:FuncId:=99
abbrev gd:FuncId:=100
abbrev fD:FuncId:=101
abbrev rk:FuncId:=102
abbrev eM:FuncId:=103
abbrev kH:FuncId:=104
abbrev bh:FuncId:=105
abbrev sS:FuncId:=106
abbrev sQ:FuncId:=112
abbrev oL:FuncId:=113
abbrev ku:FuncId:=117
abbrev oM:FuncId:=118
abbrev wQ:FuncId:=119
abbrev jC:FuncId:=120
abbrev wT:FuncId:=121
abbrev ml:FuncId:=122
abbrev uM:FuncId:=123
abbrev uL:FuncId:=124
abbrev me:FuncId:=125
abbrev fh:FuncId:=126
abbrev cZ:FuncId:=127
abbrev jd:FuncId:=128
abbrev jA:FuncId:=129
abbrev gJ:FuncId:=130
abbrev eG:FuncId:=131
abbrev ui:FuncId:=132
abbrev kg:FuncId:=133
abbrev js:FuncId:=134
abbrev cQ:FuncId:=135
abbrev Fh:FuncId:=136
abbrev q8:FuncId:=137
abbrev wK:FuncId:=138
abbrev wJ:FuncId:=139
abbrev zP:FuncId:=140
abbrev wI:FuncId:=141
abbrev oC:FuncId:=142
abbrev Cv:FuncId:=143
abbrev ir:FuncId:=144
abbrev ft:FuncId:=145
abbrev w7:FuncId:=146
abbrev mq:FuncId:=147
abbrev jI:FuncId:=148
abbrev kL:FuncId:=149
abbrev eF:FuncId:=150
abbrev fB:FuncId:=151
abbrev cC:FuncId:=152
abbrev c5:FuncId:=153
abbrev uR:FuncId:=157
abbrev uS:FuncId:=158
abbrev mh:FuncId:=162
abbrev Aj:FuncId:=163
abbrev ij:FuncId:=164
abbrev jp:FuncId:=165
abbrev kJ:FuncId:=166
abbrev zF:FuncId:=167
abbrev pS:FuncId:=168
abbrev oJ:FuncId:=169
abbrev uN:FuncId:=170
abbrev sU:FuncId:=171
abbrev sJ:FuncId:=172
abbrev Cu:FuncId:=173
abbrev gq:FuncId:=174
abbrev ka:FuncId:=175
abbrev kT:FuncId:=176
abbrev jD:FuncId:=177
abbrev wU:FuncId:=178
abbrev jQ:FuncId:=179
abbrev mz:FuncId:=180
abbrev nT:FuncId:=181
abbrev wL:FuncId:=182
abbrev mB:FuncId:=183
abbrev mA:FuncId:=184
abbrev oK:FuncId:=185
abbrev pV:FuncId:=186
abbrev eJ:FuncId:=188
abbrev uj:FuncId:=199
abbrev wO:FuncId:=200
abbrev zN:FuncId:=201
abbrev wG:FuncId:=202
abbrev wH:FuncId:=203
abbrev iY:FuncId:=204
abbrev dB:FuncId:=205
abbrev kc:FuncId:=206
abbrev ki:FuncId:=207
abbrev uf:FuncId:=208
abbrev wZ:FuncId:=209
abbrev eI:FuncId:=210
abbrev dw:FuncId:=211
abbrev uO:FuncId:=212
abbrev iM:FuncId:=213
abbrev eK:FuncId:=214
abbrev mH:FuncId:=215
abbrev w6:FuncId:=216
abbrev mf:FuncId:=217
abbrev jn:FuncId:=218
abbrev nR:FuncId:=219
abbrev kb:FuncId:=220
abbrev qe:FuncId:=221
abbrev ms:FuncId:=222
abbrev qa:FuncId:=223
abbrev my:FuncId:=224
abbrev uh:FuncId:=225
abbrev gu:FuncId:=226
abbrev uG:FuncId:=227
abbrev uE:FuncId:=228
abbrev cH:FuncId:=229
abbrev Fg:FuncId:=236
abbrev wN:FuncId:=237
abbrev sP:FuncId:=238
abbrev sN:FuncId:=239
abbrev de:FuncId:=240
abbrev kI:FuncId:=241
abbrev ue:FuncId:=242
abbrev ul:FuncId:=243
abbrev gE:FuncId:=244
abbrev jT:FuncId:=245
abbrev fR:FuncId:=246
abbrev jr:FuncId:=247
abbrev iX:FuncId:=248
abbrev Cw:FuncId:=249
abbrev wY:FuncId:=250
abbrev qi:FuncId:=251
abbrev mg:FuncId:=252
abbrev pR:FuncId:=253
abbrev du:FuncId:=254
abbrev mG:FuncId:=255
abbrev fj:FuncId:=256
abbrev uQ:FuncId:=257
abbrev uP:FuncId:=258
abbrev ri:FuncId:=259
abbrev kK:FuncId:=260
abbrev mu:FuncId:=261
abbrev nQ:FuncId:=262
abbrev mo:FuncId:=263
abbrev zJ:FuncId:=264
abbrev nU:FuncId:=265
abbrev sO:FuncId:=266
abbrev rh:FuncId:=267
abbrev zI:FuncId:=268
abbrev oF:FuncId:=269
abbrev ks:FuncId:=270
abbrev zL:FuncId:=271
abbrev uF:FuncId:=272
abbrev q9:FuncId:=273
abbrev oD:FuncId:=274
abbrev eT:FuncId:=275
abbrev qg:FuncId:=276
abbrev Ct:FuncId:=278
abbrev ug:FuncId:=279
abbrev p9:FuncId:=280
abbrev oB:FuncId:=281
abbrev ga:FuncId:=282
abbrev zQ:FuncId:=283
abbrev cI:FuncId:=284
abbrev bJ:FuncId:=285
abbrev Ec:FuncId:=286
abbrev jq:FuncId:=287
abbrev fU:FuncId:=288
abbrev fG:FuncId:=289
abbrev mm:FuncId:=290
abbrev dy:FuncId:=291
abbrev jR:FuncId:=292
abbrev wM:FuncId:=293
abbrev qf:FuncId:=294
abbrev rj:FuncId:=295
abbrev gv:FuncId:=296
abbrev da:FuncId:=297
abbrev dO:FuncId:=298
abbrev gw:FuncId:=299
abbrev oE:FuncId:=300
abbrev iL:FuncId:=301
abbrev qY:FuncId:=302
abbrev wF:FuncId:=303
abbrev fS:FuncId:=304
abbrev cW:FuncId:=306
abbrev zK:FuncId:=307
abbrev nV:FuncId:=308
abbrev mC:FuncId:=309
abbrev cB:FuncId:=310
abbrev ma:Nat:=0
abbrev dZ:Nat:=1
abbrev vN:Nat:=2
abbrev td:Nat:=3
theorem Wp:RH prog=true:=rfl
instance:jz prog:=⟨Wp⟩
abbrev Ak:Array Value:=#[(.pointer none),(.pointer none),(.pointer none),(.pointer none),(.int .i64 0),(.int .i64 0),(.int .i64 0),(.int .i64 0),(.int .i64 0),(.int .i64 0),(.int .i64 0),(.int .i64 0),(.int .i64 0),(.int .i64 0),(.int .i64 0),(.pointer none),(.int .i64 0)]
abbrev nj:Array Value:=#[(.pointer none),(.pointer none),(.pointer none),(.pointer none),(.pointer none),(.slice none 0 0),(.slice none 0 0),(.slice none 0 0),(.int .i64 0),(.slice none 0 0),(.slice none 0 0),(.slice none 0 0),(.bool false),(.int .i64 0)]
abbrev aD:Array Value:=#[(.slice none 0 0),(.slice none 0 0),(.int .i64 0),(.int .i64 0),(.int .i64 0),(.int .i64 0),(.slice none 0 0),(.slice none 0 0),(.int .i64 0),(.slice none 0 0),(.bool false),(.slice none 0 0),(.slice none 0 0),(.slice none 0 0),(.int .i64 0),(.bool false),(.bool false),(.slice none 0 0),(.slice none 0 0),(.slice none 0 0)]
def pd (a0 a1 a2 a3 a4 a5 a6:Value)(h:af)(R:Value→af→Prop):Prop:=
 aP (Value.cells a0) 25 h λr aa=>
 aP (Value.cells a1) 31 aa λs ab=>
 ae prog iW #[] ab λac g=>
 vK (unV .not ac) λj=>
 vK (gV j false (some a6)) λad=>
 vK (gV j false (aq ad)) λah=>
 vK (gV j false (ag .i .gtr ah (.int .i64 600))) λai=>
 vK (az j (.bool true) ai) λaj=>
 aA aj (
 ae prog iW #[] g λak al=>
 R ak al) (
 vK (aH 5 g r) λan=>
 vK (aH 9 g s) λao=>
 ae prog oH #[an,ao,a2,a3,a4,a5] g λk ap=>
 vK (aE k 0) λar=>
 vK (aE k 1) λc=>
 vK (aE k 2) λau=>
 vK (aE k 3) λav=>
 aP aD 48 ap λt aw=>
 stK 20 t au aw λci d=>
 vK (unV .not av) λax=>
 aA ax (
 vK (aH 5 d r) λay=>
 vK (aH 9 d s) λa7=>
 ae prog uk #[ay,a7] d λa8 a9=>
 vK (unV .not a8) λba=>
 R ba a9) (
 vK (ag .p .eql c (.pointer none)) λe=>
 vK (gV e false (some c)) λbb=>
 vK (gV e false (some a6)) λbc=>
 gK e false (λbd=>ae prog uH #[bb,bc] d bd) d λbe m=>
 vK (gV e false (unV .not be)) λbf=>
 vK (az e (.bool true) bf) λbg=>
 aA bg (
 R (.bool false) m) (
 vK (am 6 t) λbh=>
 vK (ldV m bh) λu=>
 vK (aq u) λbi=>
 aU [(.int .i64 0),(.int .i64 0)] m λf cj n bj=>
 vK (ag .i .lss (ix f 1) bi) λbk=>
 aA bk (
 vK (aR 10 u (ix f 1)) λbl=>
 vK (aH 10 n bl) λbm=>
 aP #[(.int .i64 0),(.int .i64 0),(.int .i64 0),(.int .i64 0),(.int .i64 0),(.int .i64 0),(.int .i64 0),(.int .i64 0),(.int .i64 0),(.int .i64 0)] 59 n λv bn=>
 stK 10 v bm bn λck w=>
 vK (am 9 v) λbo=>
 vK (ldV w bo) λbp=>
 vK (ia (ix f 0) bp) λbq=>
 vK (ag .i .add (ix f 1) (.int .i64 1)) λbr=>
 bj [bq,br] w) (
 vK (ag .i .rem a2 (.int .u8 13)) λbs=>
 vK (eS .i64 bs) λbt=>
 vK (ag .i .add (.int .i64 1) bt) λbu=>
 vK (ag .i .mul (ix f 0) bu) λbv=>
 ae prog aO #[ar] n λbw bx=>
 vK (ag .i .mul bv bw) λbz=>
 ae prog fT #[c] bx λb0 b1=>
 vK (ag .i .add b0 (.int .i64 1)) λb2=>
 aU [(.int .i64 0)] b1 λl cl x b3=>
 vK (ag .i .lss (ix l 0) b2) λb4=>
 aA b4 (
 ae prog kf #[c,(ix l 0)] x λo y=>
 vK (ag .i .gtr o bz) λq=>
 vK (gV q false (some o)) λb5=>
 vK (gV q false (ag .i .lss b5 (.int .i64 0))) λb6=>
 vK (az q (.bool true) b6) λa=>
 vK (gV a false (some o)) λb7=>
 vK (gV a false (ag .i .gtr b7 (.int .i64 0))) λb8=>
 vK (gV a false (some c)) λb9=>
 vK (gV a false (some (ix l 0))) λca=>
 gK a false (λcb=>ae prog mF #[b9,ca] y cb) y λcc z=>
 vK (gV a false (aq cc)) λcd=>
 vK (gV a false (ag .i .gtr cd (.int .i64 0))) λce=>
 vK (gV a false (ag .b .neq b8 ce)) λcf=>
 vK (az a (.bool true) cf) λcg=>
 aA cg (
 R (.bool false) z) (
 vK (ag .i .add (ix l 0) (.int .i64 1)) λch=>
 b3 [ch] z)) (
 R (.bool true) x)))))
theorem yU (H:pd a0 a1 a2 a3 a4 a5 a6 h R):ae prog kh #[a0,a1,a2,a3,a4,a5,a6] h R:=fk f4 (.s .z (.s (.s .z (.s (.s .z .z) .z)) (.s .z (.s (.s .z (.s (.s .z .z) .z)) (.s (.s .z (.s (.s .z .z) .z)) (.s .z (.s (.s .z (.l 2356571555416397840384 [19,62] (.s .z (.s (.s .z .z) (.s (.s .z .z) .z))))) (.s .z (.s (.s .z (.l 162259267157806806474544637820928 [83] (.s .z (.s (.s .z .z) (.s (.s .z (.s .z (.s .z (.s (.s .z .z) .z)))) .z))))) (.s .z .z)))))))))) H
def yf (h:af)(R:Value→af→Prop):Prop:=
 cE #[(.int .u16 0)] 22 1 [(0,1,(.int .u16 9))] h λah ai=>
 ae prog pT #[(.int .i64 1),(.int .i64 1),(.int .i64 1),(.int .i64 255),ah] ai λo aj=>
 vK (aE o 0) λak=>
 vK (aE o 1) λal=>
 vK ((aF #[(.int .i64 0),(.int .i64 0),(.int .i64 0),(.int .i64 0),(.slice none 0 0),(.slice none 0 0),(.int .i64 0),(.int .i64 0),(.int .i64 0)] [(0,1,(.int .i64 1))]).map .agg) λam=>
 ae prog lB #[am,(.int .i64 1),(.int .i64 1)] aj λq an=>
 vK (aE q 0) λao=>
 vK (aE q 1) λap=>
 aP #[(.pointer none),(.pointer none),(.int .i64 0)] 81 an λr ar=>
 stK 3 r ao ar λb3 au=>
 ae prog uJ #[] au λav s=>
 vK (unV .not av) λf=>
 gK f false (λaw=>ae prog uI #[] s aw) s λax g=>
 vK (gV f false (unV .not ax)) λay=>
 vK (az f (.bool true) ay) λj=>
 vK (gV j false (some al)) λa0=>
 vK (gV j false (ag .i .neq a0 (.int .i64 0))) λa1=>
 vK (az j (.bool true) a1) λk=>
 vK (gV k false (some ap)) λa2=>
 vK (gV k false (ag .i .neq a2 (.int .i64 0))) λa3=>
 vK (az k (.bool true) a3) λa4=>
 aA a4 (
 R (.bool false) g) (
 vK (aH 3 g r) λa5=>
 ae prog wR #[ak,a5,(.int .i64 1),(.int .i64 1),(.int .i64 1),(.int .i64 1)] g λt u=>
 vK (aE t 0) λb=>
 vK (aE t 1) λa6=>
 vK (ag .i .neq a6 (.int .i64 0)) λl=>
 vK (gV l false (some b)) λa7=>
 vK (gV l false (ag .p .eql a7 (.pointer none))) λa8=>
 vK (az l (.bool true) a8) λc=>
 vK (gV c false (some b)) λa9=>
 gK c false (λba=>ae prog mE #[a9] u ba) u λbb v=>
 vK (gV c false (ag .i .neq bb (.int .i64 7))) λbc=>
 vK (az c (.bool true) bc) λd=>
 vK (gV d false (some b)) λbd=>
 gK d false (λbe=>ae prog fT #[bd] v be) v λbf w=>
 vK (gV d false (ag .i .neq bf (.int .i64 2))) λbg=>
 vK (az d (.bool true) bg) λbh=>
 aA bh (
 R (.bool false) w) (
 aU [(.int .i64 0)] w λx b4 y bi=>
 vK (ag .i .lss (ix x 0) (.int .i64 7)) λbj=>
 aA bj (
 ae prog gB #[b] y λz m=>
 vK (aq z) λbk=>
 vK (ag .i .eql bk (.int .i64 0)) λa=>
 vK (gV a false (some b)) λbl=>
 vK (gV a false (some z)) λbm=>
 vK (gV a false (aR 1 bm (.int .i64 0))) λbn=>
 vK (gV a false (ldV m bn)) λbo=>
 gK a false (λbp=>ae prog io #[bl,bo] m bp) m λbq aa=>
 vK (gV a false (unV .not bq)) λbr=>
 vK (az a (.bool true) br) λbs=>
 aA bs (
 R (.bool false) aa) (
 vK (ag .i .add (ix x 0) (.int .i64 1)) λbt=>
 bi [bt] aa)) (
 ae prog kV #[b] y λab ac=>
 vK (aE ab 0) λad=>
 vK (aE ab 1) λn=>
 vK (gV n true (some ad)) λbu=>
 vK (gV n true (ag .p .neq bu (.pointer none))) λbv=>
 vK (az n bv (.bool false)) λe=>
 vK (gV e true (some ad)) λbw=>
 gK e true (λbx=>ae prog fi #[bw,(.int .i64 0),(.int .i64 0),(.int .i64 0)] ac bx) ac λbz b0=>
 vK (gV e true (ag .i .eql bz (.int .u16 9))) λb1=>
 vK (az e b1 (.bool false)) λb2=>
 R b2 b0)))
theorem Ic (H:yf h R):ae prog iW #[] h R:=fk f7 (.s .z (.s .z (.s .z (.s (.s .z (.s (.s .z .z) .z)) (.s .z (.s (.s .z (.s (.s .z .z) .z)) (.s (.s .z (.l 4722294425275607285889 [56] (.s .z (.s (.s .z .z) (.s (.s .z (.s .z (.s (.s .z .z) .z))) .z))))) (.s .z (.s .z .z))))))))) H
def yg (a0 a1 a2 a3 a4 a5:Value)(h:af)(R:Value→af→Prop):Prop:=
 aP (Value.cells a0) 25 h λs t=>
 aP (Value.cells a1) 31 t λu v=>
 aP aD 48 v λa f=>
 vK (aH 5 f s) λw=>
 ae prog dE #[w] f λb g=>
 vK (aH 9 g u) λx=>
 cE #[(.int .i64 0),(.int .i64 0),(.int .i64 0),(.int .i64 0),(.slice none 0 0),(.slice none 0 0),(.int .i64 0),(.int .i64 0),(.int .i64 0)] 31 1 [(0,9,x)] g λy z=>
 ae prog fV #[y,b] z λd e=>
 vK (aE d 0) λaa=>
 vK (aE d 1) λab=>
 vK (aE d 2) λac=>
 vK (unV .not ac) λad=>
 aA ad (
 vK ((aF aD []).map .agg) λah=>
 stK 20 a ah e λbc j=>
 vK (aH 20 j a) λai=>
 R (.tuple #[b,(.pointer none),ai,(.bool false)]) j) (
 vK (ag .i .rem a2 (.int .u8 13)) λaj=>
 vK (eS .i64 aj) λak=>
 vK (ag .i .add (.int .i64 1) ak) λk=>
 vK (ag .i .rem a3 (.int .u8 13)) λal=>
 vK (eS .i64 al) λam=>
 vK (ag .i .add (.int .i64 1) am) λl=>
 vK (ag .i .rem a4 (.int .u8 5)) λan=>
 vK (eS .i64 an) λao=>
 vK (ag .i .add (.int .i64 1) ao) λm=>
 vK (ag .i .rem a5 (.int .u8 4)) λap=>
 vK (eS .i64 ap) λaq=>
 vK (ag .i .add (.int .i64 1) aq) λn=>
 vK (aR 3 aa (.int .i64 0)) λar=>
 vK (aH 3 e ar) λau=>
 ae prog wR #[b,au,k,l,m,n] e λo c=>
 vK (aE o 0) λav=>
 vK (aE o 1) λaw=>
 vK (ag .i .neq aw (.int .i64 0)) λax=>
 aA ax (
 vK ((aF aD []).map .agg) λay=>
 stK 20 a ay c λbd p=>
 vK (aH 20 p a) λaz=>
 R (.tuple #[b,(.pointer none),az,(.bool false)]) p) (
 bC c λS=>
 vK (aR 5 ab (.int .i64 0)) λa6=>
 qK S (λc=>aH 5 c a6) λa7=>
 ae prog aO #[b] c λa8 q=>
 S q∧(ae prog zG #[a7,a8,k,l,m,n] q λa9 ba=>
 stK 20 a a9 ba λbe r=>
 vK (aH 20 r a) λbb=>
 R (.tuple #[b,av,bb,(.bool true)]) r)))
theorem Ie (H:yg a0 a1 a2 a3 a4 a5 h R):ae prog oH #[a0,a1,a2,a3,a4,a5] h R:=fk f8 (.s .z (.s .z (.s .z (.s (.s .z (.s (.s .z .z) .z)) (.s .z (.s .z (.s (.s .z (.s (.s .z .z) .z)) (.s (.d (.op 0 .r (.op 1 .r (.op 2 .r (.op 3 .r (.op 4 .r (.op 5 .r (.op 7 .r (.op 8 .r (.op 9 .r (.op 10 .r (.op 6 .e (.op 11 .n (.op 12 .r (.op 13 .r (.op 14 .n (.op 15 .r .nil))))))))))))))))) .z)))))))) H
def C8 (a0 a1:Value)(h:af)(R:Value→af→Prop):Prop:=
 aP (Value.cells a0) 25 h λm n=>
 aP (Value.cells a1) 31 n λo a=>
 bC a λS=>
 qK S (λa=>aH 9 a o) λd=>
 qK S (λa=>aH 5 a m) λe=>
 (cE #[(.int .i64 0),(.int .i64 0),(.int .i64 0),(.int .i64 0),(.slice none 0 0),(.slice none 0 0),(.int .i64 0),(.int .i64 0),(.int .i64 0)] 31 1 [(0,9,d)] a λp f=>
 S f∧(ae prog dE #[e] f λq g=>
 S g∧(ae prog fV #[p,q] g λb i=>
 S i∧(vK (aE b 0) λv=>
 vK (aE b 1) λw=>
 vK (aE b 2) λr=>
 R r i))))∧(ae prog dE #[e] a λs j=>
 S j∧(cE #[(.int .i64 0),(.int .i64 0),(.int .i64 0),(.int .i64 0),(.slice none 0 0),(.slice none 0 0),(.int .i64 0),(.int .i64 0),(.int .i64 0)] 31 1 [(0,9,d)] j λt k=>
 S k∧(ae prog fV #[t,s] k λc l=>
 S l∧(vK (aE c 0) λx=>
 vK (aE c 1) λy=>
 vK (aE c 2) λu=>
 R u l))))
theorem MO (H:C8 a0 a1 h R):ae prog uk #[a0,a1] h R:=fk f9 (.s .z (.s (.d (.op 0 .r (.op 2 .r (.alt (.op 1 .e (.op 3 .e (.op 4 .e (.op 5 .r (.op 6 .r (.op 7 .r (.op 8 .r (.op 9 .r (.op 10 .r (.op 11 .r .nil)))))))))) (.op 3 .e (.op 1 .e (.op 4 .e (.op 5 .r (.op 6 .r (.op 7 .r (.op 8 .r (.op 9 .r (.op 10 .r (.op 11 .r .nil)))))))))))))) (.s .z .z))) H
def mT (a0:Value)(h:af)(R:Value→af→Prop):Prop:=
 ae prog fT #[a0] h λe f=>
 aU [(.slice none 0 0),(.int .i64 0)] f λa q b c=>
 vK (ag .i .lss (ix a 1) e) λg=>
 aA g (
 ae prog jS #[a0,(ix a 1)] b λj d=>
 aA j (
 cE #[(.int .i64 0)] 3 1 [(0,1,(ix a 1))] d λk l=>
 cF (.int .i64 0) 3 1 8 (ix a 0) k l λm n=>
 vK (ag .i .add (ix a 1) (.int .i64 1)) λo=>
 c [m,o] n) (
 vK (ag .i .add (ix a 1) (.int .i64 1)) λp=>
 c [(ix a 0),p] d)) (
 R (ix a 0) b)
theorem xI (H:mT a0 h R):ae prog gB #[a0] h R:=fk f10 (.s .z (.s .z (.s (.s .z (.l 262040 [3,7] (.s .z (.s (.s .z .z) (.s (.s .z (.s .z (.s .z .z))) .z))))) (.s .z .z)))) H
def mU (a0:Value)(h:af)(R:Value→af→Prop):Prop:=
 vK (aK a0) λa=>
 vK (am 12 a) λb=>
 vK (ldV h b) λc=>
 R c h
theorem xJ (H:mU a0 h R):ae prog jH #[a0] h R:=fk f11 (.s .z (.s .z .z)) H
def qC (a0:Value)(h:af)(R:Value→af→Prop):Prop:=
 vK (aK a0) λa=>
 vK (am 6 a) λb=>
 vK (ldV h b) λc=>
 vK (aq c) λd=>
 vK (ag .i .add d (.int .i64 1)) λe=>
 R e h
theorem Au (H:qC a0 h R):ae prog fT #[a0] h R:=fk f12 (.s .z (.s .z .z)) H
def tN (a0 a1:Value)(h:af)(R:Value→af→Prop):Prop:=
 ae prog jS #[a0,a1] h λc a=>
 vK (unV .not c) λd=>
 aA d (
 R (.bool false) a) (
 vK (aK a0) λe=>
 vK (am 13 e) λf=>
 vK (ldV a f) λg=>
 vK (ag .i .add g (.int .i64 1)) λj=>
 vK (aK a0) λk=>
 vK (am 13 k) λl=>
 stK 1 l j a λp b=>
 vK (ag .i .eql a1 (.int .i64 0)) λm=>
 aA m (
 ae prog oe #[a0] b λq n=>
 R (.bool true) n) (
 ae prog nW #[a0,a1] b λr o=>
 R (.bool true) o))
theorem DD (H:tN a0 a1 h R):ae prog io #[a0,a1] h R:=fk f13 (.s .z (.s (.s .z (.s (.s .z .z) .z)) (.s .z (.s (.s .z (.s .z .z)) (.s .z .z))))) H
def rP (a0 a1:Value)(h:af)(R:Value→af→Prop):Prop:=
 vK (ag .i .lss a1 (.int .i64 1)) λa=>
 vK (gV a false (some a1)) λb=>
 vK (gV a false (some a0)) λc=>
 vK (gV a false (aK c)) λd=>
 vK (gV a false (am 6 d)) λe=>
 vK (gV a false (ldV h e)) λf=>
 vK (gV a false (aq f)) λg=>
 vK (gV a false (ag .i .gtr b g)) λj=>
 vK (az a (.bool true) j) λk=>
 aA k (
 R (.slice none 0 0) h) (
 vK (aK a0) λl=>
 vK (am 6 l) λm=>
 vK (ldV h m) λn=>
 vK (ag .i .sub a1 (.int .i64 1)) λo=>
 vK (aR 1 n o) λp=>
 vK (ldV h p) λq=>
 ae prog ja #[q] h λr s=>
 R r s)
theorem BQ (H:rP a0 a1 h R):ae prog mF #[a0,a1] h R:=fk f14 (.s .z (.s (.s .z (.s (.s .z .z) .z)) (.s .z .z))) H
def ye (a0 a1:Value)(h:af)(R:Value→af→Prop):Prop:=
 aU [(.int .i64 0)] h λa ac d j=>
 vK (ag .i .lss (ix a 0) (.int .i64 200000)) λk=>
 aA k (
 ae prog gB #[a0] d λc l=>
 ae prog jH #[a0] l λm b=>
 aA m (
 R (.bool true) b) (
 vK (aq c) λn=>
 vK (ag .i .eql n (.int .i64 0)) λo=>
 aA o (
 R (.bool false) b) (
 dK (λe=>
 vK (aq a1) λp=>
 vK (ag .i .lss (ix a 0) p) λq=>
 aA q (
 vK (aR 1 a1 (ix a 0)) λr=>
 vK (ldV b r) λs=>
 vK (eS .i64 s) λt=>
 e [t] b) (
 e [(ix a 0)] b))
 λu ad f=>
 vK (aq c) λv=>
 vK (ag .i .rem (ix u 0) v) λw=>
 vK (aR 1 c w) λx=>
 vK (ldV f x) λy=>
 ae prog io #[a0,y] f λz g=>
 vK (unV .not z) λaa=>
 aA aa (
 R (.bool false) g) (
 vK (ag .i .add (ix a 0) (.int .i64 1)) λab=>
 j [ab] g)))) (
 R (.bool false) d)
theorem Ib (H:ye a0 a1 h R):ae prog uH #[a0,a1] h R:=fk f15 (.s .z (.s (.s .z (.l 549755813872 [8] (.s .z (.s (.s .z .z) (.s (.s .z (.s .z (.s (.s .z (.s (.s .z .z) .z)) (.s (.s .z (.s (.s .z .z) .z)) (.s .z (.j 267911296 [7] (.s .z (.s .z .z)) (.s .z (.s (.s .z .z) .z)))))))) .z))))) (.s .z .z))) H
def kl (a0:Value)(h:af)(R:Value→af→Prop):Prop:=
 vK (aK a0) λa=>
 vK (am 2 a) λb=>
 vK (ldV h b) λc=>
 R c h
theorem uv (H:kl a0 h R):ae prog aO #[a0] h R:=fk f16 (.s .z (.s .z .z)) H
def oW (a0 a1:Value)(h:af)(R:Value→af→Prop):Prop:=
 vK (ag .i .lss a1 (.int .i64 1)) λa=>
 vK (gV a false (some a1)) λb=>
 vK (gV a false (some a0)) λc=>
 vK (gV a false (aK c)) λd=>
 vK (gV a false (am 6 d)) λe=>
 vK (gV a false (ldV h e)) λf=>
 vK (gV a false (aq f)) λg=>
 vK (gV a false (ag .i .gtr b g)) λj=>
 vK (az a (.bool true) j) λk=>
 aA k (
 R (.int .i64 0) h) (
 vK (aK a0) λl=>
 vK (am 6 l) λm=>
 vK (ldV h m) λn=>
 vK (ag .i .sub a1 (.int .i64 1)) λo=>
 vK (aR 1 n o) λp=>
 vK (ldV h p) λq=>
 ae prog ii #[q] h λr s=>
 R r s)
theorem yR (H:oW a0 a1 h R):ae prog kf #[a0,a1] h R:=fk f17 (.s .z (.s (.s .z (.s (.s .z .z) .z)) (.s .z .z))) H
def rO (a0:Value)(h:af)(R:Value→af→Prop):Prop:=
 bC h λS=>
 vK (aK a0) λj=>
 vK (am 2 j) λk=>
 qK S (λh=>ldV h k) λl=>
 vK (aK a0) λm=>
 vK (am 6 m) λn=>
 qK S (λh=>ldV h n) λo=>
 qK S (λh=>aq o) λp=>
 ae prog dj #[l] h λq c=>
 S c∧(vK (ag .i .mul (.int .i64 2) q) λr=>
 vK (ag .i .add r p) λs=>
 vK (ag .i .add s (.int .i64 2)) λt=>
 vK (aK a0) λu=>
 vK (am 2 u) λv=>
 vK (ldV c v) λw=>
 ae prog qh #[w] c λe x=>
 vK (aq e) λy=>
 aU [t,(.int .i64 0)] x λb au d z=>
 vK (ag .i .lss (ix b 1) y) λaa=>
 aA aa (
 vK (aR 10 e (ix b 1)) λab=>
 vK (aH 10 d ab) λac=>
 aP #[(.int .i64 0),(.int .i64 0),(.int .i64 0),(.int .i64 0),(.int .i64 0),(.int .i64 0),(.int .i64 0),(.int .i64 0),(.int .i64 0),(.int .i64 0)] 116 d λf ad=>
 stK 10 f ac ad λav a=>
 bC a λS=>
 vK (aK a0) λah=>
 vK (am 2 ah) λai=>
 qK S (λa=>ldV a ai) λaj=>
 qK S (λa=>aH 10 a f) λak=>
 ae prog gC #[aj] a λal g=>
 S g∧(ae prog sK #[al,ak] g λan ao=>
 vK (ag .i .add (ix b 0) an) λap=>
 vK (ag .i .add (ix b 1) (.int .i64 1)) λar=>
 z [ap,ar] ao)) (
 R (ix b 0) d))
theorem BP (H:rO a0 h R):ae prog mE #[a0] h R:=fk f18 (.s .z (.s (.d (.op 0 .r (.op 1 .r (.op 2 .r (.op 3 .r (.op 6 .r (.op 7 .r (.op 8 .r (.op 9 .r (.op 10 .r (.op 4 .e (.op 5 .r (.op 11 .r (.op 12 .r (.op 13 .r .nil))))))))))))))) (.s (.s .z (.l 549722259496 [3,25] (.s .z (.s (.s .z .z) (.s (.s .z (.d (.op 0 .r (.op 1 .r (.op 2 .r (.op 3 .r (.op 4 .r (.op 6 .r (.op 5 .e (.op 7 .n (.op 8 .r (.op 9 .r .nil)))))))))))) .z))))) (.s .z .z)))) H
def mR (a0:Value)(h:af)(R:Value→af→Prop):Prop:=
 vK (aK a0) λa=>
 vK (am 0 a) λb=>
 vK (ldV h b) λc=>
 R c h
theorem xG (H:mR a0 h R):ae prog bD #[a0] h R:=fk f28 (.s .z (.s .z .z)) H
def lK (a0:Value)(h:af)(R:Value→af→Prop):Prop:=
 vK (aK a0) λa=>
 vK (am 1 a) λb=>
 vK (ldV h b) λc=>
 R c h
theorem wh (H:lK a0 h R):ae prog bF #[a0] h R:=fk f29 (.s .z (.s .z .z)) H
def C1 (a0 a1 a2 a3 a4:Value)(h:af)(R:Value→af→Prop):Prop:=
 ae prog gx #[a0,a1,a2,a3] h λd a=>
 vK (aE d 0) λb=>
 vK (aE d 1) λe=>
 vK (ag .i .neq e (.int .i64 0)) λf=>
 aA f (
 R (.tuple #[(.pointer none),e]) a) (
 vK (aq a4) λg=>
 vK (aK b) λj=>
 vK (am 4 j) λk=>
 vK (ldV a k) λl=>
 vK (aq l) λm=>
 vK (ag .i .neq g m) λn=>
 aA n (
 R (.tuple #[(.pointer none),(.int .i64 2)]) a) (
 ae prog eZ #[a4] a λo c=>
 vK (eS .i64 o) λp=>
 vK (ag .i .gtr p a3) λq=>
 aA q (
 R (.tuple #[(.pointer none),(.int .i64 4)]) c) (
 vK (aK b) λr=>
 vK (am 4 r) λs=>
 vK (ldV c s) λt=>
 Ch 1 t a4 c λv u=>
 R (.tuple #[b,(.int .i64 0)]) u)))
theorem MJ (H:C1 a0 a1 a2 a3 a4 h R):ae prog pT #[a0,a1,a2,a3,a4] h R:=fk f31 (.s .z (.s .z (.s (.s .z (.s (.s .z .z) (.s .z (.s (.s .z .z) (.s .z (.s (.s .z .z) .z)))))) (.s .z (.s .z .z))))) H
def GX (a0 a1 a2:Value)(h:af)(R:Value→af→Prop):Prop:=
 aP (Value.cells a0) 31 h λd q=>
 aP #[(.pointer none),(.pointer none),(.int .i64 0)] 81 q λa j=>
 vK (aH 9 j d) λr=>
 ae prog JY #[r] j λs k=>
 vK (unV .not s) λb=>
 vK (gV b false (some a1)) λt=>
 gK b false (λu=>ae prog ru #[t] k u) k λv l=>
 vK (gV b false (unV .not v)) λw=>
 vK (az b (.bool true) w) λc=>
 vK (gV c false (some a2)) λx=>
 gK c false (λy=>ae prog ru #[x] l y) l λz e=>
 vK (gV c false (unV .not z)) λaa=>
 vK (az c (.bool true) aa) λab=>
 aA ab (
 vK ((aF #[(.pointer none),(.pointer none),(.int .i64 0)] []).map .agg) λac=>
 stK 3 a ac e λau m=>
 vK (aH 3 m a) λad=>
 R (.tuple #[ad,(.int .i64 6)]) m) (
 vK (aH 9 e d) λah=>
 ae prog zO #[ah,a1,a2] e λf g=>
 vK (aE f 0) λai=>
 vK (aE f 1) λaj=>
 vK (aE f 2) λn=>
 vK (ag .i .neq n (.int .i64 0)) λak=>
 aA ak (
 vK ((aF #[(.pointer none),(.pointer none),(.int .i64 0)] []).map .agg) λal=>
 stK 3 a al g λav o=>
 vK (aH 3 o a) λan=>
 R (.tuple #[an,n]) o) (
 vK (am 1 d) λao=>
 vK (ldV g ao) λap=>
 vK ((aF #[(.pointer none),(.pointer none),(.int .i64 0)] [(0,1,ai),(1,1,aj),(2,1,ap)]).map .agg) λaq=>
 stK 3 a aq g λaw p=>
 vK (aH 3 p a) λar=>
 R (.tuple #[ar,(.int .i64 0)]) p))
theorem Qi (H:GX a0 a1 a2 h R):ae prog lB #[a0,a1,a2] h R:=fk f32 (.s .z (.s (.s .z (.s (.s .z .z) .z)) (.s .z (.s (.s .z (.s (.s .z .z) .z)) (.s .z .z))))) H
def yj (h:af)(R:Value→af→Prop):Prop:=
 cE #[(.int .i64 0),(.int .i64 0)] 3 2 [(0,1,(.int .i64 1)),(1,1,(.int .i64 0))] h λf g=>
 vK ((aF #[(.int .i64 0),(.slice none 0 0),(.int .i64 0),(.int .i64 0),(.int .i64 0),(.bool false)] [(1,1,f),(3,1,(.int .i64 3)),(4,1,(.int .i64 4)),(5,1,(.bool true))]).map .agg) λi=>
 aP #[(.int .i64 0),(.slice none 0 0),(.int .i64 0),(.int .i64 0),(.int .i64 0),(.bool false)] 120 g λc j=>
 stK 6 c i j λx k=>
 cE #[(.int .i64 0),(.int .i64 0)] 3 2 [(0,1,(.int .i64 0)),(1,1,(.int .i64 1))] k λl m=>
 vK ((aF #[(.int .i64 0),(.slice none 0 0),(.int .i64 0),(.int .i64 0),(.int .i64 0),(.bool false)] [(0,1,(.int .i64 1)),(1,1,l),(3,1,(.int .i64 2)),(4,1,(.int .i64 9)),(5,1,(.bool true))]).map .agg) λn=>
 aP #[(.int .i64 0),(.slice none 0 0),(.int .i64 0),(.int .i64 0),(.int .i64 0),(.bool false)] 120 m λd o=>
 stK 6 d n o λy e=>
 vK (aH 6 e c) λp=>
 vK (aH 6 e d) λq=>
 ae prog oG #[p,q] e λa b=>
 vK (gV a true (aH 6 b d)) λr=>
 vK (gV a true (aH 6 b c)) λs=>
 gK a true (λt=>ae prog oG #[r,s] b t) b λu v=>
 vK (az a u (.bool false)) λw=>
 R w v
theorem Ig (H:yj h R):ae prog uJ #[] h R:=fk f33 (.s .z (.s .z (.s .z (.s .z .z)))) H
def yi (h:af)(R:Value→af→Prop):Prop:=
 ae prog mc #[] h λa s=>
 ae prog lz #[(.int .i64 1)] s λb t=>
 ae prog uK #[] t λu l=>
 vK (unV .not u) λj=>
 vK (gV j false (some a)) λv=>
 vK (gV j false (ag .p .eql v (.pointer none))) λw=>
 vK (az j (.bool true) w) λk=>
 vK (gV k false (some b)) λx=>
 vK (gV k false (ag .p .eql x (.pointer none))) λy=>
 vK (az k (.bool true) y) λc=>
 vK (gV c false (some a)) λz=>
 vK (gV c false (some b)) λaa=>
 gK c false (λab=>ae prog ce #[z,aa,.nilFunc] l ab) l λac m=>
 vK (gV c false ((aF #[(.int .i64 0),(.int .i64 0),(.int .i64 0),(.int .i64 0)] []).map .agg)) λad=>
 vK (gV c false (ag (.st [(0,1,.i),(1,1,.i),(2,2,(.st [(0,1,.i),(1,1,.i)]))]) .neq ac ad)) λah=>
 vK (az c (.bool true) ah) λf=>
 vK (gV f false (some a)) λai=>
 vK (gV f false (some b)) λaj=>
 gK f false (λak=>ae prog dt #[ai,aj] m ak) m λal n=>
 vK (az f (.bool true) al) λam=>
 aA am (
 R (.bool false) n) (
 ae prog gR #[b] n λa9 an=>
 ae prog dt #[a,b] an λd o=>
 vK (gV d true (some a)) λao=>
 vK (gV d true (some b)) λap=>
 gK d true (λaq=>ae prog ce #[ao,ap,.nilFunc] o aq) o λar q=>
 vK (gV d true ((aF #[(.int .i64 0),(.int .i64 0),(.int .i64 0),(.int .i64 0)] [(0,1,(.int .i64 3))]).map .agg)) λau=>
 vK (gV d true (ag (.st [(0,1,.i),(1,1,.i),(2,2,(.st [(0,1,.i),(1,1,.i)]))]) .eql ar au)) λav=>
 vK (az d av (.bool false)) λe=>
 vK (gV e true (some a)) λaw=>
 vK (gV e true (some b)) λax=>
 gK e true (λay=>ae prog ce #[aw,ax,.nilFunc] q ay) q λa0 r=>
 vK (gV e true ((aF #[(.int .i64 0),(.int .i64 0),(.int .i64 0),(.int .i64 0)] []).map .agg)) λa1=>
 vK (gV e true (ag (.st [(0,1,.i),(1,1,.i),(2,2,(.st [(0,1,.i),(1,1,.i)]))]) .eql a0 a1)) λa2=>
 vK (az e a2 (.bool false)) λg=>
 vK (gV g true (some a)) λa3=>
 gK g true (λa4=>ae prog jc #[a3] r a4) r λa5 a6=>
 vK (gV g true (ag .i .eql a5 (.int .i64 2))) λa7=>
 vK (az g a7 (.bool false)) λa8=>
 R a8 a6)
theorem If (H:yi h R):ae prog uI #[] h R:=fk f34 (.s .z (.s .z (.s (.s .z (.s (.s .z .z) .z)) (.s .z (.s .z .z))))) H
def Fu (a0 a1 a2 a3 a4 a5:Value)(h:af)(R:Value→af→Prop):Prop:=
 aP (Value.cells a1) 81 h λf j=>
 vK (ag .p .eql a0 (.pointer none)) λb=>
 vK (gV b false (some a0)) λao=>
 vK (gV b false (aH 3 j f)) λap=>
 gK b false (λaq=>ae prog iq #[ao,ap] j aq) j λar a=>
 vK (gV b false (unV .not ar)) λau=>
 vK (az b (.bool true) au) λav=>
 aA av (
 R (.tuple #[(.pointer none),(.int .i64 6)]) a) (
 bC a λS=>
 vK (am 0 f) λaw=>
 qK S (λa=>ldV a aw) λax=>
 vK (am 1 f) λay=>
 qK S (λa=>ldV a ay) λa6=>
 ae prog bB #[ax] a λa7 r=>
 S r∧(ae prog bB #[a6] r λa8 a9=>
 ae prog aO #[a0] a9 λba bb=>
 ae prog cJ #[a0] bb λbc bd=>
 ae prog gx #[a7,a8,ba,bc] bd λs k=>
 vK (aE s 0) λg=>
 vK (aE s 1) λt=>
 vK (ag .i .neq t (.int .i64 0)) λbe=>
 aA be (
 R (.tuple #[(.pointer none),t]) k) (
 vK (aH 3 k f) λbf=>
 ae prog wS #[bf,a2,a3] k λu c=>
 vK (aE u 0) λl=>
 vK (aE u 1) λv=>
 vK (ag .i .neq v (.int .i64 0)) λbg=>
 aA bg (
 R (.tuple #[(.pointer none),v]) c) (
 vK (ag .i .lss a4 (.int .i64 1)) λm=>
 vK (gV m false (some a4)) λbh=>
 vK (gV m false (ag .i .gtr bh (.int .i64 256))) λbi=>
 vK (az m (.bool true) bi) λbj=>
 aA bj (
 R (.tuple #[(.pointer none),(.int .i64 10)]) c) (
 dK (λn=>
 bC c λS=>
 vK (ag .i .add a4 (.int .i64 1)) λo=>
 (ae prog lz #[a5] c λw q=>
 S q∧((ae prog lC #[o] q λbk x=>
 S x∧(mkK (.int .i64 0) 3 1 8 a4 a4 x λbl y=>
 S y∧(vK ((aF nj [(0,1,a0),(1,1,g),(2,1,l),(3,1,w),(4,1,bk),(7,1,bl)]).map .agg) λbm=>
 aP (Value.cells bm) 106 y λbn z=>
 S z∧(n [bn] z))))∧(mkK (.int .i64 0) 3 1 8 a4 a4 q λbo aa=>
 S aa∧(ae prog lC #[o] aa λbp ab=>
 S ab∧(vK ((aF nj [(0,1,a0),(1,1,g),(2,1,l),(3,1,w),(4,1,bp),(7,1,bo)]).map .agg) λbq=>
 aP (Value.cells bq) 106 ab λbr ac=>
 S ac∧(n [br] ac))))))∧(mkK (.int .i64 0) 3 1 8 a4 a4 c λbs ad=>
 S ad∧(ae prog lz #[a5] ad λbt ah=>
 S ah∧(ae prog lC #[o] ah λbu ai=>
 S ai∧(vK ((aF nj [(0,1,a0),(1,1,g),(2,1,l),(3,1,bt),(4,1,bu),(7,1,bs)]).map .agg) λbv=>
 aP (Value.cells bv) 106 ai λbw aj=>
 S aj∧(n [bw] aj))))))
 λd ci bx=>
 aU [(.int .i64 0)] bx λak cj e bz=>
 vK (ag .i .lss (ix ak 0) a4) λb0=>
 aA b0 (
 bC e λS=>
 vK (aK (ix d 0)) λb1=>
 vK (am 6 b1) λb2=>
 qK S (λe=>ldV e b2) λb3=>
 ae prog mc #[] e λb4 al=>
 S al∧(cE #[(.pointer none)] 108 1 [(0,1,b4)] al λb5 an=>
 S an∧(cF (.pointer none) 108 1 8 b3 b5 an λb6 b7=>
 vK (aK (ix d 0)) λb8=>
 vK (am 6 b8) λb9=>
 stK 1 b9 b6 b7 λck ca=>
 vK (ag .i .add (ix ak 0) (.int .i64 1)) λcb=>
 bz [cb] ca))) (
 ae prog pU #[a0] e λcc cd=>
 ae prog db #[(ix d 0),(.int .i64 0),(.int .i64 0),(.int .i64 0),cc,(.bool true)] cd λcl ce=>
 ae prog pU #[g] ce λcf cg=>
 ae prog db #[(ix d 0),(.int .i64 0),(.int .i64 1),(.int .i64 0),cf,(.bool true)] cg λcm ch=>
 R (.tuple #[(ix d 0),(.int .i64 0)]) ch))))))
theorem On (H:Fu a0 a1 a2 a3 a4 a5 h R):ae prog wR #[a0,a1,a2,a3,a4,a5] h R:=fk f35 (.s .z (.s (.s .z (.s (.s .z .z) .z)) (.s (.d (.op 0 .r (.op 1 .r (.op 3 .r (.op 4 .r (.op 6 .r (.op 8 .r (.op 2 .e (.op 5 .n (.op 7 .n (.op 9 .n (.op 10 .n (.op 11 .r (.op 12 .r (.op 13 .r (.op 14 .r (.op 15 .r .nil))))))))))))))))) (.s (.s .z (.s (.s .z .z) .z)) (.s .z (.s (.s .z (.s (.s .z .z) (.s .z (.s (.s .z .z) .z)))) (.j 9442427122730076864512 [17] (.d (.op 0 .r (.op 1 .r (.op 2 .r (.op 3 .r (.op 5 .r (.op 6 .r (.op 8 .r (.alt (.op 4 .e (.alt (.op 7 .e (.op 9 .e (.op 10 .r (.op 11 .e (.op 12 .r .nil))))) (.op 9 .e (.op 7 .e (.op 10 .r (.op 11 .e (.op 12 .r .nil))))))) (.op 9 .e (.op 4 .e (.op 7 .e (.op 10 .r (.op 11 .e (.op 12 .r .nil))))))))))))))) (.s (.s .z (.l 154723615444741055781535744 [74] (.s .z (.s (.s .z .z) (.s (.d (.op 0 .r (.op 1 .r (.op 2 .r (.op 3 .r (.op 4 .r (.op 5 .e (.op 6 .e (.op 7 .n (.op 8 .r (.op 9 .r (.op 10 .n .nil)))))))))))) .z))))) (.s .z (.s .z (.s .z .z))))))))))) H
def qB (a0:Value)(h:af)(R:Value→af→Prop):Prop:=
 vK (aK a0) λa=>
 vK (am 12 a) λb=>
 vK (ldV h b) λc=>
 vK (unV .not c) λd=>
 aA d (
 R (.tuple #[(.pointer none),(.bool false)]) h) (
 vK (aK a0) λe=>
 vK (am 1 e) λf=>
 vK (ldV h f) λg=>
 ae prog ke #[g] h λi j=>
 R (.tuple #[i,(.bool true)]) j)
theorem At (H:qB a0 h R):ae prog kV #[a0] h R:=fk f36 (.s .z (.s (.s .z (.s (.s .z .z) .z)) (.s .z .z))) H
def rM (a0 a1 a2 a3:Value)(h:af)(R:Value→af→Prop):Prop:=
 ae prog gy #[a0,a1,a2,a3] h λb a=>
 vK (ag .i .geq b (.int .i64 0)) λc=>
 aA c (
 vK (aK a0) λd=>
 vK (am 4 d) λe=>
 vK (ldV a e) λf=>
 vK (aR 1 f b) λg=>
 vK (ldV a g) λj=>
 R j a) (
 R (.int .u16 0) a)
theorem BN (H:rM a0 a1 a2 a3 h R):ae prog fi #[a0,a1,a2,a3] h R:=fk f37 (.s .z (.s (.s .z (.s .z (.s (.s .z .z) .z))) (.s .z .z))) H
def mV (a0:Value)(h:af)(R:Value→af→Prop):Prop:=
 aP (Value.cells a0) 25 h λb a=>
 vK (am 0 b) λc=>
 vK (ldV a c) λd=>
 vK (ag .i .rem d (.int .u16 12)) λe=>
 vK (am 1 b) λf=>
 vK (ldV a f) λg=>
 vK (ag .i .rem g (.int .u16 12)) λj=>
 vK (am 2 b) λk=>
 vK (ldV a k) λl=>
 vK (am 3 b) λm=>
 vK (ldV a m) λn=>
 vK (am 4 b) λo=>
 vK (ldV a o) λp=>
 ae prog wW #[e,j,l,n,p] a λq r=>
 R q r
theorem xK (H:mV a0 h R):ae prog dE #[a0] h R:=fk f38 (.s .z (.s .z .z)) H
def xp (a0 a1:Value)(h:af)(R:Value→af→Prop):Prop:=
 vK (ag .p .eql a1 (.pointer none)) λb=>
 vK (gV b false (some a0)) λl=>
 vK (gV b false (aq l)) λm=>
 vK (gV b false (ag .i .gtr m (.int .i64 4))) λn=>
 vK (az b (.bool true) n) λc=>
 vK (gV c false (some a0)) λo=>
 gK c false (λq=>ae prog sT #[o,(.int .i64 12)] h q) h λr e=>
 vK (gV c false (unV .not r)) λs=>
 vK (az c (.bool true) s) λt=>
 aA t (
 R (.tuple #[(.slice none 0 0),(.slice none 0 0),(.bool false)]) e) (
 ae prog bD #[a1] e λu v=>
 ae prog bF #[a1] v λw x=>
 ae prog aO #[a1] x λy z=>
 ae prog JZ #[a0,u,w,y] z λf aa=>
 vK (aE f 0) λg=>
 vK (aE f 1) λab=>
 ae prog wV #[a0] aa λac ad=>
 ae prog bD #[a1] ad λah ai=>
 ae prog bF #[a1] ai λaj ak=>
 ae prog aO #[a1] ak λal am=>
 ae prog zH #[ac,ah,aj,al] am λj an=>
 vK (aE j 0) λk=>
 vK (aE j 1) λao=>
 vK (ag .i .eql ab (.int .i64 0)) λd=>
 vK (gV d true (some ao)) λap=>
 vK (gV d true (ag .i .eql ap (.int .i64 0))) λar=>
 vK (az d ar (.bool false)) λa=>
 vK (gV a true (some g)) λau=>
 vK (gV a true (aq au)) λav=>
 vK (gV a true (some k)) λaw=>
 vK (gV a true (aq aw)) λax=>
 vK (gV a true (ag .i .eql av ax)) λay=>
 vK (az a ay (.bool false)) λa2=>
 R (.tuple #[g,k,a2]) an)
theorem Gk (H:xp a0 a1 h R):ae prog fV #[a0,a1] h R:=fk f39 (.s .z (.s (.s .z (.s (.s .z .z) .z)) (.s .z (.s .z (.s .z .z))))) H
def CN (a0 a1 a2 a3 a4 a5:Value)(h:af)(R:Value→af→Prop):Prop:=
 aP (Value.cells a0) 38 h λc bs=>
 aP aD 48 bs λt b=>
 dK (λbt=>
 bC b λS=>
 qK S (λb=>aH 5 b c) λu=>
 qK S (λb=>aH 5 b c) λg=>
 vK (ag .i .add a4 (.int .i64 1)) λj=>
 (λC21:Value→Value→af→Prop=>
 (λC29:Value→Value→Value→Value→Value→af→Prop=>
 (λC38:Value→Value→Value→Value→af→Prop=>
 (λC46:Value→Value→Value→Value→af→Prop=>
 (λC54:Value→Value→Value→Value→af→Prop=>
 (λC63:Value→Value→Value→af→Prop=>
 (λC72:Value→Value→Value→af→Prop=>
 (λC79:Value→Value→Value→af→Prop=>
 (λC87:Value→Value→af→Prop=>
 (λC95:Value→Value→af→Prop=>
 (λC101:Value→Value→af→Prop=>
 (ae prog jG #[g,a2,a3] b λd k=>
 S k∧((ae prog jF #[a5] k λl m=>
 S m∧((ae prog jE #[j] m λv o=>
 S o∧((mkK (.agg #[.int .i64 0,.slice none 0 0,.slice none 0 0]) 69 3 56 a4 a4 o λbu w=>
 S w∧(C38 d l v bu w))∧(aP aD 48 o λbv x=>
 S x∧(C46 d l v bv x))))∧((mkK (.agg #[.int .i64 0,.slice none 0 0,.slice none 0 0]) 69 3 56 a4 a4 m λbw y=>
 S y∧(C63 d l bw y))∧(aP aD 48 m λbx z=>
 S z∧(C72 d l bx z)))))∧((mkK (.agg #[.int .i64 0,.slice none 0 0,.slice none 0 0]) 69 3 56 a4 a4 k λbz aa=>
 S aa∧(C87 d bz aa))∧(aP aD 48 k λb0 ab=>
 S ab∧(C95 d b0 ab)))))∧((mkK (.agg #[.int .i64 0,.slice none 0 0,.slice none 0 0]) 69 3 56 a4 a4 b λac p=>
 S p∧((ae prog jG #[g,a2,a3] p λb1 ad=>
 S ad∧(C87 b1 ac ad))∧(aP aD 48 p λb2 ah=>
 S ah∧(C101 ac b2 ah))))∧(aP aD 48 b λai q=>
 S q∧((ae prog jG #[g,a2,a3] q λb3 aj=>
 S aj∧(C95 b3 ai aj))∧(mkK (.agg #[.int .i64 0,.slice none 0 0,.slice none 0 0]) 69 3 56 a4 a4 q λb4 ak=>
 S ak∧(C101 b4 ai ak)))))) (λb5 b6 b7=>
 ae prog jG #[g,a2,a3] b7 λb8 al=>
 S al∧(C79 b8 b5 b6 al))) (λan ao ap=>
 (ae prog jF #[a5] ap λb9 ar=>
 S ar∧(C72 an b9 ao ar))∧(mkK (.agg #[.int .i64 0,.slice none 0 0,.slice none 0 0]) 69 3 56 a4 a4 ap λca au=>
 S au∧(C79 an ca ao au)))) (λav aw ax=>
 (ae prog jF #[a5] ax λcb ay=>
 S ay∧(C63 av cb aw ay))∧(aP aD 48 ax λcc az=>
 S az∧(C79 av aw cc az)))) (λcd ce cf cg=>
 ae prog jF #[a5] cg λch a6=>
 S a6∧(C54 cd ch ce cf a6))) (λa7 a8 a9 ba=>
 (ae prog jE #[j] ba λci bb=>
 S bb∧(C46 a7 a8 ci a9 bb))∧(mkK (.agg #[.int .i64 0,.slice none 0 0,.slice none 0 0]) 69 3 56 a4 a4 ba λcj bc=>
 S bc∧(C54 a7 a8 cj a9 bc)))) (λbd be bf bg=>
 (ae prog jE #[j] bg λck bh=>
 S bh∧(C38 bd be ck bf bh))∧(aP aD 48 bg λcl bi=>
 S bi∧(C54 bd be bf cl bi)))) (λcm cn co cp cq=>
 ae prog jE #[j] cq λcr bj=>
 S bj∧(C29 cm cn cr co cp bj))) (λcs ct cu cv cw=>
 mkK (.agg #[.int .i64 0,.slice none 0 0,.slice none 0 0]) 69 3 56 a4 a4 cw λcx bk=>
 S bk∧(C29 cs ct cu cx cv bk))) (λcy cz c0 c1 c2=>
 vK ((aF aD [(0,5,u),(5,1,a1),(6,1,cy),(8,3,cz),(11,1,c0),(12,1,c1)]).map .agg) λc3=>
 aP aD 48 c2 λc4 bl=>
 S bl∧(C21 c3 c4 bl))) (λc5 c6 c7 c8 c9 da=>
 vK ((aF aD [(0,5,u),(5,1,a1),(6,1,c5),(8,3,c6),(11,1,c7),(12,1,c8)]).map .agg) λdb=>
 C21 db c9 da)) (λdc bm dd=>
 stK 20 bm dc dd λem de=>
 bt [bm] de))
 λe en bn=>
 vK (am 6 (ix e 0)) λdf=>
 vK (ldV bn df) λbo=>
 vK (aq bo) λdg=>
 aU [(.int .i64 0)] bn λr eo f dh=>
 vK (ag .i .lss (ix r 0) dg) λdi=>
 aA di (
 vK (aR 10 bo (ix r 0)) λdj=>
 vK (aH 10 f dj) λdk=>
 aP #[(.int .i64 0),(.int .i64 0),(.int .i64 0),(.int .i64 0),(.int .i64 0),(.int .i64 0),(.int .i64 0),(.int .i64 0),(.int .i64 0),(.int .i64 0)] 59 f λs dl=>
 stK 10 s dk dl λep a=>
 bC a λS=>
 vK (am 7 (ix e 0)) λdm=>
 qK S (λa=>ldV a dm) λdn=>
 qK S (λa=>aH 5 a c) λdp=>
 vK (am 2 s) λdq=>
 qK S (λa=>ldV a dq) λdr=>
 vK (am 4 s) λds=>
 qK S (λa=>ldV a ds) λdt=>
 ae prog uD #[dp,dr,dt] a λdu bp=>
 S bp∧(cE #[(.slice none 0 0)] 67 1 [(0,1,du)] bp λdv bq=>
 S bq∧(cF (.slice none 0 0) 67 1 24 dn dv bq λdw dx=>
 vK (am 7 (ix e 0)) λdy=>
 stK 1 dy dw dx λeq dz=>
 vK (ag .i .add (ix r 0) (.int .i64 1)) λd0=>
 dh [d0] dz))) (
 vK (aH 20 f (ix e 0)) λd1=>
 vK (am 2 c) λd2=>
 vK (ldV f d2) λd3=>
 vK (am 3 c) λd4=>
 vK (ldV f d4) λd5=>
 vK (ag .i .mul d3 d5) λd6=>
 vK (ag .i .mul d6 a1) λd7=>
 ae prog qZ #[d1,(.int .i64 0),(.int .i64 0),(.int .i64 0),d7,(.bool true)] f λd8 d9=>
 stK 20 (ix e 0) d8 d9 λer n=>
 vK (aH 20 n (ix e 0)) λea=>
 vK (am 0 c) λeb=>
 vK (ldV n eb) λec=>
 vK (aq ec) λed=>
 vK (am 1 c) λee=>
 vK (ldV n ee) λef=>
 vK (aq ef) λeg=>
 vK (ag .i .mul ed eg) λeh=>
 vK (ag .i .mul eh a1) λei=>
 ae prog qZ #[ea,(.int .i64 0),(.int .i64 1),(.int .i64 0),ei,(.bool true)] n λej ek=>
 stK 20 t ej ek λes br=>
 vK (aH 20 br t) λel=>
 R el br)
theorem Mx (H:CN a0 a1 a2 a3 a4 a5 h R):ae prog zG #[a0,a1,a2,a3,a4,a5] h R:=fk f40 (.s .z (.j 1073684480 [13] (.d (.op 0 .r (.op 1 .r (.op 2 .r (.op 3 .r (.op 4 .r (.op 6 .r (.op 8 .r (.op 9 .r (.op 11 .r (.alt (.op 5 .e (.alt (.op 7 .e (.alt (.op 10 .e (.alt (.op 12 .e (.op 13 .r (.op 14 .e (.op 15 .n .nil)))) (.op 14 .e (.op 12 .e (.op 13 .r (.op 15 .n .nil)))))) (.alt (.op 12 .e (.alt (.op 10 .e (.op 13 .r (.op 14 .e (.op 15 .n .nil)))) (.op 14 .e (.op 10 .e (.op 13 .r (.op 15 .n .nil)))))) (.op 14 .e (.alt (.op 10 .e (.op 12 .e (.op 13 .r (.op 15 .n .nil)))) (.op 12 .e (.op 10 .e (.op 13 .r (.op 15 .n .nil))))))))) (.alt (.op 12 .e (.alt (.op 7 .e (.alt (.op 10 .e (.op 13 .r (.op 14 .e (.op 15 .n .nil)))) (.op 14 .e (.op 10 .e (.op 13 .r (.op 15 .n .nil)))))) (.op 14 .e (.op 7 .e (.op 10 .e (.op 13 .r (.op 15 .n .nil))))))) (.op 14 .e (.alt (.op 7 .e (.alt (.op 10 .e (.op 12 .e (.op 13 .r (.op 15 .n .nil)))) (.op 12 .e (.op 10 .e (.op 13 .r (.op 15 .n .nil)))))) (.op 12 .e (.op 7 .e (.op 10 .e (.op 13 .r (.op 15 .n .nil)))))))))) (.alt (.op 12 .e (.alt (.op 5 .e (.alt (.op 7 .e (.alt (.op 10 .e (.op 13 .r (.op 14 .e (.op 15 .n .nil)))) (.op 14 .e (.op 10 .e (.op 13 .r (.op 15 .n .nil)))))) (.op 14 .e (.op 7 .e (.op 10 .e (.op 13 .r (.op 15 .n .nil))))))) (.op 14 .e (.op 5 .e (.op 7 .e (.op 10 .e (.op 13 .r (.op 15 .n .nil)))))))) (.op 14 .e (.alt (.op 5 .e (.alt (.op 7 .e (.alt (.op 10 .e (.op 12 .e (.op 13 .r (.op 15 .n .nil)))) (.op 12 .e (.op 10 .e (.op 13 .r (.op 15 .n .nil)))))) (.op 12 .e (.op 7 .e (.op 10 .e (.op 13 .r (.op 15 .n .nil))))))) (.op 12 .e (.op 5 .e (.op 7 .e (.op 10 .e (.op 13 .r (.op 15 .n .nil)))))))))))))))))))) (.s (.s .z (.l 562941363519488 [33] (.s .z (.s (.s .z .z) (.s (.s .z (.d (.op 0 .r (.op 1 .r (.op 2 .r (.op 3 .r (.op 4 .r (.op 5 .r (.op 6 .r (.op 7 .e (.op 8 .e (.op 9 .n (.op 10 .r (.op 11 .n .nil)))))))))))))) .z))))) (.s .z (.s .z .z))))) H
def tF (a0 a1:Value)(h:af)(R:Value→af→Prop):Prop:=
 vK (ag .i .lss a1 (.int .i64 0)) λa=>
 vK (gV a false (some a1)) λe=>
 vK (gV a false (some a0)) λf=>
 vK (gV a false (aK f)) λg=>
 vK (gV a false (am 6 g)) λj=>
 vK (gV a false (ldV h j)) λk=>
 vK (gV a false (aq k)) λl=>
 vK (gV a false (ag .i .gtr e l)) λm=>
 vK (az a (.bool true) m) λn=>
 aA n (
 R (.bool false) h) (
 vK (ag .i .gtr a1 (.int .i64 0)) λo=>
 aA o (
 bC h λS=>
 vK (aK a0) λp=>
 vK (am 6 p) λq=>
 qK S (λh=>ldV h q) λr=>
 vK (ag .i .sub a1 (.int .i64 1)) λs=>
 vK (aR 1 r s) λt=>
 qK S (λh=>ldV h t) λu=>
 vK (aK a0) λv=>
 vK (am 3 v) λw=>
 qK S (λh=>ldV h w) λx=>
 ae prog dt #[u,x] h λy z=>
 R y z) (
 vK (aK a0) λaa=>
 vK (am 12 aa) λab=>
 vK (ldV h ab) λac=>
 aA ac (
 R (.bool false) h) (
 bC h λS=>
 vK (aK a0) λad=>
 vK (am 8 ad) λah=>
 qK S (λh=>ldV h ah) λai=>
 vK (aK a0) λaj=>
 vK (am 2 aj) λak=>
 qK S (λh=>ldV h ak) λal=>
 ae prog dj #[al] h λan b=>
 S b∧(vK (ag .i .lss ai an) λao=>
 aA ao (
 vK (aK a0) λap=>
 vK (am 3 ap) λar=>
 vK (ldV b ar) λau=>
 ae prog fX #[au] b λav aw=>
 R av aw) (
 vK (aK a0) λax=>
 vK (am 3 ax) λay=>
 vK (ldV b ay) λa2=>
 ae prog gA #[a2] b λa3 d=>
 vK (unV .not a3) λc=>
 vK (gV c false (some a0)) λa4=>
 gK c false (λa5=>ae prog og #[a4] d a5) d λa6 a7=>
 vK (az c (.bool true) a6) λa8=>
 R a8 a7)))))
theorem Dy (H:tF a0 a1 h R):ae prog jS #[a0,a1] h R:=fk f41 (.s .z (.s (.s .z (.s (.s .z .z) (.s .z (.s (.s (.d (.op 0 .r (.op 1 .r (.op 2 .r (.op 3 .r (.op 4 .r (.op 5 .r (.op 6 .r (.op 7 .r (.op 8 .r (.op 9 .r (.op 10 .r (.op 11 .r (.op 12 .n (.op 13 .r .nil))))))))))))))) .z) (.s .z (.s (.s .z .z) (.s (.d (.op 0 .r (.op 1 .r (.op 2 .r (.op 3 .r (.op 4 .r (.op 5 .r (.op 6 .r (.op 7 .r (.op 8 .e (.op 9 .r (.op 10 .r .nil)))))))))))) (.s (.s .z .z) .z)))))))) (.s .z .z))) H
def tJ (a0:Value)(h:af)(R:Value→af→Prop):Prop:=
 bC h λS=>
 vK (aK a0) λm=>
 vK (am 8 m) λn=>
 qK S (λh=>ldV h n) λo=>
 vK (aK a0) λp=>
 vK (am 2 p) λq=>
 qK S (λh=>ldV h q) λr=>
 ae prog dj #[r] h λs a=>
 S a∧(vK (ag .i .lss o s) λt=>
 aA t (
 bC a λS=>
 vK (aK a0) λu=>
 vK (am 3 u) λv=>
 qK S (λa=>ldV a v) λw=>
 vK (aK a0) λx=>
 vK (am 8 x) λy=>
 qK S (λa=>ldV a y) λz=>
 ae prog kU #[w,z] a λb3 b=>
 bC b λS=>
 vK (aK a0) λaa=>
 vK (am 9 aa) λab=>
 qK S (λb=>ldV b ab) λac=>
 vK (aK a0) λad=>
 vK (am 4 ad) λah=>
 qK S (λb=>ldV b ah) λai=>
 ae prog fW #[ai,(.int .i64 0)] b λaj f=>
 S f∧(cE #[(.slice none 0 0)] 104 1 [(0,1,aj)] f λak g=>
 S g∧(cF (.slice none 0 0) 104 1 24 ac ak g λal an=>
 vK (aK a0) λao=>
 vK (am 9 ao) λap=>
 stK 1 ap al an λb4 j=>
 vK (aK a0) λar=>
 vK (am 8 ar) λau=>
 vK (ldV j au) λav=>
 vK (ag .i .add av (.int .i64 1)) λaw=>
 vK (aK a0) λax=>
 vK (am 8 ax) λay=>
 stK 1 ay aw j λb5 az=>
 R (.tuple #[]) az))) (
 vK (aK a0) λa1=>
 vK (am 3 a1) λa2=>
 vK (ldV a a2) λa3=>
 ae prog gA #[a3] a λa4 d=>
 vK (unV .not a4) λa5=>
 aA a5 (
 vK (aK a0) λa6=>
 vK (am 3 a6) λa7=>
 vK (ldV d a7) λa8=>
 ae prog gR #[a8] d λb6 k=>
 vK (aK a0) λa9=>
 vK (am 4 a9) λba=>
 vK (ldV k ba) λbb=>
 ae prog fW #[bb,(.int .i64 0)] k λbc bd=>
 vK (aK a0) λbe=>
 vK (am 10 be) λbf=>
 stK 1 bf bc bd λb7 bg=>
 R (.tuple #[]) bg) (
 vK (aK a0) λbh=>
 vK (am 11 bh) λbi=>
 vK (ldV d bi) λl=>
 vK (aq l) λbj=>
 aU [(.int .i64 0)] d λe b8 c bk=>
 vK (ag .i .lss (ix e 0) bj) λbl=>
 aA bl (
 vK (aR 1 l (ix e 0)) λbm=>
 vK (ldV c bm) λbn=>
 vK (aK a0) λbo=>
 vK (am 4 bo) λbp=>
 vK (ldV c bp) λbq=>
 ae prog eN #[bq,(.int .i64 0),bn] c λb9 br=>
 vK (ag .i .add (ix e 0) (.int .i64 1)) λbs=>
 bk [bs] br) (
 vK (aK a0) λbt=>
 vK (am 1 bt) λbu=>
 vK (ldV c bu) λbv=>
 ae prog pU #[bv] c λbw bx=>
 ae prog db #[a0,(.int .i64 0),(.int .i64 1),(.int .i64 0),bw,(.bool false)] bx λca bz=>
 vK (aK a0) λb0=>
 vK (am 12 b0) λb1=>
 stK 1 b1 (.bool true) bz λcb b2=>
 R (.tuple #[]) b2))))
theorem DB (H:tJ a0 h R):ae prog oe #[a0] h R:=fk f42 (.s (.d (.op 0 .r (.op 1 .r (.op 2 .r (.op 3 .r (.op 4 .r (.op 5 .r (.op 6 .r (.op 7 .r (.op 8 .e (.op 9 .r (.op 10 .r .nil)))))))))))) (.s (.s (.d (.op 0 .r (.op 1 .r (.op 2 .r (.op 3 .r (.op 4 .r (.op 5 .r (.op 6 .r (.op 7 .r (.op 8 .n .nil)))))))))) (.s (.d (.op 0 .r (.op 1 .r (.op 2 .r (.op 3 .r (.op 4 .r (.op 5 .r (.op 6 .r (.op 7 .r (.op 8 .r (.op 9 .e (.op 10 .e (.op 11 .n (.op 12 .r (.op 13 .r (.op 14 .n .nil)))))))))))))))) .z)) (.s .z (.s (.s .z .z) (.s (.s .z (.l 1048072 [9] (.s .z (.s (.s .z .z) (.s (.s .z .z) .z))))) (.s .z .z)))))) H
def tE (a0 a1:Value)(h:af)(R:Value→af→Prop):Prop:=
 aP (Value.cells a0) 35 h λd x=>
 aP (Value.cells a1) 3 x λe b=>
 dK (λj=>
 bC b λS=>
 qK S (λb=>ldV b d) λy=>
 vK (aK y) λz=>
 vK (am 6 z) λaa=>
 qK S (λb=>ldV b aa) λab=>
 qK S (λb=>ldV b e) λac=>
 vK (ag .i .sub ac (.int .i64 1)) λad=>
 vK (aR 1 ab ad) λah=>
 qK S (λb=>ldV b ah) λk=>
 qK S (λb=>ldV b d) λai=>
 vK (aK ai) λaj=>
 vK (am 3 aj) λak=>
 qK S (λb=>ldV b ak) λl=>
 (ae prog ce #[k,l,(.func (.func fC) #[] #[d,e])] b λal m=>
 S m∧(aP #[(.int .i64 0),(.int .i64 0),(.int .i64 0),(.int .i64 0)] 148 m λn o=>
 S o∧(stK 4 n al o λb4 p=>
 S p∧(j [n] p))))∧(aP #[(.int .i64 0),(.int .i64 0),(.int .i64 0),(.int .i64 0)] 148 b λq r=>
 S r∧(ae prog ce #[k,l,(.func (.func fC) #[] #[d,e])] r λan s=>
 S s∧(stK 4 q an s λb5 t=>
 S t∧(j [q] t)))))
 λf b6 a=>
 vK (am 0 (ix f 0)) λao=>
 vK (ldV a ao) λg=>
 vK (ag .i .eql g (.int .i64 1)) λap=>
 aA ap (
 bC a λS=>
 qK S (λa=>ldV a d) λaq=>
 vK (aK aq) λar=>
 vK (am 4 ar) λau=>
 qK S (λa=>ldV a au) λav=>
 qK S (λa=>ldV a e) λaw=>
 qK S (λa=>ldV a d) λax=>
 vK (aK ax) λay=>
 vK (am 9 ay) λaz=>
 qK S (λa=>ldV a az) λa2=>
 vK (am 1 (ix f 0)) λa3=>
 qK S (λa=>ldV a a3) λa4=>
 vK (aR 1 a2 a4) λa5=>
 qK S (λa=>ldV a a5) λa6=>
 ae prog eN #[av,aw,a6] a λb7 a7=>
 R (.tuple #[]) a7) (
 vK (ag .i .eql g (.int .i64 2)) λa8=>
 aA a8 (
 vK (ldV a d) λa9=>
 vK (ldV a e) λba=>
 vK (aH 4 a (ix f 0)) λbb=>
 ae prog mD #[a9,ba,bb] a λb8 bc=>
 R (.tuple #[]) bc) (
 vK (ag .i .eql g (.int .i64 3)) λbd=>
 aA bd (
 bC a λS=>
 qK S (λa=>ldV a d) λbe=>
 vK (aK be) λbf=>
 vK (am 4 bf) λbg=>
 qK S (λa=>ldV a bg) λbh=>
 qK S (λa=>ldV a e) λbi=>
 qK S (λa=>ldV a d) λbj=>
 vK (aK bj) λbk=>
 vK (am 10 bk) λbl=>
 qK S (λa=>ldV a bl) λbm=>
 ae prog eN #[bh,bi,bm] a λb9 c=>
 bC c λS=>
 qK S (λc=>ldV c d) λbn=>
 qK S (λc=>ldV c d) λbo=>
 vK (aK bo) λbp=>
 vK (am 11 bp) λbq=>
 qK S (λc=>ldV c bq) λbr=>
 qK S (λc=>ldV c d) λbs=>
 vK (aK bs) λbt=>
 vK (am 4 bt) λbu=>
 qK S (λc=>ldV c bu) λbv=>
 qK S (λc=>ldV c e) λbw=>
 ae prog fW #[bv,bw] c λbx u=>
 S u∧(cE #[(.slice none 0 0)] 104 1 [(0,1,bx)] u λbz v=>
 S v∧(cF (.slice none 0 0) 104 1 24 br bz v λb0 w=>
 S w∧(vK (aK bn) λb1=>
 vK (am 11 b1) λb2=>
 stK 1 b2 b0 w λca b3=>
 R (.tuple #[]) b3)))) (
 R (.tuple #[]) a)))
theorem Dx (H:tE a0 a1 h R):ae prog nW #[a0,a1] h R:=fk f43 (.s .z (.j 524272 [4] (.d (.op 0 .r (.op 1 .r (.op 2 .r (.op 3 .r (.op 4 .r (.op 5 .r (.op 6 .r (.op 7 .r (.op 8 .r (.op 9 .r (.op 10 .r (.op 11 .r (.op 12 .r (.alt (.op 13 .e (.op 14 .e (.op 15 .e .nil))) (.op 14 .e (.op 13 .e (.op 15 .e .nil)))))))))))))))))) (.s .z (.s .z (.s (.d (.op 0 .r (.op 1 .r (.op 2 .r (.op 3 .r (.op 4 .r (.op 5 .r (.op 6 .r (.op 7 .r (.op 8 .r (.op 9 .r (.op 10 .r (.op 11 .r (.op 12 .r (.op 13 .n .nil))))))))))))))) (.s .z (.s .z (.s .z (.s (.s (.d (.op 0 .r (.op 1 .r (.op 2 .r (.op 3 .r (.op 4 .r (.op 5 .r (.op 6 .r (.op 7 .r (.op 8 .r (.op 9 .n .nil))))))))))) (.d (.op 0 .r (.op 1 .r (.op 2 .r (.op 3 .r (.op 4 .r (.op 5 .r (.op 6 .r (.op 7 .r (.op 8 .r (.op 9 .r (.op 10 .e (.op 11 .e (.op 12 .e (.op 13 .r (.op 14 .r (.op 15 .n .nil)))))))))))))))))) .z))))))))) H
def lI (a0:Value)(h:af)(R:Value→af→Prop):Prop:=
 vK (aK a0) λa=>
 vK (am 1 a) λb=>
 vK (ldV h b) λc=>
 ae prog gd #[c] h λd e=>
 R d e
theorem we (H:lI a0 h R):ae prog ja #[a0] h R:=fk f44 (.s .z (.s .z .z)) H
def kj (a0:Value)(h:af)(R:Value→af→Prop):Prop:=
 vK (aK a0) λa=>
 vK (am 3 a) λb=>
 vK (ldV h b) λc=>
 R c h
theorem uu (H:kj a0 h R):ae prog ii #[a0] h R:=fk f45 (.s .z (.s .z .z)) H
def rT (a0:Value)(h:af)(R:Value→af→Prop):Prop:=
 bC h λS=>
 vK (aK a0) λc=>
 vK (am 0 c) λd=>
 vK (am 1 d) λe=>
 qK S (λh=>ldV h e) λf=>
 vK (aK a0) λg=>
 vK (am 4 g) λj=>
 qK S (λh=>ldV h j) λk=>
 ae prog fD #[a0] h λl a=>
 S a∧(ae prog bB #[f] a λm b=>
 S b∧(ae prog rk #[m,k] b λn o=>
 vK (ag .i .mul l n) λp=>
 R p o))
theorem BT (H:rT a0 h R):ae prog dj #[a0] h R:=fk f46 (.s .z (.s (.d (.op 0 .r (.op 2 .r (.op 3 .r (.op 4 .r (.op 5 .r (.op 6 .r (.op 8 .r (.op 9 .r (.op 10 .r (.op 11 .r (.op 1 .e (.op 7 .e (.op 12 .n (.op 13 .r (.op 14 .r .nil)))))))))))))))) .z)) H
def vk (a0:Value)(h:af)(R:Value→af→Prop):Prop:=
 ae prog dj #[a0] h λf g=>
 aU [(.slice none 0 0),(.int .i64 0)] g λa u b j=>
 vK (ag .i .lss (ix a 1) f) λk=>
 aA k (
 ae prog eM #[a0,(ix a 1)] b λc l=>
 vK (aE c 0) λm=>
 vK (aE c 1) λv=>
 aP #[(.int .i64 0),(.int .i64 0),(.int .i64 0),(.int .i64 0),(.int .i64 0),(.int .i64 0),(.int .i64 0),(.int .i64 0),(.int .i64 0),(.int .i64 0)] 116 l λd n=>
 stK 10 d m n λw e=>
 vK (aH 10 e d) λo=>
 cE #[(.int .i64 0),(.int .i64 0),(.int .i64 0),(.int .i64 0),(.int .i64 0),(.int .i64 0),(.int .i64 0),(.int .i64 0),(.int .i64 0),(.int .i64 0)] 116 1 [(0,10,o)] e λp q=>
 cF (.agg #[.int .i64 0,.int .i64 0,.int .i64 0,.int .i64 0,.int .i64 0,.int .i64 0,.int .i64 0,.int .i64 0,.int .i64 0,.int .i64 0]) 116 10 80 (ix a 0) p q λr s=>
 vK (ag .i .add (ix a 1) (.int .i64 1)) λt=>
 j [r,t] s) (
 R (ix a 0) b)
theorem EB (H:vk a0 h R):ae prog qh #[a0] h R:=fk f47 (.s .z (.s .z (.s (.s .z (.l 8388216 [3,9] (.s .z (.s (.s .z .z) (.s (.s .z (.s .z .z)) .z))))) (.s .z .z)))) H
def xb (a0 a1:Value)(h:af)(R:Value→af→Prop):Prop:=
 aP (Value.cells a0) 81 h λg m=>
 aP (Value.cells a1) 116 m λb j=>
 vK (aH 3 j g) λn=>
 vK (am 1 b) λo=>
 vK (aH 4 j o) λp=>
 ae prog kH #[n,p] j λq c=>
 vK (unV .not q) λr=>
 aA r (
 R (.int .i64 0) c) (
 vK (am 1 b) λs=>
 vK (am 3 s) λt=>
 vK (ldV c t) λu=>
 vK (am 1 g) λv=>
 vK (ldV c v) λw=>
 vK (am 1 b) λx=>
 vK (am 1 x) λy=>
 vK (ldV c y) λz=>
 ae prog bh #[w,z] c λaa k=>
 vK (mZ false 1 0 aa) λab=>
 vK (am 1 b) λac=>
 vK (am 3 ac) λad=>
 vK (ldV k ad) λah=>
 aU [u,ab,(.int .i64 0)] k λa bc d ai=>
 vK (ag .i .lss (ix a 2) ah) λaj=>
 aA aj (
 vK (am 1 g) λak=>
 vK (ldV d ak) λal=>
 vK (am 1 b) λan=>
 vK (am 1 an) λao=>
 vK (ldV d ao) λap=>
 vK (ag .i .add ap (ix a 2)) λar=>
 ae prog bh #[al,ar] d λau av=>
 aP #[(.int .i64 0),(.slice none 0 0)] 189 av λe aw=>
 stK 2 e au aw λbd f=>
 vK (am 0 e) λax=>
 vK (ldV f ax) λay=>
 vK (am 1 e) λaz=>
 vK (ldV f az) λa2=>
 vK (aq a2) λa3=>
 vK (ag .i .add ay a3) λl=>
 vK (am 0 e) λa4=>
 vK (ldV f a4) λa5=>
 vK (ia (ix a 1) a5) λa6=>
 vK (ag .i .sub l a6) λa7=>
 vK (ia (.int .i64 0) a7) λa8=>
 vK (ag .i .add (ix a 0) a8) λa9=>
 vK (ia (ix a 1) l) λba=>
 vK (ag .i .add (ix a 2) (.int .i64 1)) λbb=>
 ai [a9,ba,bb] f) (
 R (ix a 0) d))
theorem F0 (H:xb a0 a1 h R):ae prog sK #[a0,a1] h R:=fk f48 (.s .z (.s (.s .z (.s (.s .z .z) .z)) (.s .z (.s .z (.s (.s .z (.l 288230375883277280 [5,6,28] (.s .z (.s (.s .z .z) (.s (.s .z (.s .z (.s .z (.s .z .z)))) .z))))) (.s .z .z)))))) H
def rR (a0:Value)(h:af)(R:Value→af→Prop):Prop:=
 aP #[(.pointer none),(.pointer none),(.int .i64 0)] 81 h λa b=>
 vK (aK a0) λd=>
 vK (am 0 d) λe=>
 vK (aH 3 b e) λf=>
 stK 3 a f b λi c=>
 vK (aH 3 c a) λg=>
 R g c
theorem BR (H:rR a0 h R):ae prog gC #[a0] h R:=fk f49 (.s .z (.s .z .z)) H
end
end Go.Proofs.YtjljhnandbbldaaGreatDoor
