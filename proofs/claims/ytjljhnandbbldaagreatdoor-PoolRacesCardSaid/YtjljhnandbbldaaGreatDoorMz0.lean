/- Several texts of this session, one behind the other, without what this claim does not need (put together by its program pack.py). Conditions: none. -/
import Derived.Orders
import Derived.OrdersHeld
import Derived.Deep.Quiet
import Derived.Calls
import Derived.Laws.Sem
import Derived.Laws.World
import Derived.Laws.StructEq
import Derived.LaidEql
import Derived.Tactics
import Derived.KernelRfl
import Derived.Laws.Append
import Derived.WalkKit
import Derived.ProofKit
import Derived.OpenShut
import Derived.ShutString
import Derived.ChangeOld
import Derived.Below
import Derived.Carry
import Derived.SizedLaws
import Derived.Test.YtjljhnandbbldaaGreatDoorProg
set_option linter.unusedVariables false
set_option linter.unusedSimpArgs false
set_option maxRecDepth 100000
theorem ae {p:Prop}(h:p:=by omega):p:=h
abbrev af (n:Int):Go.Value:=.int .i64 n
abbrev ai:Go.Value:=.int .i64 0
abbrev aG:Go.Value:=.int .i64 1
abbrev aq:= @if_neg
abbrev aA:= @if_pos
abbrev aO:= @Nat.zero_add
abbrev bB:= @Nat.le_trans
abbrev bP:= @Go.Result.andThen_ok
abbrev b9:= @Nat.zero_le
abbrev bZ:= @Go.Sem.run_bind
abbrev co:= @List.length_append
abbrev cE:= @decide_eq_false
abbrev cK:= @Option.some.injEq
abbrev cf:= @Nat.le_refl
abbrev ce:= @Nat.lt_of_lt_of_le
abbrev cj:= @List.append_assoc
abbrev cq:= @Decidable.of_not_not
abbrev cH:= @if_false
abbrev cN:= @if_true
abbrev cS:= @List.length_map
abbrev cG:= @List.getElem_mem
abbrev cL:= @decide_eq_true
abbrev cR:= @Option.map_some
abbrev cQ:= @List.mem_append
abbrev cT:= @Go.Sem.run_pure
abbrev de:= @List.length_take
abbrev cW:= @Eq.trans
abbrev dd:= @decide_eq_true_eq
abbrev dc:= @List.mem_singleton
abbrev dk:= @Go.run_underlying
abbrev dj:= @Bool.and_eq_true
abbrev dX:= @List.getElem_map
abbrev dA:= @List.getD_eq_getElem?_getD
abbrev dW:= @Int.toNat_natCast
abbrev dT:= @Int.le_refl
abbrev eO:= @Nat.add_mul
abbrev fO:= @List.mem_map
abbrev fC:= @List.mem_cons
abbrev fB:= @List.take_of_length_le
abbrev fu:= @Nat.mul_comm
abbrev ft:= @List.length_range
abbrev fN:= @List.append_nil
abbrev fM:= @Int.mul_comm
abbrev fX:= @List.nil_append
abbrev gm:= @eq_false
abbrev gO:= @Bool.false_eq_true
abbrev gN:= @Nat.add_zero
abbrev gM:= @decide_true
abbrev iy:= @Nat.mod_lt
abbrev iu:= @Ne.symm
abbrev ir:= @decide_eq_decide
abbrev iJ:= @Int.emod_lt_of_pos
abbrev iI:= @List.getElem?_eq_getElem
abbrev ja:= @Nat.mul_le_mul_right
abbrev iZ:= @Int.add_mul
abbrev iY:= @List.take_succ_eq_append_getElem
abbrev jC:= @List.length_drop
abbrev jA:= @List.map_append
abbrev jX:= @Nat.div_le_self
abbrev jW:= @eq_true
abbrev kA:= @Int.emod_nonneg
abbrev kz:= @Int.tmod_eq_emod_of_nonneg
abbrev kS:= @List.length_nil
abbrev kR:= @Int.one_mul
abbrev lN:= @Nat.mul_one
abbrev mE:= @List.mem_range
abbrev lM:= @eq_self
abbrev mD:= @Array.getElem?_eq_some_iff
abbrev mC:= @List.take_append_drop
abbrev mB:= @Int.natCast_mul
abbrev mA:= @List.range_succ
abbrev oe:= @List.cons_append
abbrev nZ:= @List.eq_nil_of_length_eq_zero
abbrev nW:= @List.mem_iff_getElem
abbrev nV:= @Nat.div_add_mod
abbrev nU:= @Int.mul_nonneg
abbrev nT:= @Int.lt_or_le
abbrev ur:= @List.getElem_range
abbrev uq:= @cond_true
abbrev pK:= @Nat.lt_or_ge
abbrev pJ:= @List.length_cons
abbrev pI:= @Int.mul_assoc
abbrev rE:= @List.ext_getElem
abbrev rD:= @Array.getElem?_eq_getElem
abbrev rC:= @List.drop_eq_nil_of_le
abbrev rB:= @Int.mul_le_mul
abbrev uo:= @List.mem_cons_of_mem
abbrev yF:= @cond_false
abbrev un:= @Option.some.inj
abbrev um:= @Nat.lt_of_le_of_lt
abbrev ul:= @Nat.div_eq_of_lt
abbrev uk:= @Int.ediv_lt_iff_lt_mul
abbrev uj:= @Nat.one_mul
abbrev ui:= @Int.mul_le_mul_of_nonneg_right
abbrev uh:= @List.not_mem_nil
abbrev Am:= @List.getElem?_toArray
abbrev wR:= @Bool.or_eq_true
abbrev wQ:= @Nat.div_lt_iff_lt_mul
abbrev yE:= @List.getElem_take
abbrev wO:= @Nat.mod_eq_of_lt
abbrev wN:= @Int.le_ediv_iff_mul_le
abbrev wM:= @Nat.pow_add
abbrev wL:= @List.pairwise_iff_getElem
abbrev pQ:= @List.countP_cons
abbrev pP:= @Int.mul_ediv_add_emod
abbrev pN:= @List.pairwise_append
abbrev yg:= @List.map_map
abbrev pM:= @List.length_replicate
abbrev pL:= @Int.le_trans
abbrev sq:= @List.map_cons
abbrev yf:= @List.getElem?_cons_succ
abbrev si:= @Go.wp_mono
abbrev sf:= @Int.mul_le_mul_of_nonneg_left
abbrev sb:= @Nat.add_sub_cancel
abbrev rZ:= @Int.ediv_eq_zero_of_lt
abbrev vC:= @Go.run_program
abbrev vB:= @Array.getElem?_toList
abbrev vA:= @List.mem_of_getElem?
abbrev vz:= @Nat.add_assoc
abbrev vy:= @List.getElem?_append_left
abbrev vx:= @Nat.min_eq_left
abbrev vw:= @List.length_pos_iff
abbrev ye:= @List.getElem_drop
abbrev vv:= @Nat.mul_assoc
abbrev vu:= @Nat.mul_le_mul
abbrev vq:= @Int.add_mul_ediv_left
abbrev vl:= @List.countP_append
abbrev vk:= @List.getElem?_append_right
abbrev vj:= @Int.ediv_nonneg
abbrev yd:= @Nat.eq_zero_or_pos
abbrev Ei:= @List.getElem?_cons_zero
abbrev yc:= @Go.wpOp_mono
abbrev yb:= @List.getElem?_map
abbrev xZ:= @Bool.true_and
abbrev xY:= @List.foldl_cons
abbrev xX:= @Nat.pow_pos
abbrev xW:= @Int.tdiv_eq_ediv_of_nonneg
abbrev Mu:= @List.map_congr_left
abbrev xV:= @List.pairwise_cons
abbrev xU:= @Int.toNat_of_nonneg
abbrev xT:= @List.mem_append_left
abbrev xS:= @Int.mul_pos
abbrev AA:= @Nat.eq_of_beq_eq_true
abbrev Az:= @Go.mem_ready
abbrev Ay:= @Array.getElem?_eq_none
abbrev Ax:= @Go.ready_mono
abbrev Aw:= @of_decide_eq_true
abbrev Av:= @true_and
abbrev Au:= @Nat.succ_mul
abbrev As:= @List.drop_eq_getElem_cons
abbrev Ar:= @Nat.zero_mul
abbrev Jv:= @Array.length_toList
abbrev Aq:= @Int.mul_neg
abbrev Ap:= @Nat.sub_zero
abbrev Ao:= @and_self
abbrev An:= @List.take_length
abbrev Eh:= @List.all_eq_true
abbrev Ef:= @Array.toArray_toList
abbrev Ee:= @beq_iff_eq
abbrev Ed:= @List.getElem_cons_zero
abbrev Ec:= @Nat.add_comm
abbrev Eb:= @List.mem_of_mem_take
abbrev Ea:= @Nat.mul_left_comm
abbrev D8:= @Int.le_total
abbrev D7:= @decide_eq_false_iff_not
abbrev D6:= @Int.mul_left_comm
abbrev D5:= @List.foldl_append
abbrev D4:= @List.getElem_set
abbrev D3:= @List.getElem?_eq_none
abbrev D0:= @eq_comm
abbrev DZ:= @Iff.rfl
abbrev DY:= @List.countP_nil
abbrev Ju:= @Array.ext'
abbrev Jt:= @Bool.not_eq_true'
abbrev Js:= @List.mem_cons_self
abbrev Jr:= @List.mapM_cons
abbrev Jq:= @Bool.eq_false_iff
abbrev Jp:= @List.drop_drop
abbrev Jo:= @Array.any_eq_true'
abbrev Jn:= @Nat.and_one_is_mod
abbrev Jm:= @Nat.le_of_not_lt
abbrev Jl:= @List.length_singleton
abbrev Jk:= @Nat.div_div_eq_div_mul
abbrev Jj:= @Nat.mul_add
abbrev Ji:= @Nat.add_mul_div_left
abbrev Jh:= @dif_pos
abbrev Jg:= @Int.pow_pos
abbrev Jf:= @Int.le_of_lt_add_one
abbrev Je:= @Bool.decide_and
abbrev Jd:= @decide_not
abbrev Jc:= @Nat.div_mul_le_self
abbrev Jb:= @Int.mul_add
abbrev Ja:= @List.perm_append_comm
abbrev I9:= @List.Perm.refl
abbrev IZ:= @List.take_zero
abbrev IY:= @List.length_set
abbrev IV:= @getElem!_pos
abbrev Mt:= @Go.Sem.run_map
abbrev Ms:= @Array.mem_filter
abbrev Mr:= @Option.map_none
abbrev Mq:= @Bool.or_eq_false_iff
abbrev Mp:= @Array.ext
abbrev Mo:= @Array.getElem?_modify
abbrev Mn:= @Nat.le_total
abbrev Mm:= @List.drop_zero
abbrev Ml:= @Nat.pow_succ
abbrev Mk:= @Nat.add_mul_mod_self_left
abbrev Mj:= @Nat.le_div_iff_mul_le
abbrev Mh:= @decide_false
abbrev Mg:= @Go.ByteArray.toList_eq
abbrev Mf:= @List.map_set
abbrev Me:= @List.set_append_right
abbrev Md:= @List.concat_eq_append
abbrev Mb:= @List.getElem?_eq_some_iff
abbrev Ma:= @List.mem_replicate
abbrev L9:= @Nat.mul_add_mod
abbrev YO:= @Function.comp_def
abbrev L8:= @Int.natCast_add
abbrev L7:= @Nat.le_succ
abbrev TM:= @Array.toList_map
abbrev TL:= @Array.getD_eq_getD_getElem?
abbrev TK:= @Nat.shiftRight_eq_div_pow
abbrev TJ:= @Array.setIfInBounds_comm
abbrev TI:= @List.range_eq_range'
abbrev TH:= @List.size_toArray
abbrev TG:= @Go.growslice_fits
abbrev TF:= @List.take_append_of_le_length
abbrev TE:= @List.drop_append
abbrev TD:= @Option.bind_eq_some_iff
abbrev TC:= @Int.mul_le_mul_of_nonpos_left
abbrev TB:= @BitVec.toNat_ofInt
abbrev TA:= @Int.fdiv_eq_ediv_of_nonneg
abbrev Tz:= @Nat.mul_lt_mul_of_pos_right
abbrev Ty:= @Nat.mul_right_comm
abbrev Tx:= @Nat.mul_mod_mul_right
abbrev Tw:= @Int.zero_sub
abbrev Tu:= @Int.neg_mul
abbrev Tt:= @List.mergeSort_perm
abbrev Ts:= @Int.sub_mul
abbrev Tr:= @List.perm_middle
abbrev Tq:= @List.length_eq_one_iff
abbrev Tp:= @List.mem_of_mem_drop
abbrev To:= @Nat.pow_succ'
abbrev Tn:= @Nat.div_le_div_left
abbrev Tm:= @Int.mul_sub
abbrev Tl:= @Option.isNone_none
abbrev Tk:= @Option.isNone_some
abbrev Tj:= @List.map_replicate
abbrev Ti:= @Int.add_mul_ediv_right
abbrev Th:= @Int.zero_mul
abbrev zdh:= @Prod.mk.injEq
abbrev Tg:= @Array.mem_toList_iff
abbrev Tf:= @Nat.lt_succ_iff_lt_or_eq
abbrev YN:= @List.getElem_replicate
abbrev zdg:= @Nat.lt_succ_of_lt
abbrev Te:= @Go.callsIn_wide
abbrev Td:= @Int.eq_ofNat_of_zero_le
abbrev Tc:= @List.dropLast_concat_getLast
abbrev Tb:= @List.nodup_iff_pairwise_ne
abbrev Ta:= @List.nodup_append
abbrev S9:= @Nat.sub_self
abbrev S7:= @Nat.mul_add_div
abbrev S6:= @Int.lt_of_not_ge
abbrev S5:= @List.filter_cons
abbrev S0:= @Classical.byContradiction
abbrev SZ:= @Int.emod_add_mul_ediv
abbrev YM:= @Array.mapM_eq_mapM_toList
abbrev YL:= @Array.getElem?_setIfInBounds_ne
abbrev YK:= @Array.getElem?_replicate
abbrev YJ:= @Array.getElem?_setIfInBounds
abbrev YI:= @Classical.choose_spec
abbrev YH:= @List.drop_append_of_le_length
abbrev YG:= @List.getElem_append_left
abbrev YF:= @Array.zipIdx_toArray
abbrev YE:= @List.foldl_toArray'
abbrev YD:= @List.getElem?_take_of_lt
abbrev YC:= @Nat.mul_le_mul_left
abbrev YB:= @Nat.mul_div_mul_right
abbrev YA:= @List.countP_eq_zero
abbrev Yz:= @List.pairwise_mergeSort
abbrev Yy:= @List.range'_append_1
abbrev Yx:= @List.pairwise_lt_range'
abbrev Yw:= @List.drop_replicate
abbrev Yv:= @Nat.le_mul_of_pos_right
abbrev Yu:= @List.mem_or_eq_of_mem_set
abbrev Yt:= @Nat.add_sub_cancel_left
abbrev Ys:= @List.getElem?_range
abbrev Yr:= @Int.lt_of_add_one_le
abbrev Yq:= @List.map_eq_nil_iff
abbrev Yp:= @List.filter_eq_nil_iff
abbrev Yo:= @List.flatMap_append
abbrev Yn:= @List.length_filter_le
abbrev Ym:= @List.mem_of_mem_tail
namespace Go.Crisp
open Go
section
abbrev ah:=Array Obj
abbrev Env:=Nat→Value
abbrev oL:=ah→(Value→ah→Prop)→Prop
def dO (w w':World):Prop:=w'.os=w.os∧w'.tape=w.tape∧w'.output=w.output
theorem dO.refl (w:World):dO w w:=⟨rfl,rfl,rfl⟩
theorem dO.trans {a b c:World}(h:dO a b)(k:dO b c):dO a c:=⟨k.1.trans h.1,k.2.1.trans h.2.1,k.2.2.trans h.2.2⟩
def ev (ρ:Env):Operand→Value
 | .tmp t=>ρ t
 | .const v=>v
 | .global g=>.pointer (some ⟨g,0,none⟩)
 | .func f=>.func (.func f) #[] #[]
def up (ρ:Env)(d:Option Tmp)(v:Value):Env:=
 match d with
 |some d=>λt=>match Nat.beq t d with
  |true=>v
  |false=>ρ t
 |none=>ρ
def aH (h:ah)(a:Addr):Option Value:=
 match h[a.block]? with
 |some (.cells c _ _)=>if a.spot.isSome then none else c[a.off]?
 |_=>none
def wW (h:ah)(a:Addr):Bool:=
 match h[a.block]? with
 |some (.cells _ _ (lo,hi))=>lo≤a.off&&a.off<hi
 |_=>false
def MU (h:ah)(a:Addr)(v:Value):ah:=
 h.modify a.block λ
  | .cells c elem frozen=>.cells (if a.spot.isSome then c else c.setIfInBounds a.off v) elem frozen
  |o=>o
def fj (h:ah)(a:Addr):Nat→Nat→Option (List Value)
 |_,0=>some []
 | i,n+1=>match aH h (a.add i)with
  |some v=>match fj h a (i+1) n with
   |some l=>some (v::l)
   |none=>none
  |none=>none
def aV:Value→Bool
 | .agg _| .tuple _=>false
 |_=>true
def kG (h:ah)(a:Addr):Nat→List Value→Option ah
 |_,[]=>some h
 |i,v::l=>
  match aH h (a.add i)with
  |some _=>bif aV v&& !wW h (a.add i)then kG (MU h (a.add i) v) a (i+1) l else none
  |none=>none
inductive SE where
 |b|i
 |st (fs:List (Nat×Nat×SE))
inductive EK where
 |b|i|s|p|sl|m|f|o
 |st (fs:List (Nat×Nat×SE))
def zcV (f:TypeId→Option SE) (sz:TypeId→Option Nat):List Field→Option (List (Nat×Nat×SE))
 | []=>some []
 | fd::fs=>match f fd.type with
  |none=>none
  | some e=>match sz fd.type with
   |none=>none
   |some n=>match zcV f sz fs with
    |none=>none
    |some l=>some ((fd.offset,n,e)::l)
def zbQ (P:Program)(fs:Array Field)(t:TypeId):Bool:= !P.stoodInHeld t&&(!P.eqGuardType P.depth t&&fs.toList.all λf=>f.name != "_")
def R0 (P:Program):Nat→TypeId→Option SE
 |0,_=>none
 | d+1,t=>match P.underlying t with
  |some .bool=>some .b
  |some (.int _)=>some .i
  | some (.struct fs)=>match zbQ P fs t with
   |true=>match zcV (R0 P d) (λt=>(P.info? t).map (·.size)) fs.toList with
    |some l=>some (.st l)
    |none=>none
   |false=>none
  |_=>none
def OU (P:Program)(t:TypeId):EK:=
 match P.underlying t with
 |some .bool=>.b
 |some (.int _)=>.i
 |some .string=>.s
 |some (.pointer _)=>.p
 |some (.slice _)=>.sl
 |some (.map _ _)=>.m
 |some (.func _ _ _)=>.f
 |some (.struct _)=>match R0 P 4 t with
  |some (.st l)=>.st l
  |_=>.o
 |_=>.o
def MW:SE→Bool
 | .st _=>true
 |_=>false
mutual
def MV:SE→Value→Value→Option Bool
 | .b,.bool a,.bool b=>some (a==b)
 | .i,.int k a,.int k' b=>if k=k' then some (a==b)else none
 | .st fs,.agg xs,.agg ys=>Io fs xs ys
 |_,_,_=>none
def Io:List (Nat×Nat×SE)→Array Value→Array Value→Option Bool
 | [],_,_=>some true
 | (o,n,e)::fs,xs,ys=>
  match(bif MW e then some (.agg (xs.extract o (o+n)))else xs[o]?),(bif MW e then some (.agg (ys.extract o (o+n)))else ys[o]?)with
  |some a,some b=>match MV e a b with
   |some true=>Io fs xs ys
   |some false=>some false
   |none=>none
  |_,_=>none
end
def eqV (e:EK)(x y:Value):Option Bool:=
 match e,x,y with
 | .b,.bool a,.bool b=>some (a==b)
 | .p,.pointer none,.pointer b=>some b.isNone
 | .p,.pointer (some _),.pointer none=>some false
 | .sl,.slice none _ _,.slice b _ _=>some b.isNone
 | .sl,.slice (some _) _ _,.slice none _ _=>some false
 | .m,.map none,.map b=>some b.isNone
 | .m,.map (some _),.map none=>some false
 | .f,.nilFunc,.nilFunc=>some true
 | .f,.nilFunc,.func _ _ _=>some false
 | .f,.func _ _ _,.nilFunc=>some false
 | .st fs,.agg xs,.agg ys=>Io fs xs ys
 |_,_,_=>none
def YY (P:Program):Bool:=true
class lR (P:Program):Prop where
 ok:YY P=true
def JE (op:BinOp)(k:IntKind)(a b:Int):Option Value:=
 match op with
 | .add=>some (.int k (k.wrap (a+b)))
 | .sub=>some (.int k (k.wrap (a-b)))
 | .mul=>some (.int k (k.wrap (a*b)))
 | .quo=>if b=0 then none else some (.int k (k.wrap (a.tdiv b)))
 | .rem=>if b=0 then none else some (.int k (a.tmod b))
 | .and=>some (.int k (k.wrap (BitVec.ofInt k.bits a&&& BitVec.ofInt k.bits b).toNat))
 | .or=>some (.int k (k.wrap (BitVec.ofInt k.bits a|||BitVec.ofInt k.bits b).toNat))
 | .xor=>some (.int k (k.wrap (BitVec.ofInt k.bits a^^^BitVec.ofInt k.bits b).toNat))
 | .andNot=>some (.int k (k.wrap (BitVec.ofInt k.bits a&&& ~~~ BitVec.ofInt k.bits b).toNat))
 | .eql=>some (.bool (a==b))
 | .neq=>some (.bool (a != b))
 | .lss=>some (.bool (a<b))
 | .leq=>some (.bool (a≤b))
 | .gtr=>some (.bool (b<a))
 | .geq=>some (.bool (b≤a))
 |_=>none
def strV (op:BinOp)(x y:ByteArray):Option Value:=
 match op with
 | .add=>if((x.size+y.size:Nat):Int)>IntKind.i64.max then none else some (.string (x++y))
 | .eql=>some (.bool (x.toList==y.toList))
 | .neq=>some (.bool !(x.toList==y.toList))
 |_=>none
def ak (e:EK)(op:BinOp)(x y:Value):Option Value:=
 match x,y with
 | .int k a,.int k' b=>
  match op with
  | .shl=>if b<0 then none else some (.int k (k.wrap (a*2^(min b.toNat k.bits))))
  | .shr=>if b<0 then none else some (.int k (a.fdiv (2^(min b.toNat k.bits))))
  |op=>if k=k' then JE op k a b else none
 | .string a,.string b=>strV op a b
 |x,y=>
  match op with
  | .eql=>(eqV e x y).map .bool
  | .neq=>(eqV e x y).map λb=>.bool !b
  |_=>none
def unV (op:UnOp)(x:Value):Option Value:=
 match op,x with
 | .neg,.int k n=>some (.int k (k.wrap (0-n)))
 | .xor,.int k n=>some (.int k (k.wrap (BitVec.ofInt k.bits (if k.signed then-1 else k.max)^^^BitVec.ofInt k.bits n).toNat))
 | .not,.bool b=>some (.bool !b)
 |_,_=>none
def aF (c x y:Value):Option Value:=
 match c with
 | .bool b=>some (bif b then x else y)
 |_=>none
def aT:Value→Option Value
 | .pointer none| .nilIface| .nilFunc=>none
 | .func (.method _) _ _=>none
 |x=>some x
def ldV (h:ah)(x:Value):Option Value:=
 match x with
 | .pointer (some a)=>aH h a
 |_=>none
def Vd:Operand→Bool
 | .const (.pointer none)=>true
 |_=>false
def pA (h:ah)(b:Nat):Bool:=match h[b]? with
 |some (.cells _ _ (0,0))=>true
 |_=>false
def peV (h:ah)(op:BinOp)(x y:Value):Option Value:=
 match x,y with
 | .pointer (some a),.pointer (some b)=>match op with
  | .eql=>if a=b then some (.bool true)else if pA h a.block&&pA h b.block then some (.bool false)else none
  | .neq=>if a=b then some (.bool false)else if pA h a.block&&pA h b.block then some (.bool true)else none
  |_=>none
 |x,y=>ak .p op x y
def aR (n:Nat)(h:ah)(x:Value):Option Value:=
 match x with
 | .pointer (some a)=>(fj h a 0 n).map λl=>.agg l.toArray
 |_=>none
def aB (off:Nat)(x:Value):Option Value:=
 match x with
 | .pointer (some a)=>some (.pointer (some (a.add off)))
 |_=>none
def qV (agg:Bool)(size off:Nat)(x:Value):Option Value:=
 match x with
 | .agg cs=>bif agg then some (.agg (cs.extract off (off+size)))else cs[off]?
 |_=>none
def bu (size:Nat)(x i:Value):Option Value:=
 match x,i with
 | .slice (some a) len _,.int _ i=>if 0≤i∧i<(len:Int)then some (.pointer (some (a.add (i.toNat*size))))else none
 |_,_=>none
def OG (len size:Nat)(x i:Value):Option Value:=
 match x,i with
 | .pointer (some a),.int _ i=>if 0≤i∧i<(len:Int)then some (.pointer (some (a.add (i.toNat*size))))else none
 |_,_=>none
def zeL (x i:Value):Option Value:=
 match x,i with
 | .string s,.int _ i=>(if 0≤i then s[i.toNat]? else none).map λb=>.int .u8 b.toNat
 |_,_=>none
def aP (x:Value)(i:Nat):Option Value:=
 match x with
 | .tuple vs=>vs[i]?
 |_=>none
def gP (k:IntKind)(x:Value):Option Value:=
 match x with
 | .int _ n=>some (.int k (k.wrap n))
 |_=>none
def zep (x:Value):Option Value:=
 match x with
 | .int _ n=>some (.string (Utf8.encode n))
 |_=>none
def aC (x:Value):Option Value:=
 match x with
 | .slice _ n _=>some (.int .i64 n)
 |_=>none
def Ky (x:Value):Option Value:=
 match x with
 | .string s=>some (.int .i64 s.size)
 |_=>none
def Oq (h:ah)(x:Value):Option Value:=
 match x with
 | .map none=>some (.int .i64 0)
 | .map (some r)=>match h[r]? with
  |some (.map es _)=>some (.int .i64 es.size)
  |_=>none
 |_=>none
def kw (x y:Value):Option Value:=
 match x,y with
 | .int k a,.int _ b=>some (.int k (if b>a then b else a))
 |_,_=>none
def tG (x y:Value):Option Value:=
 match x,y with
 | .int k a,.int _ b=>some (.int k (if b<a then b else a))
 |_,_=>none
def zel (x y z:Value):Option Value:=
 match kw x y with
 |some a=>kw a z
 |none=>none
def zek (x y z:Value):Option Value:=
 match tG x y with
 |some a=>tG a z
 |none=>none
def bdV (x:Option Value)(d:Nat)(most:Nat):Option Nat:=
 match x with
 |none=>some d
 |some (.int _ i)=>if 0≤i∧i≤(most:Int)then some i.toNat else none
 |some _=>none
def yu (size:Nat)(x:Value)(lo hi:Option Value):Option Value:=
 match x with
 | .slice a len cap=>match bdV hi len cap with
  |some h=>match bdV lo 0 h with
   |some l=>some (.slice (if cap=l then a else a.map (·.add (l*size))) (h-l) (cap-l))
   |none=>none
  |none=>none
 |_=>none
def zey (x:Value)(lo hi:Option Value):Option Value:=
 match x with
 | .string s=>match bdV hi s.size s.size with
  |some h=>match bdV lo 0 h with
   |some l=>some (.string (s.extract l h))
   |none=>none
  |none=>none
 |_=>none
def vK (r:Option Value)(K:Value→Prop):Prop:=
 match r with
 |some v=>K v
 |none=>False
def A7 (P:Program)(t:TypeId):Option Bool:=
 (P.underlying t).map λ
  | .struct _| .array _ _=>true
  |_=>false
def fK (P:Program)(t:TypeId):Option Nat:=(P.info? t).map (·.size)
def yt (P:Program)(t:TypeId):Option Value:=(P.info? t).bind (·.zero)
def mh (P:Program)(t:TypeId):Option TypeDesc:=
 match P.underlying t with
 |some (.int k)=>some (.int k)
 |some .bool=>some .bool
 |some .string=>some .string
 |_=>none
def Vh (h:ah)(m:Value):Option (Array MapEntry×Nat):=
 match m with
 | .map (some r)=>match h[r]? with
  |some (.map es c)=>some (es,c)
  |_=>none
 |_=>none
def Bv (kd:TypeDesc)(zero:Value)(ok:Bool)(h:ah)(m k:Value):Option Value:=
 match m with
 | .map none=>some (bif ok then .tuple #[zero,.bool false]else zero)
 | m=>match Vh h m with
  |none=>none
  |some (es,_)=>match Instr.findNow kd k es.toList 0 with
   |some (some (_,v))=>some (bif ok then .tuple #[v,.bool true]else v)
   |some none=>some (bif ok then .tuple #[zero,.bool false]else zero)
   |none=>none
def aQ (cells:Array Value):List (Nat×Nat×Value)→Option (Array Value)
 | []=>some cells
 |(off,size,v)::rest=>
  if v.cells.size≠size||off+v.cells.size>cells.size then none
  else aQ (v.cells.zipIdx.foldl (λcs (c,j)=>cs.setIfInBounds (off+j) c) cells) rest
def xO (P:Program):List Field→Option (List (Nat×Nat))
 | []=>some []
 | f::fs=>match fK P f.type with
  |none=>none
  |some s=>match xO P fs with
   |none=>none
   |some l=>some ((f.offset,s)::l)
def UQ (P:Program)(t:TypeId):Option (Nat→Option (Nat×Nat)):=
 match P.underlying t with
 |some (.struct fs)=>(xO P fs.toList).map λl=>λi=>l[i]?
 |some (.array _ e)=>(fK P e).map λs=>λi=>some (i*s,s)
 |_=>none
def CN (pl:Nat→Option (Nat×Nat))(ρ:Env):List (Nat×Operand)→Option (List (Nat×Nat×Value))
 | []=>some []
 | (i,x)::rest=>match pl i with
  |none=>none
  |some (o,s)=>match CN pl ρ rest with
   |none=>none
   |some l=>some ((o,s,ev ρ x)::l)
def roB (P:Program)(b:Builtin)(args:List Value)(ts:List TypeId)(h:ah):Option (Option Value):=
 match b with
 | .len=>match args,ts with
  | [x],[t]=>match P.underlying t with
   |some (.slice _)=>some (aC x)
   |some .string=>some (Ky x)
   |some (.map _ _)=>some (Oq h x)
   |_=>none
  |_,_=>none
 | .max=>match args with
  | [x,y]=>some (kw x y)
  | [x,y,z]=>some (zel x y z)
  |_=>none
 | .min=>match args with
  | [x,y]=>some (tG x y)
  | [x,y,z]=>some (zek x y z)
  |_=>none
 |_=>none
def roV (P:Program) (ρ:Env) (op:Op) (h:ah):Option (Option Value):=
 match op with
 | .move x| .assign x=>some (some (ev ρ x))
 | .pick c x y=>some (aF (ev ρ c) (ev ρ x) (ev ρ y))
 | .load t x=>match A7 P t with
  |some false=>some (ldV h (ev ρ x))
  |some true=>match fK P t with
   |some n=>some (aR n h (ev ρ x))
   |none=>none
  |none=>none
 | .nilCheck x=>some (aT (ev ρ x))
 | .binOp op t x y _=>match OU P t with
  | .o=>none
  | .p=>match Vd x||Vd y with
   |true=>some (ak .p op (ev ρ x) (ev ρ y))
   | false=>match P.underlying t with
    |some (.pointer e)=>match fK P e with
     |some (_+1)=>some (peV h op (ev ρ x) (ev ρ y))
     |_=>none
    |_=>none
  |e=>some (ak e op (ev ρ x) (ev ρ y))
 | .unOp op _ x=>some (unV op (ev ρ x))
 | .convert s d x=>match P.underlying s,P.underlying d with
  |some (.int _),some (.int k)=>some (gP k (ev ρ x))
  |some (.int _),some .string=>some (zep (ev ρ x))
  |_,_=>none
 | .slice t x lo hi none=>match P.underlying t with
  |some (.slice e)=>match fK P e with
   |some n=>some (yu n (ev ρ x) (lo.map (ev ρ)) (hi.map (ev ρ)))
   |none=>none
  |some .string=>some (zey (ev ρ x) (lo.map (ev ρ)) (hi.map (ev ρ)))
  |_=>none
 | .fieldAddr s x f=>match P.underlying s with
  | some (.struct fs)=>match fs[f]? with
   |some fd=>match fK P fd.type with
    |some 0=>none
    |some (_+1)=>some (aB fd.offset (ev ρ x))
    |none=>none
   |none=>none
  |_=>none
 | .field t x f=>match P.underlying t with
  | some (.struct fs)=>match fs[f]? with
   |some fd=>match A7 P fd.type,fK P fd.type with
    |some b,some n=>some (qV b n fd.offset (ev ρ x))
    |_,_=>none
   |none=>none
  |_=>none
 | .indexAddr t x i=>match P.underlying t with
  |some (.slice e)=>match fK P e with
   |some n=>some (bu n (ev ρ x) (ev ρ i))
   |none=>none
  |some (.array len e)=>match fK P e with
   |some n=>some (OG len n (ev ρ x) (ev ρ i))
   |none=>none
  |_=>none
 | .index t x i=>match P.underlying t with
  |some .string=>some (zeL (ev ρ x) (ev ρ i))
  |_=>none
 | .extract t i=>some (aP (ev ρ t) i)
 | .makeInterface t x=>match P.underlying t with
  |some (.interface _)=>none
  |some _=>some (some (.iface t (ev ρ x)))
  |none=>none
 | .makeFunc fn first captured=>some (some (.func fn (first.map (ev ρ)) (captured.map (ev ρ))))
 | .lookup t x k ok=>match P.underlying t with
  |some (.map kt et)=>match mh P kt,yt P et with
   |some kd,some z=>some (Bv kd z ok h (ev ρ x) (ev ρ k))
   |_,_=>none
  |_=>none
 | .build t parts=>match yt P t,UQ P t with
  |some z,some pl=>match CN pl ρ parts.toList with
   |some l=>some ((aQ z.cells l).map .agg)
   |none=>none
  |_,_=>none
 | .call c=>match c.callee with
  | .builtin b=>roB P b (c.args.map (ev ρ)).toList c.argTypes.toList h
  |_=>none
 |_=>none
section
variable {P:Program}{ρ:Env}{w:World}
theorem aM {t:TypeId}{n:Nat}(h:fK P t=some n):(sizeOf t).run P w=.ok n w:=by
 unfold fK at h;cases hi:P.info? t with
 |none=>simp[hi]at h
 |some i=>simp[hi]at h;simp[sizeOf,typeInfo,hi,h]
theorem aZ {t:TypeId}{b:Bool}(h:A7 P t=some b):(isAgg t).run P w=.ok b w:=by
 unfold A7 at h;cases hi:P.underlying t with
 |none=>simp[hi]at h
 |some d=>
  simp only[hi,cR,cK]at h;subst h;simp only[isAgg,bZ,dk hi,bP];cases d<;>rfl
theorem aI {t:TypeId}{z:Value}(h:yt P t=some z):(zeroValue t).run P w=.ok z w:=by
 unfold yt at h;cases hi:P.info? t with
 |none=>simp[hi]at h
 |some i=>simp[hi]at h;simp[zeroValue,typeInfo,hi,h]
theorem QV {a:Addr}{v:Value}(h:aH w.heap a=some v):(load a).run P w=.ok v w:=by
 have:w.cell? a=some v:=h;simp[this]
theorem xN (a:Addr):∀(n i:Nat) (acc:Array Value) (l:List Value),fj w.heap a i n=some l→(loadCellsFrom a i n acc).run P w=.ok (acc++l.toArray) w
 |0,i,acc,l,h=>by
  simp[fj]at h;subst h;simp[loadCellsFrom]
 | n+1,i,acc,l,h=>by
  unfold fj at h;cases h1:aH w.heap (a.add i)with
  |none=>simp[h1]at h
  | some v=>
   simp only[h1]at h;cases h2:fj w.heap a (i+1) n with
   |none=>simp[h2]at h
   |some l'=>
    simp only[h2,cK]at h;subst h;have:=xN a n (i+1) (acc.push v) l' h2;simp only[loadCellsFrom,bZ,QV h1,bP,this]
    congr 1
    apply Ju;simp
theorem Bs {t:TypeId}{a:Addr}{v:Value}(ht:A7 P t=some false)(h:aH w.heap a=some v):(loadVar t a).run P w=.ok v w:=by
 simp[loadVar,aZ ht];simpa using QV (P:=P) h
theorem Bt {t:TypeId}{a:Addr}{n:Nat}{l:List Value}(ht:A7 P t=some true)(hs:fK P t=some n)(h:fj w.heap a 0 n=some l):
  (loadVar t a).run P w=.ok (.agg l.toArray) w:=by
 have:=xN (P:=P) a n 0 #[] l h;simp[loadVar,aZ ht,aM hs,loadCells,this]
theorem J0 {t:TypeId}{b:Bool}{n off:Nat}{cs:Array Value}{v:Value}(ht:A7 P t=some b)(hs:fK P t=some n)(h:qV b n off (.agg cs)=some v):
  (part t cs off).run P w=.ok v w:=by
 simp only[qV]at h;simp only[part,bZ,aZ ht,bP];cases b
 ·simp at h;simp[h]
 ·simp at h;simp[aM hs,h]
theorem nA {x:Value}{most n:Nat}(c:BoundsCode)(d:Nat)(h:bdV (some x) d most=some n):(Instr.sliceBound x most c).run P w=.ok n w:=by
 unfold bdV at h;cases x<;>simp at h
 rename_i k i;obtain⟨h1,rfl⟩:=h;simp[Instr.sliceBound,asIntOf,h1]
theorem zo {b:Bool}{len cap l h:Nat}{lo hi:Option Value}(hh:bdV hi len cap=some h)(hl:bdV lo 0 h=some l):
  (Instr.sliceBounds b len cap lo hi none).run P w=.ok (l,h,cap) w:=by
 unfold Instr.sliceBounds;cases hi with
 |none=>
  simp[bdV]at hh;subst hh;cases lo with
  |none=>simp[bdV]at hl;subst hl;simp
  |some x=>simp[nA _ _ hl]
 |some y=>
  cases lo with
  |none=>simp[bdV]at hl;subst hl;simp[nA _ _ hh]
  |some x=>simp[nA _ _ hh,nA _ _ hl]
theorem za4 {op:BinOp}{k:IntKind}{a b:Int}{v:Value}(h:JE op k a b=some v)(hs:op≠ .shl∧op≠ .shr)(t:TypeId):
  (binOp op t (.int k a) (.int k b)).run P w=.ok v w:=by
 cases op<;>simp_all [JE,binOp,Op.intArith,Op.intDiv,Op.intBits,Op.intCmp]
theorem YX [lR P]{t:TypeId}{d:Nat}{fs:Array Field}{e:SE}(hu:P.underlying t=some (.struct fs))(hd:d<5)(he:R0 P d t=some e):
  P.stoodInHeld t=false∧P.eqGuardType P.depth t=false∧∀f∈fs.toList,f.name≠ "_" :=by
 have h1:zbQ P fs t=true:=by
  cases d with
  |zero=>cases he
  |succ d=>
   unfold R0 at he;rw[hu]at he;simp only at he;split at he
   ·rename_i hb;exact hb
   ·cases he
 unfold zbQ at h1;simp only[dj,Jt,Eh,bne_iff_ne,ne_eq]at h1;exact⟨h1.1,h1.2.1,h1.2.2⟩
theorem UG:∀{d:Nat} {t:TypeId} {e:SE},R0 P d t=some e→A7 P t=some (MW e)
 |0,_,_,h=>by cases h
 | d+1,t,e,h=>by
  unfold R0 at h;unfold A7;split at h
  ·rename_i hu;cases h;rw[hu];rfl
  ·rename_i hu;cases h;rw[hu];rfl
  ·rename_i hu;split at h
   ·split at h
    ·cases h;rw[hu];rfl
    ·cases h
   ·cases h
  ·cases h
theorem MY [lR P]:∀(d:Nat),d<5→∀(k:Nat),d≤k→∀(t:TypeId) (e:SE) (x y:Value) (b:Bool),R0 P d t=some e→MV e x y=some b→(Op.equalIn k t x y).run P w=.ok b w
 |0,_,_,_,_,_,_,_,_,h,_=>by cases h
 | d + 1, hd,k,hk,t,e,x,y,b,h,hq=>by
  obtain⟨k,rfl⟩:∃m,k=m+1:=⟨k-1,by omega⟩
  have h':=h;unfold R0 at h;split at h
  ·rename_i hu;cases h;unfold MV at hq;split at hq<;>simp_all
   subst hq;exact run_equalIn_bool' _ _ _ _ _ hu
  ·rename_i hu;cases h;unfold MV at hq;split at hq<;>simp_all
   obtain⟨rfl,rfl⟩:=hq;exact run_equalIn_int _ _ _ _ _ _ _ hu
  ·rename_i fs hu;split at h
   ·split at h
    case h_2=>cases h
    rename_i l hl;cases h;have hf:=YX hu hd h';unfold MV at hq;split at hq<;>try(simp at* ;done)
    rename_i fs' xs ys hfs;cases hfs;have hfo:P.fieldsOf t=fs:=by unfold Program.fieldsOf;rw[hu]
    rw[run_equalIn_struct w k t xs ys (by rw[hfo];exact hu) hf.1,hfo];have names:=hf.2.2
    clear hfo hu h' hf
    generalize fs.toList=gs at hl names;induction gs generalizing l b with
    |nil=>
     simp only[zcV,cK]at hl;subst hl;simp only[Io,cK]at hq;subst hq;rfl
    | cons f gs ih=>
     unfold zcV at hl;split at hl
     ·cases hl
     ·rename_i e he;split at hl
      ·cases hl
      ·rename_i n hn;split at hl
       ·cases hl
       ·rename_i l' hl';cases hl;unfold Io at hq;split at hq
        ·rename_i a b' ha hb;have pa:=J0 (P:=P) (w:=w) (UG he) hn (off:=f.offset) (cs:=xs) (v:=a) (by simpa[qV]using ha);have pb:=J0 (P:=P) (w:=w) (UG he) hn (off:=f.offset) (cs:=ys) (v:=b') (by simpa[qV]using hb);have nm:=names f (Js ..);unfold Op.eqFields;rw[aA nm];simp only[bZ,pa,pb,bP];split at hq
         ·rename_i hs;rw[MY d (by omega) k (by omega) _ _ _ _ _ he hs];simp only[bP,Bool.not_true,gO,cH];exact ih b l' hq hl' λg hg=>names g (uo _ hg)
         ·rename_i hs;cases hq;rw[MY d (by omega) k (by omega) _ _ _ _ _ he hs];rfl
         ·cases hq
        ·cases hq
   ·cases h
  ·cases h
theorem Rs {e:EK}{x y:Value}{b:Bool}(hs:∀fs,e≠ .st fs)(h:eqV e x y=some b):(∀c,x≠ .agg c)∧x≠ .nilIface:=by
 unfold eqV at h;split at h<;>simp_all
theorem tj {op:BinOp}{t:TypeId}{x y:Value}(x' y':Operand)(h:(∀c,x≠ .agg c)∧x≠ .nilIface):(eqGuard op t x' y' x y).run P w=.ok () w:=by
 unfold eqGuard;cases op<;>(try rfl)<;>(simp only[Bool.not_true,gO,cH];cases x<;>first|rfl|simp_all)
theorem zcX {e:EK}{t:TypeId}{x y:Value}{b:Bool}(he:OU P t=e)(ho:e≠ .o)(hs:∀fs,e≠ .st fs)(h:eqV e x y=some b):(Op.equal t x y).run P w=.ok b w:=by
 unfold OU at he;cases hu:P.underlying t with
 |none=>simp[hu]at he;exact absurd he.symm ho
 | some d=>
  simp only[hu]at he;unfold Op.equal Op.maxDepth;rw[show(10000:Nat)=9999+1 from rfl];unfold Op.equalIn;simp only[bZ,dk hu,bP];cases d with
  |struct fs=>
   exfalso;simp only at he;split at he
   ·exact hs _ he.symm
   ·exact ho he.symm
  |_=>
   simp only at he;subst he
   first
   |exact absurd rfl ho
   |(unfold eqV at h;split at h<;>simp_all)
theorem K8 {e:EK}{op:BinOp}{t:TypeId}{x y v:Value}{b:Bool}(he:OU P t=e)(ho:e≠ .o)(hs:∀fs,e≠ .st fs)(hq:eqV e x y=some b)
  (h:op=.eql∧v=.bool b∨op=.neq∧v=.bool !b):(binOp op t x y).run P w=.ok v w:=by
 have hr:=zcX (P:=P) (w:=w) he ho hs hq;unfold eqV at hq;rcases h with⟨rfl,rfl⟩|⟨rfl,rfl⟩
 all_goals(split at hq<;>simp_all [binOp])
theorem UH [lR P]{l:List (Nat×Nat×SE)}{op:BinOp}{t:TypeId}{x y v:Value}{b:Bool}(he:OU P t=.st l)(hq:eqV (.st l) x y=some b)
  (h:op=.eql∧v=.bool b∨op=.neq∧v=.bool !b) (x' y':Operand):(do eqGuard op t x' y' x y;binOp op t x y:Sem Value).run P w=.ok v w:=by
 have hu:∃fs,P.underlying t=some (.struct fs)∧R0 P 4 t=some (.st l):=by
  unfold OU at he;split at he<;>first|(cases he;done)|skip
  rename_i fs hu;split at he
  ·rename_i l' hl;cases he;exact⟨fs,hu,hl⟩
  ·cases he
 obtain⟨fs,hu,hl⟩:=hu;unfold eqV at hq;split at hq<;>first|(cases hq;done)|skip
 all_goals first|(rename_i xs ys h0;cases h0)|(rename_i h0 _ _;cases h0;done)|skip
 rename_i xs ys h0;have hse:MV (.st l) (.agg xs) (.agg ys)=some b:=by unfold MV;exact hq
 have hrun:=MY (P:=P) (w:=w) 4 (by omega) 10000 (by omega) t _ _ _ _ hl hse;have hg:=(YX hu (by omega) hl).2.1;simp only[bZ,run_eqGuard_agg w op t x' y' xs ys hg,bP];rcases h with⟨rfl,rfl⟩|⟨rfl,rfl⟩
 ·rw[run_eql_struct,hrun];rfl
 ·rw[run_neq_struct,hrun];rfl
theorem M5 [lR P]{e:EK}{op:BinOp}{t:TypeId}{x y v:Value}(he:OU P t=e)(ho:e≠ .o)(h:ak e op x y=some v)(x' y':Operand):
  (do eqGuard op t x' y' x y;binOp op t x y:Sem Value).run P w=.ok v w:=by
 unfold ak at h;split at h
 ·rename_i k a k' b;simp only[bZ,tj x' y' (x:=.int k a) (by simp),bP];split at h
  ·split at h
   ·cases h
   ·rename_i hb;simp only[cK]at h;subst h;simp[binOp,Op.shift,hb]
  ·split at h
   ·cases h
   ·rename_i hb;simp only[cK]at h;subst h;simp[binOp,Op.shift,hb]
  ·rename_i h1 h2;split at h
   ·rename_i hk;subst hk;exact za4 h ⟨h1,h2⟩ t
   ·cases h
 ·rename_i a b;simp only[bZ,tj x' y' (x:=.string a) (by simp),bP];unfold strV at h;cases op<;>simp_all [binOp,Op.stringOp]
 ·split at h
  ·cases hq:eqV e x y with
   |none=>simp[hq]at h
   | some b=>
    simp[hq]at h;subst h;by_cases hst:∃fs,e=.st fs
    ·obtain⟨l,rfl⟩:=hst;exact UH he hq (.inl ⟨rfl,rfl⟩) x' y'
    ·have hs:∀fs,e≠ .st fs:=λfs h=>hst ⟨fs,h⟩
     simp only[bZ,tj x' y' (Rs hs hq),bP];exact K8 he ho hs hq (.inl ⟨rfl,rfl⟩)
  ·cases hq:eqV e x y with
   |none=>simp[hq]at h
   | some b=>
    simp[hq]at h;subst h;by_cases hst:∃fs,e=.st fs
    ·obtain⟨l,rfl⟩:=hst;exact UH he hq (.inr ⟨rfl,rfl⟩) x' y'
    ·have hs:∀fs,e≠ .st fs:=λfs h=>hst ⟨fs,h⟩
     simp only[bZ,tj x' y' (Rs hs hq),bP];exact K8 he ho hs hq (.inr ⟨rfl,rfl⟩)
  ·cases h
theorem l9 {e:Bool}{kt:TypeId}{kd:TypeDesc}{k:Value}(hk:mh P kt=some kd)(n:Nat):(Instr.checkKey e (n+1) kt k).run P w=.ok () w:=by
 unfold mh at hk;cases hu:P.underlying kt with
 |none=>simp[hu]at hk
 |some d=>
  simp only[hu]at hk;simp only[Instr.checkKey,bZ,dk hu,bP];cases d<;>simp at hk<;>rfl
theorem R1 {P:Program}{kt:TypeId}{kd:TypeDesc}(hk:mh P kt=some kd):P.underlying kt=some kd:=by
 unfold mh at hk;cases hu:P.underlying kt with
 |none=>simp[hu]at hk
 |some d=>cases d<;>simp_all
theorem kl {kt:TypeId}{kd:TypeDesc}{k:Value}{es:List MapEntry}{r:Option (Nat×Value)}(hk:mh P kt=some kd)(h:Instr.findNow kd k es 0=some r):
  (Instr.findKey kt k es).run P w=.ok r w:=by
 simp[Instr.findKey,dk (R1 hk),h]
theorem ks {m:Nat}{es:Array MapEntry}{c:Nat}(h:w.heap[m]? =some (.map es c)):(getObj m).run P w=.ok (.map es c) w:=by
 simp[getObj,Sem.run,h]
theorem ZE {t kt et:TypeId} {kd:TypeDesc} {z:Value} {ok:Bool} {m k v:Value} (ht:P.underlying t=some (.map kt et)) (hk:mh P kt=some kd) (hz:yt P et=some z)
  (h:Bv kd z ok w.heap m k=some v):(Instr.lookup t m k ok).run P w=.ok v w:=by
 unfold Bv at h;split at h
 ·simp only[cK]at h;subst h;simp only[Instr.lookup,bZ,dk ht,bP,cT];rw[show(10000:Nat)=9999+1 from rfl,l9 hk];simp only[bP];rw[kl hk (r:=none) (by simp[Instr.findNow])];simp only[bP,bZ,aI hz,cT];cases ok<;>rfl
 ·rename_i hm;cases hq:Vh w.heap m with
  |none=>simp[hq]at h
  | some p=>
   obtain⟨es,c⟩:=p;simp only[hq]at h;unfold Vh at hq;cases m with
   | map r=>
    cases r with
    |none=>simp at hq
    | some r=>
     simp only at hq;cases hh:w.heap[r]? with
     |none=>simp[hh]at hq
     | some o=>
      cases o<;>simp[hh]at hq
      obtain⟨rfl,rfl⟩:=hq;simp only[Instr.lookup,bZ,dk ht,bP,ks hh,cT];rw[show(10000:Nat)=9999+1 from rfl,l9 hk];simp only[bP];cases hf:Instr.findNow kd k _ 0 with
      |none=>rw[hf]at h;cases h
      | some q=>
       rw[hf]at h;rw[kl hk hf];cases q with
       |none=>
        simp only[cK]at h;subst h;simp only[bP,bZ,aI hz,cT];cases ok<;>rfl
       |some q=>
        obtain⟨i,u⟩:=q;simp only[cK]at h;subst h;simp only[bP];cases ok<;>rfl
   |_=>simp at hq
theorem TX {pl:Nat→Option (Nat×Nat)}{ρ:Env}:∀(ps:List (Nat×Operand)) (l:List (Nat×Nat×Value)) (cells out:Array Value),CN pl ρ ps=some l→aQ cells l=some out→
  Instr.fill pl cells (ps.map λ(i,x)=>(i,ev ρ x))=some out
 | [],l,cells,out,h,h'=>by simp[CN]at h;subst h;simpa[aQ,Instr.fill]using h'
 | (i,x)::ps,l,cells,out,h,h'=>by
  unfold CN at h;cases hp:pl i with
  |none=>simp[hp]at h
  | some p=>
   obtain⟨o,s⟩:=p;simp only[hp]at h;cases hq:CN pl ρ ps with
   |none=>simp[hq]at h
   | some l'=>
    simp only[hq,cK]at h;subst h;simp only[aQ]at h';simp only[sq,Instr.fill,hp];split at h'
    ·cases h'
    ·rename_i hc;rw[aq hc];exact TX ps l' _ out hq h'
theorem UK {s f off:Nat}{x v:Value}{fs:Array Field}{fd:Field}{n:Nat}(hs:P.underlying s=some (.struct fs))(hf:fs[f]? =some fd)(hn:fK P fd.type=some (n+1))(ho:fd.offset=off)
  (h:aB off x=some v):(Instr.fieldAt s x f).run P w=.ok v w:=by
 unfold aB at h;split at h
 ·rename_i a;simp only[cK]at h;subst h;subst ho;simp[Instr.fieldAt,dk hs,hf,Instr.sureAddr,fieldPlace,aM hn]
 ·cases h
theorem M4 {x y v:Value}(h:kw x y=some v):(Builtin.max2 x y).run P w=.ok v w:=by
 unfold kw at h;split at h
 ·simp only[cK]at h;subst h;simp[Builtin.max2]
 ·cases h
theorem MZ {x y v:Value}(h:tG x y=some v):(Builtin.min2 x y).run P w=.ok v w:=by
 unfold tG at h;split at h
 ·simp only[cK]at h;subst h;simp[Builtin.min2]
 ·cases h
theorem Ip {t e n:Nat}{x v:Value}{lo hi:Option Value}(ht:P.underlying t=some (.slice e))(hn:fK P e=some n)(h:yu n x lo hi=some v):
  (Instr.sliceAt t x lo hi none).run P w=.ok v w:=by
 unfold yu at h;split at h
 ·rename_i a len cap;split at h
  ·rename_i hh h1;split at h
   ·rename_i l h2;simp only[cK]at h;subst h;simp[Instr.sliceAt,Instr.slice,dk ht,zo h1 h2,aM hn]
   ·cases h
  ·cases h
 ·cases h
theorem FX {t:Nat}{x v:Value}{lo hi:Option Value}(ht:P.underlying t=some .string)(h:zey x lo hi=some v):
  (Instr.sliceAt t x lo hi none).run P w=.ok v w:=by
 unfold zey at h;split at h
 ·rename_i s;split at h
  ·rename_i hh h1;split at h
   ·rename_i l h2;simp only[cK]at h;subst h;simp[Instr.sliceAt,Instr.slice,dk ht,zo h1 h2]
   ·cases h
  ·cases h
 ·cases h
theorem Ir {t e n:Nat}{x i v:Value}(ht:P.underlying t=some (.slice e))(hn:fK P e=some n)(h:bu n x i=some v):
  (Instr.indexAt t x i).run P w=.ok v w:=by
 unfold bu at h;split at h
 ·rename_i a len _ k j;split at h
  ·rename_i hb;simp only[cK]at h;subst h;simp[Instr.indexAt,asIntOf,dk ht,hb,aM hn]
  ·cases h
 ·cases h
theorem Is {t e n len:Nat}{x i v:Value}(ht:P.underlying t=some (.array len e))(hn:fK P e=some n)(h:OG len n x i=some v):
  (Instr.indexAt t x i).run P w=.ok v w:=by
 unfold OG at h;split at h
 ·rename_i a k j;split at h
  ·rename_i hb;simp only[cK]at h;subst h;simp[Instr.indexAt,asIntOf,dk ht,Instr.sureAddr,hb,aM hn]
  ·cases h
 ·cases h
theorem Ka {t:Nat}{x i v:Value}(ht:P.underlying t=some .string)(h:zeL x i=some v):(Instr.index t x i).run P w=.ok v w:=by
 unfold zeL at h;split at h
 ·rename_i s k j;cases hb:(if 0≤j then s[j.toNat]? else none)with
  |none=>simp[hb]at h
  |some b=>
   simp[hb]at h;subst h;simp[Instr.index,asIntOf,dk ht,hb]
 ·cases h
theorem Iq:∀(fs:List Field) (l:List (Nat×Nat)),xO P fs=some l→(fs.mapM λf=>do pure (f.offset,←sizeOf f.type):Sem (List (Nat×Nat))).run P w=.ok l w
 | [],l,h=>by simp[xO]at h;subst h;rfl
 | f::fs,l,h=>by
  unfold xO at h;cases h1:fK P f.type with
  |none=>simp[h1]at h
  | some s=>
   simp only[h1]at h;cases h2:xO P fs with
   |none=>simp[h2]at h
   |some l'=>
    simp only[h2,cK]at h;subst h;simp only[Jr,bZ,aM h1,bP,cT,Iq fs l' h2]
theorem UI {fs:Array Field}{l:List (Nat×Nat)}(h:xO P fs.toList=some l):(fs.mapM λf=>do pure (f.offset,←sizeOf f.type):Sem (Array (Nat×Nat))).run P w=.ok l.toArray w:=by
 rw[YM,Mt,Iq fs.toList l h];rfl
theorem ZG {b:Builtin}{args:List Value}{ts:Array TypeId}{ty:TypeId}{cs:Array Bool}{v:Value}(hr:roB P b args ts.toList w.heap=some (some v)):(builtin b ts ty cs args.toArray).run P w=.ok (.value v) w:=by
 unfold roB at hr;split at hr
 ·split at hr
  ·rename_i x t hts;obtain rfl:ts=#[t]:=by apply Ju;simpa using hts
   split at hr
   ·rename_i e ht;simp only[cK]at hr;unfold aC at hr;split at hr
    ·simp only[cK]at hr;subst hr;simp[builtin,Builtin.len_,dk ht,goInt]
    ·cases hr
   ·rename_i ht;simp only[cK]at hr;unfold Ky at hr;split at hr
    ·simp only[cK]at hr;subst hr;simp[builtin,Builtin.len_,dk ht,goInt]
    ·cases hr
   ·rename_i ht;simp only[cK]at hr;unfold Oq at hr;split at hr
    ·simp at hr;subst hr;simp[builtin,Builtin.len_,dk ht,goInt]
    ·split at hr
     ·rename_i hm;simp at hr;subst hr;simp[builtin,Builtin.len_,dk ht,goInt,ks hm]
     ·cases hr
    ·cases hr
   ·cases hr
  ·cases hr
 ·split at hr
  ·simp only[cK]at hr;simp[builtin,Builtin.max_,M4 hr]
  ·rename_i x y z;simp only[cK]at hr;unfold zel at hr;split at hr
   ·rename_i a ha;simp[builtin,Builtin.max_,M4 ha,M4 hr]
   ·cases hr
  ·cases hr
 ·split at hr
  ·simp only[cK]at hr;simp[builtin,Builtin.min_,MZ hr]
  ·rename_i x y z;simp only[cK]at hr;unfold zek at hr;split at hr
   ·rename_i a ha;simp[builtin,Builtin.min_,MZ ha,MZ hr]
   ·cases hr
  ·cases hr
 ·cases hr
theorem Lb {h:ah}{b:Nat}(H:pA h b=true):∃c t,h[b]? =some (.cells c t (0,0)):=by
 unfold pA at H;split at H
 ·rename_i c t hb;exact⟨c,t,hb⟩
 ·cases H
theorem zcW [lR P]{op:BinOp}{t e:TypeId}{n:Nat}{x y v:Value}(he:OU P t=.p)(hu:P.underlying t=some (.pointer e))(hn:fK P e=some (n+1))(h:peV w.heap op x y=some v)(x' y':Operand):
  (do eqGuard op t x' y' x y;binOp op t x y:Sem Value).run P w=.ok v w:=by
 unfold peV at h;split at h
 ·rename_i a b;have hi:∃j,P.info? e=some j∧j.size≠0:=by
   unfold fK at hn;cases hj:P.info? e with
   |none=>rw[hj]at hn;cases hn
   |some j=>rw[hj]at hn;simp only[cR,cK]at hn;exact⟨j,rfl,by omega⟩
  obtain⟨j,hj,hsz⟩:=hi;have same:∀d:Nat,(Op.equalIn (d+1) t (.pointer (some a)) (.pointer (some a))).run P w=.ok true w:=λd=>by
   simp[Op.equalIn,dk hu,sizeOf,typeInfo,hj,run_sameAddr_same]
  have other:∀(hne:a≠b),(pA w.heap a.block&&pA w.heap b.block)=true→∀d:Nat,(Op.equalIn (d+1) t (.pointer (some a)) (.pointer (some b))).run P w=.ok false w:=λhne hpl d=>by
   rw[dj]at hpl;obtain⟨ca,ta,ha⟩:=Lb hpl.1;obtain⟨cb,tb,hb⟩:=Lb hpl.2;simp[Op.equalIn,dk hu,sizeOf,typeInfo,hj,hsz,run_sameAddr_other w hne ha hb]
  simp only[bZ,tj x' y' (show(∀c,Value.pointer (some a)≠ .agg c)∧Value.pointer (some a)≠ .nilIface from⟨by simp,by simp⟩),bP];split at h
  ·split at h
   ·rename_i hab;subst hab;cases h;simp only[binOp];simp[Op.equal,Op.maxDepth,same 9999]
   ·rename_i hab;split at h
    ·rename_i hpl;cases h;simp only[binOp];simp[Op.equal,Op.maxDepth,other hab hpl 9999]
    ·cases h
  ·split at h
   ·rename_i hab;subst hab;cases h;simp only[binOp];simp[Op.equal,Op.maxDepth,same 9999]
   ·rename_i hab;split at h
    ·rename_i hpl;cases h;simp only[binOp];simp[Op.equal,Op.maxDepth,other hab hpl 9999]
    ·cases h
  ·cases h
 ·exact M5 (P:=P) (w:=w) (t:=t) he (by intro h;cases h) h x' y'
theorem zt [lR P] {op:Op} {r:Option Value} {v:Value} (o:Oper) (ho:o.op=op) (hr:roV P ρ op w.heap=some r) (hv:r=some v):(execOp (ev ρ) o).run P w=.ok (.value v) w:=by
 subst hv;unfold roV at hr;split at hr
 case h_1|h_2=>simp at hr;subst hr;simp[execOp,ho]
 case h_3=>
  simp at hr;unfold aF at hr;split at hr<;>simp at hr
  rename_i c b hc;subst hr;simp only[execOp,ho,hc,asBool];cases b<;>simp
 case h_4 t x=>
  split at hr
  ·rename_i ht;simp only[cK]at hr;unfold ldV at hr;split at hr
   ·rename_i a hx;simp[execOp,ho,Instr.loadAt,hx,Instr.sureAddr,Bs ht hr]
   ·cases hr
  ·rename_i ht;split at hr
   ·rename_i n hn;simp only[cK]at hr;unfold aR at hr;split at hr
    ·rename_i a hx;cases hl:fj w.heap a 0 n with
     |none=>simp[hl]at hr
     |some l=>
      simp[hl]at hr;subst hr;simp[execOp,ho,Instr.loadAt,hx,Instr.sureAddr,Bt ht hn hl]
    ·cases hr
   ·cases hr
  ·cases hr
 case h_5 x=>
  simp only[cK]at hr;unfold aT at hr;simp only[execOp,ho];split at hr
  ·cases hr
  ·cases hr
  ·cases hr
  ·cases hr
  ·simp only[cK]at hr;subst hr;split<;>simp_all
 case h_6 op t x y _=>
  split at hr
  ·cases hr
  ·rename_i hp;split at hr
   ·simp only[cK]at hr;have:=M5 (P:=P) (w:=w) (t:=t) hp (by intro h;cases h) hr x y;simp only[execOp,ho];simp only[bZ]at this ⊢;rw[this];rfl
   ·split at hr
    ·rename_i e hu;split at hr
     ·rename_i n hn;simp only[cK]at hr;have:=zcW (P:=P) (w:=w) hp hu hn hr x y;simp only[execOp,ho];simp only[bZ]at this ⊢;rw[this];rfl
     ·cases hr
    ·cases hr
  ·rename_i e he _;simp only[cK]at hr;have:=M5 (P:=P) (w:=w) (t:=t) rfl he hr x y;simp only[execOp,ho];simp only[bZ]at this ⊢;rw[this];rfl
 case h_7 op t x=>
  simp only[cK]at hr;unfold unV at hr;split at hr<;>simp at hr
  all_goals(rename_i hx;subst hr;simp[execOp,ho,hx,Op.unary,Op.intArith,Op.intBits])
 case h_8 s d x=>
  split at hr
  ·rename_i h1 h2;simp only[cK]at hr;unfold gP at hr;split at hr<;>simp at hr
   rename_i hx;subst hr;simp[execOp,ho,hx,convert,dk h1,dk h2,Conv.intToInt]
  ·rename_i h1 h2;simp only[cK]at hr;unfold zep at hr;split at hr<;>simp at hr
   rename_i hx;subst hr;simp[execOp,ho,hx,convert,dk h1,dk h2,Conv.intToString]
  ·cases hr
 case h_9 t x lo hi=>
  simp only[execOp,ho];split at hr
  ·rename_i e ht;split at hr
   ·rename_i n hn;simp only[cK]at hr;have:=Ip (P:=P) (w:=w) ht hn hr;simp[this]
   ·cases hr
  ·rename_i ht;simp only[cK]at hr;have:=FX (P:=P) (w:=w) ht hr;simp[this]
  ·cases hr
 case h_10 s x f=>
  split at hr
  ·rename_i fs hs;split at hr
   ·rename_i fd hf;split at hr
    ·cases hr
    ·rename_i n hn;simp only[cK]at hr;have:=UK (P:=P) (w:=w) hs hf hn rfl hr;simp[execOp,ho,this]
    ·cases hr
   ·cases hr
  ·cases hr
 case h_11 t x f=>
  split at hr
  ·rename_i fs hs;split at hr
   ·rename_i fd hf;split at hr
    ·rename_i b n hb hn;simp only[cK]at hr;have hr':=hr;unfold qV at hr;split at hr
     ·rename_i cs hx;rw[hx]at hr';have:=J0 (P:=P) (w:=w) hb hn hr';simp[execOp,ho,hx,Instr.field,dk hs,hf,asAgg,this]
     ·cases hr
    ·cases hr
   ·cases hr
  ·cases hr
 case h_12 t x i=>
  simp only[execOp,ho];split at hr
  ·rename_i e ht;split at hr
   ·rename_i n hn;simp only[cK]at hr;simp[Ir (P:=P) (w:=w) ht hn hr]
   ·cases hr
  ·rename_i len e ht;split at hr
   ·rename_i n hn;simp only[cK]at hr;simp[Is (P:=P) (w:=w) ht hn hr]
   ·cases hr
  ·cases hr
 case h_13 t x i=>
  split at hr
  ·rename_i ht;simp only[cK]at hr;simp[execOp,ho,Ka (P:=P) (w:=w) ht hr]
  ·cases hr
 case h_14 t i=>
  simp only[cK]at hr;unfold aP at hr;split at hr
  ·rename_i vs hx;simp[execOp,ho,hx,Instr.extract,hr]
  ·cases hr
 case h_15 t x=>
  split at hr
  ·cases hr
  ·rename_i d hd _;simp only[cK]at hr;subst hr;simp only[execOp,ho,Instr.makeInterface,bZ];rename_i hq;simp only[dk hq,bP];rfl
  ·cases hr
 case h_16 fn first captured=>
  simp only[cK]at hr;subst hr;simp[execOp,ho,Instr.makeFunc]
 case h_17 t x k ok=>
  split at hr
  ·rename_i kt et ht;split at hr
   ·rename_i kd z hk hz;simp only[cK]at hr;simp[execOp,ho,ZE (P:=P) (w:=w) ht hk hz hr]
   ·cases hr
  ·cases hr
 case h_18 t parts=>
  split at hr
  ·rename_i z pl hz hp;split at hr
   ·rename_i l hl;simp only[cK]at hr;cases hf:aQ z.cells l with
    |none=>simp[hf]at hr
    | some cs=>
     simp[hf]at hr;subst hr;have hfill:=TX _ _ _ _ hl hf;rw[←TM]at hfill;unfold UQ at hp;simp only[execOp,ho,Instr.build,bZ,aI hz,bP,cT];cases hu:P.underlying t with
     |none=>simp[hu]at hp
     | some d=>
      rw[dk hu];simp only[hu]at hp;cases d with
      | struct fs=>
       simp only at hp;cases hq:xO P fs.toList with
       |none=>simp[hq]at hp
       |some l'=>
        simp only[hq,cR,cK]at hp;subst hp;simp only[bP,bZ,UI hq];have e:(λi:Nat=>(l'.toArray)[i]?)=λi:Nat=>l'[i]? :=by funext i;simp
        rw[e,hfill];rfl
      | array n e=>
       simp only at hp;cases hq:fK P e with
       |none=>simp[hq]at hp
       |some s=>
        simp only[hq,cR,cK]at hp;subst hp;simp only[bP,bZ,aM hq];rw[hfill];rfl
      |_=>simp at hp
   ·cases hr
  ·cases hr
 case h_19 c=>
  split at hr
  ·rename_i b hb;have:=ZG (P:=P) (w:=w) (ty:=o.type) (cs:=c.args.map λ| .const _=>true|_=>false) hr;rw[Ef]at this;simp only[execOp,ho,resolve,hb,bZ,cT,bP,invoke];exact this
  ·cases hr
 case h_20=>cases hr
end
def OP:oL:=λ_ _=>False
def bh (c:Array Value)(t:TypeId):oL:=λh K=>K (.pointer (some ⟨h.size,0,none⟩)) (h.push (.cells c t))
def stK (n:Nat)(x v:Value):oL:=λh K=>
 match x with
 | .pointer (some a)=>if v.cells.size=n then(match kG h a 0 v.cells.toList with|some h'=>K undef h'|none=>False)else False
 |_=>False
def jN (z:Value)(n:Nat):Array Value:=(Array.range n).map (λi=>z.cells[i%z.cells.size]!)
def du (c:Array Value)(e:TypeId)(len:Nat)(l:List (Nat×Nat×Value)):oL:=λh K=>
 match aQ c l with
 |some c'=>K (.slice (some ⟨h.size,0,none⟩) len len) (h.push (.cells c' e))
 |none=>False
def mkK (z:Value)(e:TypeId)(size bytes:Nat)(l c:Value):oL:=λh K=>
 match l,c with
 | .int _ l,.int _ c=>
  0≤IntKind.i64.wrap l∧IntKind.i64.wrap l≤IntKind.i64.wrap c∧(bytes:Int)*IntKind.i64.wrap c≤2^48∧
   K (.slice (some ⟨h.size,0,none⟩) (IntKind.i64.wrap l).toNat (IntKind.i64.wrap c).toNat) (h.push (.cells (jN z ((IntKind.i64.wrap c).toNat*size)) e))
 |_,_=>False
def Q9:oL:=λh K=>K (.map (some h.size)) (h.push (.map #[] 0))
def fV (h:ah)(r:Nat)(o:Obj):ah:=h.setIfInBounds r o
def pG (kd:TypeDesc)(m k v:Value):oL:=λh K=>
 match m with
 | .map (some r)=>match h[r]? with
  |some (.map es c)=>match Instr.findNow kd k es.toList 0 with
   |some (some (i,_))=>Instr.sameBits 10000 (((es[i]?).map (·.key)).getD k) k=true∧K undef (fV h r (.map (es.modify i λe=>{e with key:=k,val:=v}) c))
   |some none=>K undef (fV h r (.map (es.push {key:=k,val:=v,born:=c}) (c+1)))
   |none=>False
  |_=>False
 |_=>False
def Ku (kd:TypeDesc)(z:Value)(m k:Value):oL:=λh K=>
 match m with
 | .map (some r)=>match h[r]? with
  |some (.map es c)=>match Instr.findNow kd k es.toList 0 with
   | some (some (i,v))=>Instr.sameBits 10000 (((es[i]?).map (·.key)).getD k) k=true∧
     K (.tuple #[v,.int .i64 (((es[i]?).map λe=>(e.born:Int)).getD 0)]) (fV h r (.map (es.modify i λe=>{e with key:=k}) c))
   |some none=>K (.tuple #[z,.int .i64 (c:Nat)]) (fV h r (.map (es.push {key:=k,val:=z,born:=c}) (c+1)))
   |none=>False
  |_=>False
 |_=>False
def OT (m s v:Value):oL:=λh K=>
 match m,s with
 | .map (some r),.int _ n=>match h[r]? with
  |some (.map es c)=>match es.findIdx? (λe=>(e.born:Int)==n)with
   |some i=>K undef (fV h r (.map (es.modify i λe=>{e with val:=v}) c))
   |none=>False
  |_=>False
 |_,_=>False
def pH (kd:TypeDesc)(m k:Value):oL:=λh K=>
 match m with
 | .map none=>K (.tuple #[]) h
 | .map (some r)=>match h[r]? with
  |some (.map es c)=>match Instr.findNow kd k es.toList 0 with
   |some (some (i,_))=>K (.tuple #[]) (fV h r (.map (es.eraseIdxIfInBounds i) c))
   |some none=>K (.tuple #[]) (fV h r (.map es c))
   |none=>False
  |_=>False
 |_=>False
def Kd (m:Value):oL:=λh K=>
 match m with
 | .map none=>K (.pointer (some ⟨h.size,0,none⟩)) (h.push (.mapIter none 0 #[] 0))
 | .map (some r)=>match h[r]? with
  |some (.map _ c)=>K (.pointer (some ⟨h.size,0,none⟩)) (h.push (.mapIter (some r) c #[] c))
  |_=>False
 |_=>False
def DT (s:Value):oL:=λh K=>
 match s with
 | .string s=>K (.pointer (some ⟨h.size,0,none⟩)) (h.push (.stringIter s 0))
 |_=>False
def IQ (it:Value):oL:=λh K=>
 match it with
 | .pointer (some ⟨r,0,_⟩)=>match h[r]? with
  |some (.stringIter s pos)=>
   if pos<s.size then K (.tuple #[.bool true,.int .i64 (pos:Nat),.int .i32 (Utf8.decode s pos).1]) (fV h r (.stringIter s (pos+(Utf8.decode s pos).2)))
   else K (.tuple #[.bool false]) h
  |_=>False
 |_=>False
def Od (it:Value):oL:=λh K=>
 match it with
 | .pointer (some ⟨r,0,_⟩)=>match h[r]? with
  |some (.mapIter none _ _ _)=>K (.tuple #[.bool false]) h
  | some (.mapIter (some m) since seen last)=>match h[m]? with
   |some (.map es clock)=>
    (!seen.isEmpty&& !es.isEmpty&&es.all (·.born≥last))=false∧
    (∀e∈es,seen.contains e.born=false→K (.tuple #[.bool true,e.key,e.val]) (fV h r (.mapIter (some m) since (seen.push e.born) clock)))∧
    ((∀e∈es,seen.contains e.born=false→since≤e.born)→K (.tuple #[.bool false]) h)
   |_=>False
  |_=>False
 |_=>False
def Xm (it:Value):oL:=λh K=>
 match it with
 | .pointer (some ⟨r,0,_⟩)=>match h[r]? with
  | some (.mapIter (some m) _ seen stepped)=>match h[m]? with
   | some (.map es clock)=>if clock≠stepped then False else match seen.back? with
    |some stamp=>match es.find? (·.born==stamp)with
     |some e=>K (.tuple #[e.key,e.val]) h
     |none=>False
    |none=>False
   |_=>False
  |_=>False
 |_=>False
def xr (size:Nat)(h:ah)(n:Nat)(x:Value):Option (List Value):=
 match x with
 | .slice (some a) _ _=>fj h a 0 (n*size)
 | .slice none _ _=>some []
 | .string s=>some ((s.extract 0 n).data.map λb=>Value.int .u8 b.toNat).toList
 |_=>none
def QH (x:Value):Option Nat:=
 match x with
 | .slice _ n _=>some n
 | .string s=>some s.size
 |_=>none
def dy (z:Value) (e:TypeId) (size bytes:Nat) (s x:Value):oL:=λh K=>
 match s,QH x with
 | .slice base sLen sCap,some n=>
  if sLen+n≤sCap then
   match xr size h n x with
   | some news=>match base with
    |some a=>match kG h (a.add (sLen*size)) 0 news with
     |some h'=>K (.slice base (sLen+n) sCap) h'
     |none=>False
    |none=>K (.slice none (sLen+n) sCap) h
   |none=>False
  else
   ((sLen+n:Nat):Int)≤IntKind.i64.max∧Builtin.nextslicecap (sLen+n) sCap*bytes≤2^48∧
   match xr size h sLen s,xr size h n x with
   | some olds,some news=>∀newCap,sLen+n≤newCap→newCap≤2^63-1→
     K (.slice (some ⟨h.size,0,none⟩) (sLen+n) newCap) (h.push (.cells (olds.toArray++news.toArray++Builtin.zeroCells z.cells (newCap-(sLen+n))) e))
   |_,_=>False
 |_,_=>False
def GQ (size:Nat) (d x:Value):oL:=λh K=>
 match d,QH x with
 | .slice base dLen _,some n=>
  match xr size h (Nat.min n dLen) x with
  | some news=>match base with
   |some a=>match kG h a 0 news with
    |some h'=>K (.int .i64 (Nat.min n dLen:Nat)) h'
    |none=>False
   |none=>K (.int .i64 (Nat.min n dLen:Nat)) h
  |none=>False
 |_,_=>False
def tE (P:Program)(f:FuncId):Bool:=
 match P.funcs[f]? with
 |some fn=> !(fn.name== "runtime.NumGoroutine")&&fn.body.isSome
 |none=>false
def zev (P:Program)(f:FuncId)(args:Array Value):oL:=λh K=>
 tE P f=true∧∀w:World,w.heap=h→Calls P f args w λe w'=>∃v,e=.returned v∧dO w w'∧K v w'.heap
def ag (P:Program)(f:FuncId)(args:Array Value):oL:=λh K=>
 zev P f args h K∨∀w:World,w.heap=h→∃v w',(callFunc f args).run P w=.ok (.value v) w'∧dO w w'∧K v w'.heap
theorem ag.mono {P:Program}{f:FuncId}{args:Array Value}{h:ah}{K K':Value→ah→Prop}(hc:ag P f args h K)(hk:∀v h',K v h'→K' v h'):ag P f args h K':=
 hc.imp (λhc=>⟨hc.1,λw hw=>(hc.2 w hw).mono λ_ _ ⟨v,he,hs,hK⟩=>⟨v,he,hs,hk _ _ hK⟩⟩)
  λhc w hw=>let⟨v,w',a,b,c⟩:=hc w hw;⟨v,w',a,b,hk _ _ c⟩
theorem ag.ofCalls {P:Program}{f:FuncId}{args:Array Value}{h:ah}{K:Value→ah→Prop}(hc:tE P f=true)
  (H:∀w:World,w.heap=h→Calls P f args w λe w'=>∃v,e=.returned v∧dO w w'∧K v w'.heap):ag P f args h K:=.inl ⟨hc,H⟩
theorem ag.ofRun {P:Program}{f:FuncId}{args:Array Value}{h:ah}{K:Value→ah→Prop}
  (H:∀w:World,w.heap=h→∃v w',(callFunc f args).run P w=.ok (.value v) w'∧dO w w'∧K v w'.heap):ag P f args h K:=.inr H
def clK (P:Program)(f:Value)(args:Array Value)(h:ah)(K:Value→ah→Prop):Prop:=
 match f with
 | .func (.func f) first captured=>ag P f (first++args++captured) h K
 |_=>False
def zeZ (P:Program) (b:Builtin) (args:List Value) (ts:List TypeId) (h:ah) (K:Value→ah→Prop):Prop:=
 match b with
 | .append=>match args,ts with
  | [s,x],[t,u]=>match P.underlying t,P.underlying u with
   |some (.slice e),some (.slice _)|some (.slice e),some .string=>match(P.info? e).bind λi=>i.zero.map λz=>(z,i.size,i.bytes)with
    |some (z,size,bytes)=>dy z e size bytes s x h K
    |none=>False
   |_,_=>False
  |_,_=>False
 | .copy=>match args,ts with
  | [d,x],t::_=>match P.underlying t with
   |some (.slice e)=>match fK P e with
    |some size=>GQ size d x h K
    |none=>False
   |_=>False
  |_,_=>False
 | .delete=>match args,ts with
  | [m,k],t::_=>match P.underlying t with
   |some (.map kt _)=>match mh P kt with
    |some kd=>pH kd m k h K
    |none=>False
   |_=>False
  |_,_=>False
 |_=>False
def Pv:List Value→Option (List UInt8)
 | []=>some []
 | v::r=>match v with
  | .int .u8 n=>match Pv r with
   |some l=>some (UInt8.ofNat n.toNat::l)
   |none=>none
  |_=>none
def bsK (x:Value):oL:=λh K=>
 match x with
 | .slice none _ _=>K (.string ByteArray.empty) h
 | .slice (some a) n _=>match fj h a 0 n with
  |some l=>match Pv l with
   |some b=>K (.string ⟨⟨b⟩⟩) h
   |none=>False
  |none=>False
 |_=>False
def zdy (P:Program) (ρ:Env) (op:Op) (h:ah) (K:Value→ah→Prop):Prop:=
 match op with
 | .alloc t=>match yt P t with
  |some z=>bh z.cells t h K
  |none=>False
 | .box t x=>bh (ev ρ x).cells t h K
 | .buildSlice t len parts=>match P.underlying t with
  | some (.slice e)=>match fK P e,yt P e with
   |some s,some z=>if len*s>2^24 then False else match CN (λi=>some (i*s,s)) ρ parts.toList with
    |some l=>du (jN z (len*s)) e len l h K
    |none=>False
   |_,_=>False
  |_=>False
 | .store t a x=>match fK P t with
  |some n=>stK n (ev ρ a) (ev ρ x) h K
  |none=>False
 | .makeSlice t l c=>match P.underlying t with
  |some (.slice e)=>match(P.info? e).bind λi=>i.zero.map λz=>(z,i.size,i.bytes)with
   |some (z,size,bytes)=>mkK z e size bytes (ev ρ l) (ev ρ c) h K
   |none=>False
  |_=>False
 | .makeMap _ none=>Q9 h K
 | .mapUpdate t m k x| .insert t m k x=>match P.underlying t with
  |some (.map kt _)=>match mh P kt with
   |some kd=>pG kd (ev ρ m) (ev ρ k) (ev ρ x) h K
   |none=>False
  |_=>False
 | .mapEntry t m k=>match P.underlying t with
  |some (.map kt et)=>match mh P kt,yt P et with
   |some kd,some z=>Ku kd z (ev ρ m) (ev ρ k) h K
   |_,_=>False
  |_=>False
 | .entryStore _ m s x=>OT (ev ρ m) (ev ρ s) (ev ρ x) h K
 | .range t x=>match P.underlying t with
  |some (.map _ _)=>Kd (ev ρ x) h K
  |some .string=>DT (ev ρ x) h K
  |_=>False
 | .next it s=>bif s then IQ (ev ρ it) h K else Od (ev ρ it) h K
 | .entry it=>Xm (ev ρ it) h K
 | .call c=>match c.callee with
  | .builtin b=>zeZ P b (c.args.map (ev ρ)).toList c.argTypes.toList h K
  | .value (.func f)=>ag P f (c.args.map (ev ρ)) h K
  | .value x=>clK P (ev ρ x) (c.args.map (ev ρ)) h K
  |_=>False
 | .convert s d x=>match P.underlying s,P.underlying d with
  |some (.slice e),some .string=>match P.underlying e with
   |some (.int .u8)=>bsK (ev ρ x) h K
   |_=>False
  |_,_=>False
 |_=>False
def kL (P:Program)(K:Value→ah→Prop)(w:World):Result Next→Prop
 | .ok (.value v) w'=>dO w w'∧K v w'.heap
 | .ok .skip w'=>dO w w'∧K undef w'.heap
 | .ok (.enter f args) w'=>w'=w∧zev P f args w.heap K
 |_=>False
section
variable {P:Program}{ρ:Env}{w:World}{K:Value→ah→Prop}
theorem WU (v:Value):aV v=v.oneCell':=by cases v<;>rfl
theorem uY (a:Addr):∀(l:List Value) (i:Nat) (w:World) (h':ah),kG w.heap a i l=some h'→
  ∃w',(storeCells a l i).run P w=.ok () w'∧dO w w'∧w'.heap=h'
 | [],i,w,h',h=>by simp[kG]at h;exact⟨w,by simp[storeCells],dO.refl w,h⟩
 | v ::l,i,w,h',h=>by
  unfold kG at h;cases hc:aH w.heap (a.add i)with
  |none=>simp[hc]at h
  | some old=>
   simp only[hc]at h;cases ho:(aV v&& !wW w.heap (a.add i))with
   |false=>rw[ho]at h;cases h
   | true=>
    rw[ho]at h;simp only[uq]at h;rw[dj]at ho;obtain⟨w',hr,hs,hh⟩:=uY a l (i+1) (w.setCell (a.add i) v) h' h;refine⟨w',?_,⟨hs.1,hs.2.1,hs.2.2⟩,hh⟩;have h1:w.cell? (a.add i)=some old:=hc;have h2:w.frozen? (a.add i)=false:=by
     show wW w.heap (a.add i)=false;simpa using ho.2
    simp only[storeCells,bZ];rw[run_store P w _ _ _ (by rw[←WU];exact ho.1)];simp[h1,h2,hr]
theorem DR {size n:Nat}{x:Value}{l:List Value}(h:xr size w.heap n x=some l):(Builtin.firstCells size n x).run P w=.ok l.toArray w:=by
 unfold xr at h;split at h
 ·rename_i a _ _;have:=xN (P:=P) a _ 0 #[] l h;simp[Builtin.firstCells,loadCells,this]
 ·simp at h;subst h;simp[Builtin.firstCells]
 ·simp only[cK]at h;subst h;simp only[Builtin.firstCells,Ef];rfl
 ·cases h
theorem UJ {x:Value}{n:Nat}(h:QH x=some n):(Builtin.lenOf x).run P w=.ok n w:=by
 unfold QH at h;split at h<;>simp at h<;>subst h<;>simp[Builtin.lenOf]
theorem kL.value {s:Sem Value}{v:Value}{w':World}(hr:s.run P w=.ok v w')(hs:dO w w')(hK:K v w'.heap):
  kL P K w ((do pure (.value (←s)):Sem Next).run P w):=by
 simp only[bZ,hr,bP,cT];exact⟨hs,hK⟩
theorem kL.unit {s:Sem Unit}{w':World}(hr:s.run P w=.ok () w')(hs:dO w w')(hK:K undef w'.heap):
  kL P K w ((do s;pure .skip:Sem Next).run P w):=by
 simp only[bZ,hr,bP,cT];exact⟨hs,hK⟩
theorem gJ (o:Obj):(newObj o).run P w=.ok w.heap.size {w with heap:=w.heap.push o}:=rfl
theorem ZA {t n:Nat}{x v:Value}(hn:fK P t=some n)(h:stK n x v w.heap K):∃w',(Instr.storeAt t x v).run P w=.ok () w'∧dO w w'∧K undef w'.heap:=by
 unfold stK at h;split at h
 ·rename_i a;split at h
  ·rename_i hv;cases hq:kG w.heap a 0 v.cells.toList with
   |none=>simp[hq]at h
   |some h'=>
    simp only[hq]at h;obtain⟨w',hr,hs,hh⟩:=uY (P:=P) a _ 0 w h' hq;refine⟨w',?_,hs,hh▸h⟩;simp[Instr.storeAt,Instr.sureAddr,storeVar,aM hn,hv,hr]
  ·exact h.elim
 ·exact h.elim
theorem kr {r:Nat}{o o':Obj}(h:w.heap[r]? =some o)(hn:∀c e f,o≠ .cells c e f):(setObj r o').run P w=.ok () {w with heap:=fV w.heap r o'}:=by
 simp only[setObj,Sem.run,h];cases o<;>first|rfl|exact absurd rfl (hn _ _ _)
theorem zq {a b:Value}(h:Instr.sameBits 10000 a b=true):(Instr.keyThatStays a b).run P w=.ok b w:=by
 simp[Instr.keyThatStays,h]
theorem QC {t kt et:TypeId}{kd:TypeDesc}{m k v:Value}(ht:P.underlying t=some (.map kt et))(hk:mh P kt=some kd)(h:pG kd m k v w.heap K):
  ∃w',(Instr.mapUpdate t m k v).run P w=.ok () w'∧dO w w'∧K undef w'.heap:=by
 unfold pG at h;split at h
 ·rename_i r;split at h
  ·rename_i es c hm;simp only[Instr.mapUpdate,bZ,dk ht,bP,ks hm];rw[show(10000:Nat)=9999+1 from rfl,l9 hk];simp only[bP];split at h
   ·rename_i i u hf;rw[kl hk hf];simp only[bP,bZ];rw[zq h.1];simp only[bP];exact⟨_,kr hm (by simp),⟨rfl,rfl,rfl⟩,h.2⟩
   ·rename_i hf;rw[kl hk hf];exact⟨_,kr hm (by simp),⟨rfl,rfl,rfl⟩,h⟩
   ·exact h.elim
  ·exact h.elim
 ·exact h.elim
theorem LZ {t kt et:TypeId}{kd:TypeDesc}{z m k:Value}(ht:P.underlying t=some (.map kt et))(hk:mh P kt=some kd)(hz:yt P et=some z)(h:Ku kd z m k w.heap K):
  ∃v w',(Instr.mapEntry t m k).run P w=.ok v w'∧dO w w'∧K v w'.heap:=by
 unfold Ku at h;split at h
 ·rename_i r;split at h
  ·rename_i es c hm;simp only[Instr.mapEntry,bZ,dk ht,bP,ks hm];rw[show(10000:Nat)=9999+1 from rfl,l9 hk];simp only[bP];split at h
   ·rename_i i u hf;rw[kl hk hf];simp only[bP,bZ];rw[zq h.1];simp only[bP];rw[kr hm (by simp)];exact⟨_,_,rfl,⟨rfl,rfl,rfl⟩,h.2⟩
   ·rename_i hf;rw[kl hk hf];simp only[bP,bZ,aI hz];rw[kr hm (by simp)];exact⟨_,_,rfl,⟨rfl,rfl,rfl⟩,h⟩
   ·exact h.elim
  ·exact h.elim
 ·exact h.elim
theorem OS {t:TypeId}{m s v:Value}(h:OT m s v w.heap K):∃w',(Instr.entryStore t m s v).run P w=.ok () w'∧dO w w'∧K undef w'.heap:=by
 unfold OT at h;split at h
 ·rename_i r k n;split at h
  ·rename_i es c hm;split at h
   ·rename_i i hf;simp only[Instr.entryStore,bZ,ks hm,bP,asInt,asIntOf,cT];simp only[hf];exact⟨_,kr hm (by simp),⟨rfl,rfl,rfl⟩,h⟩
   ·exact h.elim
  ·exact h.elim
 ·exact h.elim
theorem QF {t kt et:TypeId}{ty:TypeId}{kd:TypeDesc}{m k:Value}{ts:Array TypeId}(h0:ts[0]? =some t)(ht:P.underlying t=some (.map kt et))(hk:mh P kt=some kd)(h:pH kd m k w.heap K):
  ∃v w',(Builtin.delete_ ts ty #[m,k]).run P w=.ok v w'∧dO w w'∧K v w'.heap:=by
 have h10:(10000:Nat)=9999+1:=rfl;unfold pH at h;split at h
 ·refine⟨.tuple #[],w,?_,dO.refl w,h⟩;simp[Builtin.delete_,h0,dk ht];rw[h10,l9 hk];rfl
 ·rename_i r;split at h
  ·rename_i es c hm;simp only[Builtin.delete_,h0];simp[dk ht,ks hm];rw[h10,l9 hk];simp only[bP];split at h
   ·rename_i i u hf;rw[kl hk hf];simp only[bP];rw[Mt,kr hm (by simp)];exact⟨_,_,rfl,⟨rfl,rfl,rfl⟩,h⟩
   ·rename_i hf;rw[kl hk hf];simp only[bP];rw[Mt,kr hm (by simp)];exact⟨_,_,rfl,⟨rfl,rfl,rfl⟩,h⟩
   ·exact h.elim
  ·exact h.elim
 ·exact h.elim
theorem Lz {t kt et:TypeId}{m:Value}(ht:P.underlying t=some (.map kt et))(h:Kd m w.heap K):∃v w',(Instr.range t m).run P w=.ok v w'∧dO w w'∧K v w'.heap:=by
 unfold Kd at h;split at h
 ·simp only[Instr.range,bZ,dk ht,bP,cT,gJ];exact⟨_,_,rfl,⟨rfl,rfl,rfl⟩,h⟩
 ·rename_i r;split at h
  ·rename_i es c hm;simp only[Instr.range,bZ,dk ht,bP,cT,ks hm,gJ];exact⟨_,_,rfl,⟨rfl,rfl,rfl⟩,h⟩
  ·exact h.elim
 ·exact h.elim
theorem Lw {t:TypeId}{s:Value}(ht:P.underlying t=some .string)(h:DT s w.heap K):∃v w',(Instr.range t s).run P w=.ok v w'∧dO w w'∧K v w'.heap:=by
 unfold DT at h;split at h
 ·simp only[Instr.range,bZ,dk ht,bP,cT,gJ];exact⟨_,_,rfl,⟨rfl,rfl,rfl⟩,h⟩
 ·exact h.elim
theorem AB {r:Nat}{o:Obj}(h:w.heap[r]? =some o)(hn:∀c e f,o≠ .cells c e f):(getObj r).run P w=.ok o w:=by
 simp only[getObj,Sem.run,h]
theorem Ob {t:TypeId}{it:Value}(h:IQ it w.heap K):∃v w',(Instr.next it true t).run P w=.ok v w'∧dO w w'∧K v w'.heap:=by
 unfold IQ at h;split at h
 ·rename_i r sp;split at h
  ·rename_i s pos hm;simp only[Instr.next,bZ,AB hm (by simp),bP];split at h
   ·rename_i hp;simp only[hp,cN,bZ,kr hm (by simp),bP,cT];exact⟨_,_,rfl,⟨rfl,rfl,rfl⟩,h⟩
   ·rename_i hp;simp only[hp,cH,cT];exact⟨_,_,rfl,dO.refl w,h⟩
  ·exact h.elim
 ·exact h.elim
theorem Oc {t:TypeId} {it:Value} (h:Od it w.heap K):∃v w',(Instr.next it false t).run P w=.ok v w'∧dO w w'∧K v w'.heap:=by
 unfold Od at h;split at h
 ·rename_i r sp;split at h
  ·rename_i hm;simp only[Instr.next,bZ,AB hm (by simp),bP,cT];exact⟨_,_,rfl,dO.refl w,h⟩
  ·rename_i m since seen last hm;split at h
   ·rename_i es clock hes;obtain⟨h0,h1,h2⟩:=h;simp only[Instr.next,bZ,AB hm (by simp),ks hes,bP];rw[aq (by rw[h0];simp)];simp only[bZ,run_choose];generalize hL:(es.filter λe=> !seen.contains e.born)=left;generalize hO:left.filter (λe=>decide (e.born<since))=old;generalize hN:left.filter (λe=>decide (e.born≥since))=new;generalize hC:(if old.isEmpty=true then #[none]else #[])++(old++new).map some=cand;have key:∀(j:Nat) (w1:World),j<cand.size→dO w w1→w1.heap=w.heap→
      ∃ v w',(Sem.run P (match cand[j]? with
       |some (some e)=>do
        setObj r (.mapIter (some m) since (seen.push e.born) clock)
        pure (.tuple #[.bool true,e.key,e.val])
       |some none=>pure (.tuple #[.bool false])
       |none=>stuck "Next: no such candidate") w1)=.ok v w'∧dO w w'∧K v w'.heap:=by
     intro j w1 hj hs hh;rw[rD hj];have hmem:cand[j]∈cand:=Array.getElem_mem hj;generalize cand[j]=x at hmem ⊢;rw[←hC,Array.mem_append]at hmem;cases x with
     | none=>
      refine⟨_,_,rfl,hs,?_⟩;rw[hh];refine h2 λe he hns=>?_
      have hold:old=#[]:=by
       rcases hmem with hmem|hmem
       ·by_cases ho:old.isEmpty=true
        ·simpa using ho
        ·simp[ho]at hmem
       ·simp at hmem
      rcases pK e.born since with hlt|hge
      ·exfalso;have:e∈old:=by
        rw[←hO,←hL];simp only[Ms];exact⟨⟨he,by simpa using hns⟩,by simpa using hlt⟩
       rw[hold]at this;simp at this
      ·exact hge
     | some e=>
      have hin:e∈es∧seen.contains e.born=false:=by
       have:e∈left:=by
        rcases hmem with hmem|hmem
        ·split at hmem<;>simp at hmem
        ·simp only[Array.mem_map,cK]at hmem;obtain⟨e',he',rfl⟩:=hmem;rw[Array.mem_append]at he';rcases he' with he'|he'
         ·rw[←hO]at he';exact(Ms.1 he').1
         ·rw[←hN]at he';exact(Ms.1 he').1
       rw[←hL]at this;have:=Ms.1 this;exact⟨this.1,by simpa using this.2⟩
      simp only[bZ];rw[kr (w:=w1) (by rw[hh];exact hm) (by simp)];refine⟨_,_,rfl,hs,?_⟩;simp only[hh];exact h1 e hin.1 hin.2
    have hpos:0<cand.size:=by
     rw[←hC];by_cases ho:old.isEmpty=true
     ·simp[ho];omega
     ·have:0<old.size:=by
       rcases yd old.size with h0|h0
       ·exact absurd (by simpa using h0) ho
       ·exact h0
      simp[ho];omega
    split
    ·exact key _ _ hpos (dO.refl w) rfl
    ·exact key _ _ (by simp only[Question.cut];exact iy _ hpos) ⟨rfl,rfl,rfl⟩ rfl
   ·exact h.elim
  ·exact h.elim
 ·exact h.elim
theorem TY {it:Value}(h:Xm it w.heap K):∃v w',(Instr.entry it).run P w=.ok v w'∧dO w w'∧K v w'.heap:=by
 unfold Xm at h;split at h
 ·rename_i r sp;split at h
  ·rename_i m _ seen stepped hm;split at h
   ·rename_i es clock hes;split at h
    ·exact h.elim
    ·rename_i hc;split at h
     ·rename_i stamp hb;split at h
      ·rename_i e he;simp only[Instr.entry,bZ,AB hm (by simp),ks hes,bP,hb];rw[aq (by simpa using hc)];simp only[he,cT];exact⟨_,_,rfl,dO.refl w,h⟩
      ·exact h.elim
     ·exact h.elim
   ·exact h.elim
  ·exact h.elim
 ·exact h.elim
theorem Li {e:TypeId}{z:Value}{size bytes:Nat}(h:(P.info? e).bind (λi=>i.zero.map λz=>(z,i.size,i.bytes))=some (z,size,bytes)):
  ∃i,P.info? e=some i∧i.zero=some z∧i.size=size∧i.bytes=bytes:=by
 cases hi:P.info? e with
 |none=>simp[hi]at h
 |some i=>
  cases hz:i.zero with
  |none=>simp[hi,hz]at h
  |some z'=>simp[hi,hz]at h;exact⟨i,rfl,by rw[hz,h.1],h.2.1,h.2.2⟩
theorem WI (f:Nat→Value):(Array.range 0).map f=#[]:=by simp
theorem ZU {t e:TypeId}{z:Value}{size bytes:Nat}{l c:Value}(ht:P.underlying t=some (.slice e))
  (hi:(P.info? e).bind (λi=>i.zero.map λz=>(z,i.size,i.bytes))=some (z,size,bytes)) (h:mkK z e size bytes l c w.heap K):
  ∃v w',(Instr.makeSlice t l c).run P w=.ok v w'∧dO w w'∧K v w'.heap:=by
 obtain⟨i,hj,hz,rfl,rfl⟩:=Li hi
 clear hi
 unfold mkK at h;split at h
 ·rename_i k l k' c;obtain⟨h1,h2,h3,hK⟩:=h;simp only[Instr.makeSlice,bZ,dk ht,bP,asInt,asIntOf,cT,typeInfo,vC,hj];rw[aq (by simp;omega)];simp only[bZ,run_askRoom,bP,sizeOf,typeInfo,vC,hj,cT];by_cases h0:(IntKind.i64.wrap c).toNat*i.size=0
  ·simp only[h0,cN,cT,bP,newRow,bZ,gJ];refine⟨_,_,rfl,⟨rfl,rfl,rfl⟩,?_⟩;rw[jN,h0,WI]at hK;rw[WI];exact hK
  ·simp only[h0,cH,bZ,zeroValue,typeInfo,vC,hj,hz,cT,bP,newRow,gJ];exact⟨_,_,rfl,⟨rfl,rfl,rfl⟩,hK⟩
 ·exact h.elim
theorem WC {t e:TypeId}{s len:Nat}{z:Value}{parts:Array (Nat×Operand)}{l:List (Nat×Nat×Value)}(ht:P.underlying t=some (.slice e))(hs:fK P e=some s)(hz:yt P e=some z)
  (hsmall:¬len*s>2^24) (hl:CN (λi=>some (i*s,s)) ρ parts.toList=some l) (h:du (jN z (len*s)) e len l w.heap K):
  ∃v w',(Instr.buildSlice t len (parts.map λ(i,x)=>(i,ev ρ x))).run P w=.ok v w'∧dO w w'∧K v w'.heap:=by
 unfold du at h;cases hf:aQ (jN z (len*s)) l with
 |none=>simp[hf]at h
 | some c=>
  simp only[hf]at h;have hfill:=TX _ _ _ _ hl hf;rw[←TM]at hfill;simp only[Instr.buildSlice,bZ,dk ht,bP,aM hs,hsmall,cH];by_cases h0:len*s=0
  ·simp only[h0,cN,bZ,cT,bP];have e:jN z (len*s)=#[]:=by simp[jN,h0]
   rw[e]at hfill;rw[WI,hfill];simp only[newRow,bZ,gJ,bP,cT];exact⟨_,_,rfl,⟨rfl,rfl,rfl⟩,h⟩
  ·simp only[h0,cH,bZ,aI hz,bP,cT];unfold jN at hfill;rw[hfill];simp only[newRow,bZ,gJ,bP,cT];exact⟨_,_,rfl,⟨rfl,rfl,rfl⟩,h⟩
theorem PC {t u e ty:TypeId}{z:Value}{size bytes:Nat}{s x:Value}{ts:Array TypeId}(hts:ts.toList=[t,u])(ht:P.underlying t=some (.slice e))(hu:∃d,P.underlying u=some d∧∀k,d≠ .int k)
  (hi:(P.info? e).bind (λi=>i.zero.map λz=>(z,i.size,i.bytes))=some (z,size,bytes)) (h:dy z e size bytes s x w.heap K):
  ∃v w',(Builtin.append_ ts ty #[s,x]).run P w=.ok v w'∧dO w w'∧K v w'.heap:=by
 obtain⟨i,hj,hz,rfl,rfl⟩:=Li hi
 clear hi
 obtain⟨d,hu,hd⟩:=hu;obtain rfl:ts=#[t,u]:=by apply Ju;simpa using hts
 unfold dy at h;split at h
 ·rename_i base sLen sCap n hn;simp only[Builtin.append_,Am,Ei,yf,bZ,dk ht,dk hu,bP,cT,sizeOf,typeInfo,vC,hj];rw[aq (by simp)];simp only[bZ,UJ hn,bP];simp only[Bool.not_false,cN];split at h
  ·rename_i hroom;simp only[hroom,cN];split at h
   ·rename_i news hsrc;simp only[bZ,DR hsrc,bP];split at h
    ·rename_i a;split at h
     ·rename_i h' hst;obtain⟨w',hr,hs,hh⟩:=uY (P:=P) _ _ 0 w h' hst;simp only[bZ,hr,bP,cT];exact⟨_,_,rfl,hs,hh▸h⟩
     ·exact h.elim
    ·simp only[cT];exact⟨_,_,rfl,dO.refl w,h⟩
   ·exact h.elim
  ·rename_i hroom;obtain⟨hlen,hcap,h⟩:=h;simp only[hroom,cH];split at h
   ·rename_i olds news ho hn';simp only[bZ,vC,bP,hj,cT];rw[aq (by omega)];simp only[bZ,vC,bP,hj,cT];rw[aq (by omega)];simp only[bZ,vC,bP,hj,cT,run_choose,Question.forced,gO,cH,run_askRoom];have hH:∀m l,xr i.size w.heap m l=xr i.size ({w with drawn:=w.drawn+1}:World).heap m l:=λ_ _=>rfl
    rw[hH]at ho hn';rw[DR ho];simp only[bZ,bP];rw[DR hn'];simp only[bZ,bP,newRow,gJ,cT,zeroValue,typeInfo,vC,hj,hz];refine⟨_,_,rfl,⟨rfl,rfl,rfl⟩,?_⟩;refine h _ ?_ ?_
    ·simp only[Question.cut];omega
    ·simp only[Question.cut];have h63:((sLen+n:Nat):Int)≤2^63-1:=by simpa[IntKind.max,IntKind.signed,IntKind.bits]using hlen
     have:=iy (w.tape w.drawn (.appendCap (sLen+n) sCap e)) (show 0<2^63-(sLen+n)by omega);omega
   ·exact h.elim
 ·exact h.elim
theorem Xv {t e ty:TypeId}{size:Nat}{d x:Value}{ts:Array TypeId}(h0:ts[0]? =some t)(ht:P.underlying t=some (.slice e))(hs:fK P e=some size)(h:GQ size d x w.heap K):
  ∃v w',(Builtin.copy_ ts ty #[d,x]).run P w=.ok v w'∧dO w w'∧K v w'.heap:=by
 unfold GQ at h;split at h
 ·rename_i base dLen dCap _ n hn;simp only[Builtin.copy_,h0];simp only[Am,Ei,yf,bZ,dk ht,bP,UJ hn,aM hs];split at h
  ·rename_i news hsrc;rw[DR hsrc];simp only[bP];split at h
   ·rename_i a;split at h
    ·rename_i h' hst;obtain⟨w',hr,hs,hh⟩:=uY (P:=P) _ _ 0 w h' hst;simp only[bZ,hr,bP,cT];exact⟨_,_,rfl,hs,hh▸h⟩
    ·exact h.elim
   ·simp only[cT];exact⟨_,_,rfl,dO.refl w,h⟩
  ·exact h.elim
 ·exact h.elim
theorem kL.of {s:Sem Value}(h:∃v w',s.run P w=.ok v w'∧dO w w'∧K v w'.heap):kL P K w ((do pure (.value (←s)):Sem Next).run P w):=by
 obtain⟨v,w',h1,h2,h3⟩:=h;exact kL.value h1 h2 h3
theorem kL.ofU {s:Sem Unit}(h:∃w',s.run P w=.ok () w'∧dO w w'∧K undef w'.heap):kL P K w ((do s;pure .skip:Sem Next).run P w):=by
 obtain⟨w',h1,h2,h3⟩:=h;exact kL.unit h1 h2 h3
theorem pe {f:FuncId}{args:Array Value}(h:tE P f=true):(callFunc f args).run P w=.ok (.enter f args) w:=by
 unfold tE at h;cases hf:P.funcs[f]? with
 |none=>simp[hf]at h
 |some fn=>
  simp only[hf,dj,Jt]at h;simp only[callFunc,bZ,vC,bP,hf];rw[aq (by rw[h.1];simp)];have hb:fn.body.isNone=false:=by cases hb:fn.body<;>simp_all
  rw[aq (by rw[hb];simp)];rfl
theorem ag.done {f:FuncId}{args:Array Value}(h:ag P f args w.heap K):kL P K w ((callFunc f args).run P w):=by
 rcases h with h|h
 ·rw[pe h.1];exact⟨rfl,h⟩
 ·obtain⟨v,w',h1,h2,h3⟩:=h w rfl;rw[h1];exact⟨h2,h3⟩
theorem ag.calls {f:FuncId}{args:Array Value}{h:ah}(hok:tE P f=true)(H:ag P f args h K)(w:World)(hw:w.heap=h):Calls P f args w λe w'=>∃v,e=.returned v∧dO w w'∧K v w'.heap:=by
 rcases H with H|H
 ·exact H.2 w hw
 ·obtain⟨v,w',h1,_⟩:=H w hw;rw[pe hok]at h1;cases h1
theorem zaj {x:Value}{args:Array Value}(h:clK P x args w.heap K):kL P K w ((do let d←Deferred.ofValue x args;invoke d.target d.args:Sem Next).run P w):=by
 unfold clK at h;split at h
 ·simp only[Deferred.ofValue,bZ,cT,bP,invoke];exact h.done
 ·exact h.elim
theorem Xr {b:Builtin}{args:List Value}{ts:Array TypeId}{ty:TypeId}{cs:Array Bool}(h:zeZ P b args ts.toList w.heap K):kL P K w ((builtin b ts ty cs args.toArray).run P w):=by
 unfold zeZ at h;split at h
 ·split at h
  ·rename_i s x t u hts;split at h
   ·rename_i e d ht hu;split at h
    ·rename_i z size bytes hi;exact kL.of (PC hts ht ⟨_,hu,by simp⟩ hi h)
    ·exact h.elim
   ·rename_i e ht hu;split at h
    ·rename_i z size bytes hi;exact kL.of (PC hts ht ⟨_,hu,by simp⟩ hi h)
    ·exact h.elim
   ·exact h.elim
  ·exact h.elim
 ·split at h
  ·rename_i d x t rest hts;have h0:ts[0]? =some t:=by rw[←vB,hts];rfl
   split at h
   ·rename_i e ht;split at h
    ·rename_i size hs;exact kL.of (Xv h0 ht hs h)
    ·exact h.elim
   ·exact h.elim
  ·exact h.elim
 ·split at h
  ·rename_i m k t rest hts;have h0:ts[0]? =some t:=by rw[←vB,hts];rfl
   split at h
   ·rename_i kt et ht;split at h
    ·rename_i kd hk;exact kL.of (QF h0 ht hk h)
    ·exact h.elim
   ·exact h.elim
  ·exact h.elim
 ·exact h.elim
theorem Pu (f:Value→ByteArray→Sem (ForInStep ByteArray))(hf:∀n s,f (.int .u8 n) s=pure (.yield (s.push (UInt8.ofNat n.toNat)))):
  ∀(l:List Value) (b:List UInt8) (s:ByteArray),Pv l=some b→(forIn l s f).run P w=.ok ⟨s.data++b.toArray⟩ w
 | [],b,s,h=>by
  simp only[Pv,cK]at h;subst h;simp
 | v::r,b,s,h=>by
  unfold Pv at h;split at h
  ·rename_i n;split at h
   ·rename_i l hl;simp only[cK]at h;subst h;have:=Pu f hf r l (s.push (UInt8.ofNat n.toNat)) hl;simp only[List.forIn_cons,hf,bZ,cT,bP,this]
    congr 1
    apply ByteArray.ext;apply Ju;show(s.data.push (UInt8.ofNat n.toNat)++l.toArray).toList=_;simp
   ·cases h
  ·cases h
theorem zaK {x:Value}(h:bsK x w.heap K):∃v w',(Conv.bytesToString x).run P w=.ok v w'∧dO w w'∧K v w'.heap:=by
 unfold bsK at h;split at h
 ·exact⟨_,w,rfl,dO.refl w,h⟩
 ·rename_i a n c;split at h
  ·rename_i l hl;split at h
   ·rename_i b hb;refine⟨_,w,?_,dO.refl w,h⟩;have h1:=xN (P:=P) a _ 0 #[] l hl;simp only[Conv.bytesToString,loadCells,bZ,h1,bP,Array.empty_append,List.forIn_toArray];rw[Pu _ (λn s=>rfl) l b ByteArray.empty hb];simp
   ·exact h.elim
  ·exact h.elim
 ·exact h.elim
theorem OV {op:Op}(o:Oper)(ho:o.op=op)(h:zdy P ρ op w.heap K):kL P K w ((execOp (ev ρ) o).run P w):=by
 unfold zdy at h;split at h
 case h_1 t=>
  split at h
  ·rename_i z hz;simp only[execOp,ho];refine kL.of ⟨.pointer (some ⟨w.heap.size,0,none⟩),{w with heap:=w.heap.push (.cells z.cells t)},?_,⟨rfl,rfl,rfl⟩,h⟩;simp only[Instr.alloc,bZ,aI hz,bP,newVar,newRow,gJ,cT]
  ·exact h.elim
 case h_2 t x=>
  simp only[execOp,ho];refine kL.of ⟨.pointer (some ⟨w.heap.size,0,none⟩),{w with heap:=w.heap.push (.cells (ev ρ x).cells t)},?_,⟨rfl,rfl,rfl⟩,h⟩;simp only[Instr.box,bZ,bP,newVar,newRow,gJ,cT]
 case h_3 t len parts=>
  split at h
  ·rename_i e ht;split at h
   ·rename_i s z hs hz;split at h
    ·exact h.elim
    ·rename_i hsmall;split at h
     ·rename_i l hl;simp only[execOp,ho];exact kL.of (WC ht hs hz hsmall hl h)
     ·exact h.elim
   ·exact h.elim
  ·exact h.elim
 case h_4 t a x=>
  split at h
  ·rename_i n hn;simp only[execOp,ho];exact kL.ofU (ZA hn h)
  ·exact h.elim
 case h_5 t l c=>
  split at h
  ·rename_i e ht;split at h
   ·rename_i z size bytes hi;simp only[execOp,ho];exact kL.of (ZU ht hi h)
   ·exact h.elim
  ·exact h.elim
 case h_6 t=>
  simp only[execOp,ho];refine kL.of ⟨.map (some w.heap.size),{w with heap:=w.heap.push (.map #[] 0)},?_,⟨rfl,rfl,rfl⟩,h⟩;simp only[Instr.makeMap,Mr,bZ,gJ,bP,cT]
 case h_7 t m k x|h_8 t m k x=>
  split at h
  ·rename_i kt et ht;split at h
   ·rename_i kd hk;simp only[execOp,ho];exact kL.ofU (QC ht hk h)
   ·exact h.elim
  ·exact h.elim
 case h_9 t m k=>
  split at h
  ·rename_i kt et ht;split at h
   ·rename_i kd z hk hz;simp only[execOp,ho];exact kL.of (LZ ht hk hz h)
   ·exact h.elim
  ·exact h.elim
 case h_10 t m s x=>
  simp only[execOp,ho];exact kL.ofU (OS h)
 case h_11 t x=>
  split at h
  ·rename_i kt et ht;simp only[execOp,ho];exact kL.of (Lz ht h)
  ·rename_i ht;simp only[execOp,ho];exact kL.of (Lw ht h)
  ·exact h.elim
 case h_12 it s=>
  simp only[execOp,ho];cases s
  ·exact kL.of (Oc h)
  ·exact kL.of (Ob h)
 case h_13 it=>
  simp only[execOp,ho];exact kL.of (TY h)
 case h_14 c=>
  split at h
  ·rename_i b hb;have:=Xr (P:=P) (w:=w) (ty:=o.type) (cs:=c.args.map λ| .const _=>true|_=>false) h;rw[Ef]at this;simp only[execOp,ho,resolve,hb,bZ,cT,bP,invoke];exact this
  ·rename_i f hb;simp only[execOp,ho,resolve,hb,ev,Deferred.ofValue,bZ,cT,bP,invoke];simp only[Array.empty_append,Array.append_empty];exact h.done
  ·rename_i x _ hb;simp only[execOp,ho,resolve,hb];exact zaj h
  ·exact h.elim
 case h_15 s d x=>
  split at h
  ·rename_i e h1 h2;split at h
   ·rename_i h3;simp only[execOp,ho];refine kL.of ?_;obtain⟨v,w',h4,h5,h6⟩:=zaK (P:=P) h;refine⟨v,w',?_,h5,h6⟩;simp only[convert,bZ,dk h1,dk h2,dk h3,bP];generalize ev ρ x=y at h h4 ⊢;cases y<;>first|exact h4|(simp only[bZ,dk h3,bP];exact h4)|exact h.elim
   ·exact h.elim
  ·exact h.elim
 case h_16=>exact h.elim
end
end
end Go.Crisp
namespace Go.Crisp
section
def gV (g:Value)(want:Bool)(r:Option Value):Option Value:=
 match g with
 | .bool b=>bif b==want then r else some undef
 |_=>some undef
def gK (g:Value)(want:Bool)(m:(Value→ah→Prop)→Prop)(h:ah)(K:Value→ah→Prop):Prop:=
 match g with
 | .bool b=>bif b==want then m K else K undef h
 |_=>K undef h
def gOf (all:Array Oper)(ρ:Env)(j:Nat):Value:=
 match(all[j]?).bind (·.dst)with
 |some t=>ρ t
 |none=>undef
def roG (P:Program)(all:Array Oper)(ρ:Env)(o:Oper)(h:ah):Option (Option Value):=
 match roV P ρ o.op h with
 |some r=>match o.guard with
  |none=>some r
  |some (j,want)=>some (gV (gOf all ρ j) want r)
 |none=>none
def effG (P:Program)(all:Array Oper)(ρ:Env)(o:Oper)(h:ah)(K:Value→ah→Prop):Prop:=
 match o.guard with
 |none=>zdy P ρ o.op h K
 |some (j,want)=>gK (gOf all ρ j) want (λK=>zdy P ρ o.op h K) h K
def zd8 (P:Program)(all:Array Oper)(ρ:Env)(o:Oper)(h:ah)(K:Value→ah→Prop):Prop:=
 match roG P all ρ o h with
 |some r=>vK r λv=>K v h
 |none=>effG P all ρ o h K
def zcO (P:Program)(ρ:Env)(o:Oper):Option Value:=
 match o.guard with
 |some _=>none
 | none=>match o.op with
  | .move x=>some (ev ρ x)
  | .assign x=>some (ev ρ x)
  | .makeInterface t x=>match P.underlying t with
   |some (.interface _)=>none
   |some _=>some (.iface t (ev ρ x))
   |none=>none
  | .makeFunc fn first captured=>some (.func fn (first.map (ev ρ)) (captured.map (ev ρ)))
  |_=>none
theorem XZ {P:Program}{all:Array Oper}{ρ:Env}{o:Oper}{v:Value}(h:zcO P ρ o=some v)(hp:ah):roG P all ρ o hp=some (some v):=by
 unfold zcO at h;split at h
 ·cases h
 ·rename_i hg;unfold roG;split at h
  ·rename_i x ho;simp only[ho,roV,hg,h]
  ·rename_i x ho;simp only[ho,roV,hg,h]
  ·rename_i t x ho;simp only[ho,roV,hg];cases hu:P.underlying t with
   |none=>simp[hu]at h
   |some d=>cases d<;>simp_all
  ·rename_i ho;simp only[ho,roV,hg,h]
  ·cases h
def cOp (P:Program)(all:Array Oper)(ρ:Env)(o:Oper)(h:ah)(K:Value→ah→Prop):Prop:=
 match zcO P ρ o with
 |some v=>K v h
 |none=>zd8 P all ρ o h K
theorem zcz {P:Program}{all:Array Oper}{ρ:Env}{o:Oper}{h:ah}{K:Value→ah→Prop}(H:cOp P all ρ o h K):zd8 P all ρ o h K:=by
 unfold cOp at H;split at H
 ·rename_i v hv;unfold zd8;rw[XZ hv h];exact H
 ·exact H
def roK (P:Program)(all:Array Oper)(ρ:Env)(o:Oper)(h:ah)(K:Value→Prop):Prop:=
 match zcO P ρ o with
 |some v=>K v
 |none=>match roG P all ρ o h with
  |some r=>vK r K
  |none=>False
theorem za5 {P:Program}{all:Array Oper}{ρ:Env}{o:Oper}{h:ah}{K:Value→Prop}(H:roK P all ρ o h K):match roG P all ρ o h with|some r=>vK r K|none=>False:=by
 unfold roK at H;split at H
 ·rename_i v hv;rw[XZ hv h];exact H
 ·exact H
noncomputable def zcy (P:Program)(all:Array Oper)(l:List Oper):Env→ah→(Env→ah→Prop)→Prop:=
 List.rec (motive:=λ_=>Env→ah→(Env→ah→Prop)→Prop) (λρ h Q=>Q ρ h)
  (λo _ ih ρ h Q=>cOp P all ρ o h λv h=>ih (up ρ o.dst v) h Q) l
theorem zaI {P:Program}{all:Array Oper}{o:Oper}{l:List Oper}{ρ:Env}{h:ah}{Q:Env→ah→Prop}:zcy P all (o::l) ρ h Q=cOp P all ρ o h λv h=>zcy P all l (up ρ o.dst v) h Q:=rfl
noncomputable def Zh (P:Program)(all:Array Oper)(l:List Oper):Env→ah→(Env→ah→Prop)→Prop:=
 List.rec (motive:=λ_=>Env→ah→(Env→ah→Prop)→Prop) (λρ h Q=>Q ρ h)
  (λo _ ih ρ h Q=>roK P all ρ o h λv=>ih (up ρ o.dst v) h Q) l
def qK (S:ah→Prop)(r:ah→Option Value)(K:Value→Prop):Prop:=∃v,(∀h,S h→r h=some v)∧K v
def bO (h:ah)(body:(ah→Prop)→Prop):Prop:=∃S:ah→Prop,S h∧body S
def Db (P:Program):Op→Bool
 | .load .. | .lookup .. | .call _=>false
 | .binOp _ t x y _=>match OU P t with
  | .p=>Vd x||Vd y
  |_=>true
 |_=>true
inductive PK where
 |e|r|f|n
inductive PT where
 |nil
 |op (i:Nat) (q:PK) (t:PT)
 |alt (x y:PT)
noncomputable def Du (P:Program)(all:Array Oper)(plan:PT):(ah→Prop)→Env→ah→(Env→ah→Prop)→Prop:=
 PT.rec (motive:=λ_=>(ah→Prop)→Env→ah→(Env→ah→Prop)→Prop) (λ_ ρ h Q=>Q ρ h)
  (λi q _ ih S ρ h Q=>match all[i]? with
   |none=>False
   | some o=>match q with
    | .r=>match Db P o.op with
     |true=>roK P all ρ o h (λv=>ih S (up ρ o.dst v) h Q)
     |false=>qK S (λh=>match roG P all ρ o h with|some r=>r|none=>none) (λv=>ih S (up ρ o.dst v) h Q)
    | .e=>cOp P all ρ o h λv h=>S h∧ih S (up ρ o.dst v) h Q
    | .f=>cOp P all ρ o h λv h=>bO h λS=>ih S (up ρ o.dst v) h Q
    | .n=>cOp P all ρ o h λv h=>ih (λ_=>True) (up ρ o.dst v) h Q)
  (λ_ _ ihx ihy S ρ h Q=>ihx S ρ h Q∧ihy S ρ h Q) plan
theorem zaJ {P:Program}{all:Array Oper}{x y:PT}{S:ah→Prop}{ρ:Env}{h:ah}{Q:Env→ah→Prop}:Du P all (.alt x y) S ρ h Q=(Du P all x S ρ h Q∧Du P all y S ρ h Q):=rfl
theorem XR {P:Program}{all:Array Oper}{S:ah→Prop}{i:Nat}{q:PK}{l:PT}{ρ:Env}{h:ah}{Q:Env→ah→Prop}:Du P all (.op i q l) S ρ h Q=match all[i]? with
  |none=>False
  | some o=>match q with
   | .r=>match Db P o.op with
    |true=>roK P all ρ o h (λv=>Du P all l S (up ρ o.dst v) h Q)
    |false=>qK S (λh=>match roG P all ρ o h with|some r=>r|none=>none) (λv=>Du P all l S (up ρ o.dst v) h Q)
   | .e=>cOp P all ρ o h λv h=>S h∧Du P all l S (up ρ o.dst v) h Q
   | .f=>cOp P all ρ o h λv h=>bO h λS=>Du P all l S (up ρ o.dst v) h Q
   | .n=>cOp P all ρ o h λv h=>Du P all l (λ_=>True) (up ρ o.dst v) h Q:=by cases q<;>rfl
inductive Ex where
 |nx|br (n:Nat)|rt
inductive Ann where
 |z
 |s (x y:Ann)
 |j (ws:Nat) (cs:List Nat) (x y:Ann)
 |m (ws:Nat) (cs:List Nat) (x:Ann)
 |l (ws:Nat) (cs:List Nat) (x:Ann)
 |d (plan:PT)
def ix (xs:List Value)(i:Nat):Value:=xs.getD i undef
def QX (t:Nat):Nat→List Nat→Option Nat
 |_,[]=>none
 |k,c::cs=>bif Nat.beq t c then some k else QX t (k+1) cs
def io:Code→List Tmp
 | .region _ ops _=>ops.toList.filterMap (·.dst)
 | .seq x y=>io x++io y
 | .cond _ x y=>io x++io y
 | .block _ x=>io x
 | .loop x=>io x
 |_=>[]
def Ak (t:Nat):List Nat→Bool
 | []=>false
 |c::cs=>bif Nat.beq t c then true else Ak t cs
def qW (ws t:Nat):Bool:=Nat.beq (Nat.land (Nat.shiftRight ws t) 1) 1
def DN (ws:Nat):List Nat→Bool
 | []=>true
 |c::cs=>qW ws c&&DN ws cs
def OH (ρ ρj:Env)(ws:Nat)(cs:List Nat)(xs:List Value):Env:=λt=>
 match QX t 0 cs with
 |some i=>ix xs i
 |none=>match qW ws t with
  |true=>ρj t
  |false=>ρ t
def fR (body:(List Value→ah→Prop)→Prop)(rest:List Value→Env→ah→Prop):Prop:=
 ∃J:List Value→ah→Prop,body J∧∀xs ρj h,J xs h→rest xs ρj h
def bA (init:List Value)(h:ah)(body:List Value→Env→ah→(List Value→ah→Prop)→Prop):Prop:=
 ∃(I:List Value→ah→Prop) (m:List Value→ah→Nat),I init h∧∀xs ρj h,I xs h→body xs ρj h λys h'=>I ys h'∧m ys h'<m xs h
def aE (c:Value)(x y:Prop):Prop:=
 match c with
 | .bool b=>bif b then x else y
 |_=>False
abbrev CK:=Ann→Env→ah→(Ex→Env→ah→Prop)→Prop
def seqC (x y:CK):CK:=λan ρ h Q=>match an with
 | .s a b=>x a ρ h λe ρ h=>match e with
  | .nx=>y b ρ h Q
  |e=>Q e ρ h
 | .j ws cs a b=>fR (λJ=>x a ρ h λe ρ h=>match e with
   | .nx=>J (cs.map ρ) h
   |e=>Q e ρ h) λxs ρj h=>y b (OH ρ ρj ws cs xs) h Q
 |_=>False
def condC (c:Operand)(x y:CK):CK:=λan ρ h Q=>match an with
 | .s a b=>aE (ev ρ c) (x a ρ h Q) (y b ρ h Q)
 |_=>False
def zfq (id:Nat) (x:CK):CK:=λan ρ h Q=>match an with
 | .m ws cs a=>fR (λJ=>x a ρ h λe ρ h=>match e with
   | .nx=>J (cs.map ρ) h
   | .br n=>match Nat.beq n id with
    |true=>J (cs.map ρ) h
    |false=>Q (.br n) ρ h
   | .rt=>Q .rt ρ h) λxs ρj h=>Q .nx (OH ρ ρj ws cs xs) h
 | a=>x a ρ h λe ρ h=>match e with
  | .nx=>Q .nx ρ h
  | .br n=>match Nat.beq n id with
   |true=>Q .nx ρ h
   |false=>Q (.br n) ρ h
  | .rt=>Q .rt ρ h
def loopC (x:CK):CK:=λan ρ h Q=>match an with
 | .l ws cs a=>bA (cs.map ρ) h λxs ρj h again=>x a (OH ρ ρj ws cs xs) h λe ρ h=>match e with
  | .nx=>again (cs.map ρ) h
  |e=>Q e ρ h
 |_=>False
noncomputable def zc0 (P:Program)(ops:Array Oper)(draw:Bool):CK:=λan ρ h Q=>match an with
 | .d plan=>bO h λS=>Du P ops plan S ρ h (Q .nx)
 |_=>match draw with
  |true=>Zh P ops ops.toList ρ h (Q .nx)
  |false=>zcy P ops ops.toList ρ h (Q .nx)
noncomputable def RL (P:Program)(c:Code):CK:=
 Code.rec (motive:=λ_=>CK)
  (λ_ ρ h Q=>Q .nx ρ h)
  (λ_ ops draw=>zc0 P ops draw)
  (λ_ _ ihx ihy=>seqC ihx ihy)
  (λc _ _ ihx ihy=>condC c ihx ihy)
  (λid _ ih=>zfq id ih)
  (λ_ ih=>loopC ih)
  (λ_ _ _ _ _ _=>λ_ _ _ _=>False)
  (λid _ ρ h Q=>Q (.br id) ρ h)
  (λ_ _=>λ_ _ _ _=>False)
  (λ_=>λ_ _ _ _=>False)
  (λ_=>λ_ _ _ _=>False)
  (λ_ ρ h Q=>Q .rt ρ h)
  (λ_=>λ_ _ _ _=>False)
  c
def tu (ops:Array Oper):Nat→Nat→Nat→Bool
 |0,_,_=>false
 |n+1,k,i=>match ops[k]? with
  |some o=>o.after.any λe=>Region.binds .any e&&(e.on==i||tu ops n e.on i)
  |none=>false
def VC:List Edge→Nat→Nat
 | [],m=>m
 |e::l,m=>VC l (match Region.binds .any e with|true=>Nat.lor m (Nat.pow 2 e.on)|false=>m)
def zeb (ops:Array Oper):Nat→Nat→Nat
 |0,m=>m
 | j+1,m=>zeb ops j (match qW m j with
  |true=>match ops[j]? with
   |some o=>VC o.after.toList m
   |none=>m
  |false=>m)
def zbk (ops:Array Oper)(k i:Nat):Bool:=qW (zeb ops ops.size (match ops[k]? with|some o=>VC o.after.toList 0|none=>0)) i
def iH:PT→List Nat
 | .nil=>[]
 | .op i q t=>match q with
  | .f=>[i]
  | .n=>[i]
  |_=>iH t
 | .alt x y=>iH x++iH y
def wV:PT→List Nat
 | .nil=>[]
 | .op i _ _=>[i]
 | .alt x y=>wV x++wV y
def yG:PT→Nat
 | .nil=>0
 | .op _ _ t=>yG t+1
 | .alt x y=>Nat.max (yG x) (yG y)
def WP (P:Program)(ops:Array Oper)(i:Nat):Bool:=
 match ops[i]? with
 |some o=>Db P o.op
 |none=>false
def pu (P:Program)(ops:Array Oper):PT→Bool→List Nat→Array Bool→Bool
 | .nil,root,_,listed=>root&&(Region.ready .any ops listed).isEmpty
 | .op i q t,root,fs,listed=>(match q with
   | .r=>root&&(Region.free .any ops listed i&&(Region.ready .any ops listed).contains i&&(iH t).all λk=> !(k==i)&&(WP P ops i||zbk ops k i))
   | .e=>(bif root then Region.ready .any ops listed==[i]else(Region.ready .any ops listed).contains i)&& !((bif root then iH t else fs).contains i)
   |_=>bif root then Region.ready .any ops listed==[i]else(Region.ready .any ops listed).contains i)&&pu P ops t true [] (listed.setIfInBounds i true)
 | .alt x y,root,fs,listed=>(bif root then(Region.ready .any ops listed).all λi=>(wV x++wV y).contains i else true)&&
   (pu P ops x false (bif root then iH x++iH y else fs) listed&&pu P ops y false (bif root then iH x++iH y else fs) listed)
def FL (n:Nat):List Oper→Bool
 | []=>true
 |o::l=>(match o.dst with|some d=>Nat.blt d n|none=>true)&&FL n l
def hG (P:Program)(n:Nat):Code→Ann→Bool
 | .skip,_=>true
 | .region _ ops draw,an=>FL n ops.toList&&match an with
  | .d plan=>draw&&Region.noSelect ops&&Nat.ble (yG plan) ops.size&&pu P ops plan true [] (Array.replicate ops.size false)
  |_=>bif draw then Region.lexB .any ops else true
 | .seq x y,an=>match an with
  | .s a b=>hG P n x a&&hG P n y b
  | .j ws _ a b=>DN ws (io x)&&(hG P n x a&&hG P n y b)
  |_=>false
 | .cond _ x y,an=>match an with
  | .s a b=>hG P n x a&&hG P n y b
  |_=>false
 | .block _ x,an=>match an with
  | .m ws _ a=>DN ws (io x)&&hG P n x a
  |a=>hG P n x a
 | .loop x,an=>match an with
  | .l ws _ a=>DN ws (io x)&&hG P n x a
  |_=>false
 | .exit _,_=>true
 | .ret,_=>true
 |_,_=>false
def Rel (n:Nat)(a:Act)(ρ:Env):Prop:=a.tmps.size=n∧a.defers=[]∧∀t,a.tmps.getD t undef=ρ t
theorem Rel.eval {n:Nat}{a:Act}{ρ:Env}(h:Rel n a ρ):a.eval=ev ρ:=by
 funext x
 cases x<;>simp only[Act.eval,ev]
 exact h.2.2 _
theorem Rel.put {n:Nat}{a:Act}{ρ:Env}(h:Rel n a ρ){d:Option Tmp}(hd:(match d with|some d=>Nat.blt d n|none=>true)=true)(v:Value):Rel n (a.put d v) (up ρ d v):=by
 cases d with
 |none=>exact h
 | some d=>
  refine⟨by simp[Act.put,h.1],h.2.1,λt=>?_⟩;have hd':d<a.tmps.size:=by rw[h.1];simpa[Nat.blt_eq]using hd
  simp only[Act.put,up];have:=h.2.2 t;by_cases ht:t=d
  ·subst ht;simp[hd']
  ·have hb:Nat.beq t d=false:=by rw[Jq];intro hb;exact ht (AA hb)
   simp only[hb];rw[←this];simp only[TL];rw[YL (iu ht)]
def JR (n:Nat)(ρ:Env)(ws:List Tmp)(w0:World)(Q:Ex→Env→ah→Prop):Exit→Act→World→Prop:=λe a w=>
 ∃ρ2,Rel n a ρ2∧(∀t,Ak t ws=false→ρ2 t=ρ t)∧dO w0 w∧match e with
  | .normal=>Q .nx ρ2 w.heap
  | .exit id=>Q (.br id) ρ2 w.heap
  | .ret=>Q .rt ρ2 w.heap
  |_=>False
theorem tH (t:Nat):∀a b:List Nat,Ak t (a++b)=(Ak t a||Ak t b)
 | [],b=>by simp[Ak]
 |c::a,b=>by
  simp only[oe,Ak,tH t a b];cases Nat.beq t c<;>simp
theorem Hj {n:Nat}{a:Act}{ρ:Env}(hr:Rel n a ρ){all:Array Oper}{j:Nat}{want:Bool}{o:Oper}(hg:o.guard=some (j,want)):
  Region.wanted o (yielded all a.tmps)=(match gOf all ρ j with| .bool b=>b==want|_=>false):=by
 unfold Region.wanted;rw[hg];simp only;unfold yielded gOf;cases hd:(all[j]?).bind (·.dst)with
 |none=>rfl
 |some t=>
  have h2:=hr.2.2 t;simp only[Option.bind_some];rw[←h2];simp only[TL];cases h3:a.tmps[t]? with
  |none=>rfl
  |some v=>cases v<;>simp
section
variable {P:Program}{ρ:Env}{w:World}{n:Nat}{a:Act}
theorem zV {o:Oper}{K:Value→ah→Prop}{next:Act→World→Prop}{Q:Exit→Act→World→Prop}(h:kL P K w ((execOp a.eval o).run P w))
  (hn:∀v w',dO w w'→K v w'.heap→next (a.put o.dst v) w'):o.wp P a w next Q:=by
 unfold Oper.wp;generalize(execOp a.eval o).run P w=r at h;unfold kL at h;split at h
 ·exact hn _ _ h.1 h.2
 ·exact hn _ _ h.1 h.2
 ·obtain⟨rfl,hc⟩:=h;refine(hc.2 _ rfl).mono ?_;rintro e w' ⟨v,rfl,hs,hk⟩;exact hn v w' hs hk
 ·exact h.elim
theorem RK [lR P]{all:Array Oper}{o:Oper}{K:Value→ah→Prop}{next:Act→World→Prop}{Q:Exit→Act→World→Prop}(hr:Rel n a ρ)(h:cOp P all ρ o w.heap K)
  (hn:∀v w',dO w w'→K v w'.heap→next (a.put o.dst v) w'):
  if Region.wanted o (yielded all a.tmps)then o.wp P a w next Q∨(o.asks P a w∧LetsOut Q)else next (a.put o.dst undef) w:=by
 have h:=zcz h;unfold zd8 at h;cases hro:roV P ρ o.op w.heap with
 | some r=>
  simp only[roG,hro]at h;cases hg:o.guard with
  | none=>
   simp only[hg]at h;have hw:Region.wanted o (yielded all a.tmps)=true:=by simp[Region.wanted,hg]
   rw[aA hw];refine .inl ?_;unfold vK at h;split at h
   ·rename_i v;refine zV (K:=K) ?_ hn;rw[hr.eval,zt o rfl hro rfl];exact⟨dO.refl w,h⟩
   ·exact h.elim
  | some p=>
   obtain⟨j,want⟩:=p;simp only[hg]at h;rw[Hj hr hg];unfold gV at h;split at h
   ·rename_i b hb;by_cases hbw:(b==want)=true
    ·rw[hbw]at h;simp only[uq]at h;rw[aA hbw];refine .inl ?_;unfold vK at h;split at h
     ·rename_i v;refine zV (K:=K) ?_ hn;rw[hr.eval,zt o rfl hro rfl];exact⟨dO.refl w,h⟩
     ·exact h.elim
    ·have hbw':(b==want)=false:=by simpa using hbw
     rw[hbw']at h;simp only[yF,vK]at h;rw[aq hbw];exact hn _ _ (dO.refl w) h
   ·rename_i hb;simp only[vK]at h;rw[aq (by simp)];exact hn _ _ (dO.refl w) h
 | none=>
  simp only[roG,hro,effG]at h;cases hg:o.guard with
  |none=>
   simp only[hg]at h;have hw:Region.wanted o (yielded all a.tmps)=true:=by simp[Region.wanted,hg]
   rw[aA hw];refine .inl (zV (K:=K) ?_ hn);rw[hr.eval];exact OV o rfl h
  | some p=>
   obtain⟨j,want⟩:=p;simp only[hg]at h;rw[Hj hr hg];unfold gK at h;split at h
   ·rename_i b hb;by_cases hbw:(b==want)=true
    ·rw[hbw]at h;simp only[uq]at h;rw[aA hbw];refine .inl (zV (K:=K) ?_ hn);rw[hr.eval];exact OV o rfl h
    ·have hbw':(b==want)=false:=by simpa using hbw
     rw[hbw']at h;simp only[yF]at h;rw[aq hbw];exact hn _ _ (dO.refl w) h
   ·rename_i hb;rw[aq (by simp)];exact hn _ _ (dO.refl w) h
theorem Gc {o:Oper}{l:List Oper}(h:FL n (o::l)=true):(match o.dst with|some d=>Nat.blt d n|none=>true)=true∧FL n l=true:=by
 simpa[FL]using h
theorem Ul {d:Option Tmp}{v:Value}{t:Nat}{rest:List Tmp}(ht:Ak t (match d with|some d=>d::rest|none=>rest)=false):up ρ d v t=ρ t∧Ak t rest=false:=by
 cases d with
 |none=>exact⟨rfl,ht⟩
 |some d=>
  simp only[Ak]at ht;simp only[up];cases hb:Nat.beq t d with
  |true=>rw[hb]at ht;cases ht
  |false=>rw[hb]at ht;exact⟨rfl,ht⟩
theorem Ps [lR P]{all:Array Oper}{Q:Ex→Env→ah→Prop}{Q':Exit→Act→World→Prop}:∀(l:List Oper) (k:Nat) (ρ:Env) (a:Act) (w:World),all.toList.drop k=l→FL n l=true→Rel n a ρ→
  zcy P all l ρ w.heap (Q .nx)→(∀e a' w',JR n ρ (l.filterMap (·.dst)) w Q e a' w'→Q' e a' w')→wpOps P all Q' (List.range' k l.length) a w
 | [],k,ρ,a,w,_,_,hr,h,hQ=>by
  simp only[kS,List.range'_zero,wpOps];exact hQ _ _ _ ⟨ρ,hr,λ_ _=>rfl,dO.refl w,h⟩
 | o::l,k,ρ,a,w,hd,hok,hr,h,hQ=>by
  have hk:all[k]? =some o:=by
   rw[←vB];have:(all.toList.drop k)[0]? =some o:=by rw[hd];rfl
   simpa using this
  have hd':all.toList.drop (k+1)=l:=by
   have:(all.toList.drop k).drop 1=l:=by rw[hd];rfl
   simpa[Jp]using this
  obtain⟨h1,h2⟩:=Gc hok;simp only[pJ,List.range'_succ,wpOps,hk];rw[zaI]at h;refine RK (n:=n) hr h λv w' hs hK=>?_
  refine Ps l (k+1) (up ρ o.dst v) _ w' hd' h2 (hr.put h1 v) hK λe a' w'' ⟨ρ2,g1,g2,g3,g4⟩=>hQ e a' w'' ⟨ρ2,g1,λt ht=>?_,hs.trans g3,g4⟩
  have:=Ul (ρ:=ρ) (d:=o.dst) (v:=v) (t:=t) (rest:=l.filterMap (·.dst)) (by cases hdst:o.dst<;>simp[hdst]at ht ⊢ <;>exact ht);rw[g2 t this.2,this.1]
theorem RT [lR P]{all:Array Oper}{o:Oper}{C:World→Prop}{K:Act→Prop}{h:ah}{K0:Value→Prop}(hr:Rel n a ρ)(hC:∀w,C w→w.heap=h)
  (hv:roK P all ρ o h K0) (hn:∀v,K0 v→K (a.put o.dst v)):
  if Region.wanted o (yielded all a.tmps)then o.quiet P a C K else K (a.put o.dst undef):=by
 have hv:=za5 hv;unfold roG at hv;cases hro:roV P ρ o.op h with
 |none=>simp[hro]at hv
 | some r=>
  simp only[hro]at hv;have hq:∀v,r=some v→∀w,C w→o.quietAt P a C w v:=by
   intro v hrv w hw;unfold Oper.quietAt;rw[hr.eval,zt (w:=w) o rfl (by rw[hC w hw];exact hro) hrv];exact⟨rfl,rfl⟩
  cases hg:o.guard with
  | none=>
   simp only[hg]at hv;rw[aA (by simp[Region.wanted,hg])];unfold vK at hv;split at hv
   ·rename_i v;exact⟨v,hq v rfl,hn v hv⟩
   ·exact hv.elim
  | some p=>
   obtain⟨j,want⟩:=p;simp only[hg]at hv;rw[Hj hr hg];unfold gV at hv;split at hv
   ·rename_i b hb;by_cases hbw:(b==want)=true
    ·rw[hbw]at hv;simp only[uq]at hv;rw[aA hbw];unfold vK at hv;split at hv
     ·rename_i v;exact⟨v,hq v rfl,hn v hv⟩
     ·exact hv.elim
    ·have hbw':(b==want)=false:=by simpa using hbw
     rw[hbw']at hv;simp only[yF,vK]at hv;rw[aq hbw];exact hn _ hv
   ·rename_i hb;simp only[vK]at hv;rw[aq (by simp)];exact hn _ hv
theorem Lr [lR P]{all:Array Oper}{Q:Ex→Env→ah→Prop}{C:World→Prop}{h:ah}{Q':Act→Prop}(hC:∀w,C w→w.heap=h):∀(l:List Oper) (ρ:Env) (a:Act),FL n l=true→Rel n a ρ→
  Zh P all l ρ h (Q .nx)→(∀a' ρ2,Rel n a' ρ2→(∀t,Ak t (l.filterMap (·.dst))=false→ρ2 t=ρ t)→Q .nx ρ2 h→Q' a')→wpQuiet P all C Q' l a
 | [],ρ,a,_,hr,hh,hQ=>hQ _ ρ hr (λ_ _=>rfl) hh
 |o::l,ρ,a,hok,hr,hh,hQ=>by
  obtain⟨h1,h2⟩:=Gc hok;simp only[wpQuiet];refine RT (n:=n) (h:=h) hr hC (K0:=λv=>Zh P all l (up ρ o.dst v) h (Q .nx)) hh λv hK=>?_
  refine Lr hC l (up ρ o.dst v) _ h2 (hr.put h1 v) hK λa' ρ2 g1 g2 g3=>hQ a' ρ2 g1 (λt ht=>?_) g3
  have:=Ul (ρ:=ρ) (d:=o.dst) (v:=v) (t:=t) (rest:=l.filterMap (·.dst)) (by cases hdst:o.dst<;>simp[hdst]at ht ⊢ <;>exact ht);rw[g2 t this.2,this.1]
theorem MX (w:World):dO w {w with drawn:=w.drawn+1}:=⟨rfl,rfl,rfl⟩
theorem Region.wanted_eq {all:Array Oper}{o:Oper}(hr:Rel n a ρ):Region.wanted o (yielded all a.tmps)=match o.guard with
  |none=>true
  |some (j,want)=>match gOf all ρ j with| .bool b=>b==want|_=>false:=by
 cases hg:o.guard with
 |none=>simp[Region.wanted,hg]
 |some p=>obtain⟨j,want⟩:=p;exact Hj hr hg
theorem KS [lR P]{all:Array Oper}{o:Oper}{S:ah→Prop}{v:Value}{h0:ah}(hr:Rel n a ρ)(h0S:S h0)
  (hv:∀h,S h→(match roG P all ρ o h with|some r=>r|none=>none)=some v):YieldsIf P all (λw=>S w.heap) o v a:=by
 unfold YieldsIf;rw[Region.wanted_eq hr];have key:∀h,S h→∃r,roV P ρ o.op h=some r∧(match o.guard with|none=>r|some (j,want)=>gV (gOf all ρ j) want r)=some v:=by
  intro h hh;have:=hv h hh;unfold roG at this;cases hro:roV P ρ o.op h with
  |none=>simp[hro]at this
  |some r=>
   simp only[hro]at this;refine⟨r,rfl,?_⟩;cases hg:o.guard with
   |none=>simpa[hg]using this
   |some p=>simpa[hg]using this
 cases hg:o.guard with
 |none=>
  refine .inl ⟨rfl,λw hw=>?_⟩;obtain⟨r,h1,h2⟩:=key _ hw;simp only[hg]at h2;rw[hr.eval];exact zt o rfl h1 h2
 | some p=>
  obtain⟨j,want⟩:=p;simp only[hg]at key;cases hgo:gOf all ρ j with
  | bool b=>
   simp only[hgo,gV]at key;cases hbw:(b==want)with
   |true=>
    refine .inl ⟨by simp only[hgo];exact hbw,λw hw=>?_⟩;obtain⟨r,h1,h2⟩:=key _ hw;rw[hbw,uq]at h2;rw[hr.eval];exact zt o rfl h1 h2
   |false=>
    obtain⟨r,h1,h2⟩:=key _ h0S;rw[hbw,yF]at h2;exact .inr ⟨by simp only[hgo];exact hbw,(un h2).symm⟩
  |_=>
   obtain⟨r,h1,h2⟩:=key _ h0S;simp only[hgo,gV]at h2;exact .inr ⟨by simp only[hgo],(un h2).symm⟩
theorem BJ [lR P]{all:Array Oper}{i:Nat}{o:Oper}{K:Value→ah→Prop}{next:Act→World→Prop}{Q:Exit→Act→World→Prop}(hi:all[i]? =some o)(hr:Rel n a ρ)(h:cOp P all ρ o w.heap K)
  (hn:∀v w',dO w w'→K v w'.heap→next (a.put o.dst v) w'):wpOp P all Q i next a w:=by
 unfold wpOp;simp only[hi];exact RK hr h hn
theorem ZO {o:Oper}:∀(l:List Oper) (i:Nat),FL n l=true→l[i]? =some o→(match o.dst with|some d=>Nat.blt d n|none=>true)=true:=by
 intro l;induction l with
 |nil=>intro i _ h;simp at h
 | cons o' l ih=>
  intro i h hi;obtain⟨h1,h2⟩:=Gc h;cases i with
  |zero=>
   simp only[Ei,cK]at hi;subst hi;exact h1
  |succ i=>
   simp only[yf]at hi;exact ih i h2 hi
theorem Ld:∀{t:Nat} {l:List Nat},t∈l→Ak t l=true
 | t,c::l,h=>by
  simp only[Ak];cases hb:Nat.beq t c with
  |true=>rfl
  |false=>
   rcases fC.1 h with rfl|h
   ·simp at hb
   ·exact Ld h
theorem R8 {all:Array Oper}{o:Oper}(h:Db P o.op=true)(h1 h2:ah):roG P all ρ o h1=roG P all ρ o h2:=by
 have:roV P ρ o.op h1=roV P ρ o.op h2:=by
  cases ho:o.op with
  | binOp op t x y z=>
   rw[ho]at h;have h:(match OU P t with| .p=>Vd x||Vd y|_=>true)=true:=h;unfold roV;cases he:OU P t with
   |p=>
    rw[he]at h;have h:(Vd x||Vd y)=true:=h;simp only[h]
   |_=>simp only[he]
  |_=>first|rfl|(rename_i m;cases m<;>rfl)|(exfalso;rw[ho]at h;cases h)
 unfold roG;rw[this]
def Hb (ops:Array Oper)(listed:Array Bool):Prop:=
 ∀k o,ops[k]? =some o→listed.getD k false=true→∀e∈o.after,Region.binds .any e=true→listed.getD e.on false=true
theorem Hb.step {ops:Array Oper}{listed:Array Bool}{j:Nat}(h:Hb ops listed)(hj:j∈Region.ready .any ops listed):Hb ops (listed.setIfInBounds j true):=by
 intro k o hk hl e he hb;refine getD_set_true ?_;by_cases hkj:k=j
 ·subst hkj;obtain⟨_,o',ho',hall⟩:=Az.1 hj;rw[hk]at ho';cases ho';exact hall e he hb
 ·exact h k o hk (by rw[←getD_set_ne false (iu hkj)];exact hl) e he hb
theorem Lc {ops:Array Oper}{listed:Array Bool}(h:Hb ops listed){i:Nat}:∀(n k:Nat),tu ops n k i=true→(∀o,ops[k]? =some o→∀e∈o.after,Region.binds .any e=true→listed.getD e.on false=true)→listed.getD i false=true
 |0,k,hp,_=>by simp[tu]at hp
 | n+1,k,hp,hk=>by
  unfold tu at hp;cases ho:ops[k]? with
  |none=>simp[ho]at hp
  |some o=>
   simp only[ho,Jo,dj,wR,Ee]at hp;obtain⟨e,he,hb,hp⟩:=hp;have hl:=hk o ho e he hb;rcases hp with rfl|hp
   ·exact hl
   ·exact Lc h n e.on hp λo' ho' e' he' hb'=>h e.on o' ho' hl e' he' hb'
theorem zcA (m e i:Nat):qW (Nat.lor m (Nat.pow 2 e)) i=true→qW m i=true∨i=e:=by
 have hb:∀m t,qW m t=m.testBit t:=by
  intro m t;unfold qW;have h1:Nat.land (Nat.shiftRight m t) 1=(m>>>t)%2:=Jn _;rw[h1,TK,Nat.testBit_eq_decide_div_mod_eq];cases h:Nat.beq (m/2^t%2) 1 with
  |true=>simp[AA h]
  |false=>have:¬m/2^t%2=1:=Nat.ne_of_beq_eq_false h;simp[this]
 rw[hb,hb];intro h;have h:(m|||2^e).testBit i=true:=h;rw[Nat.testBit_or,Nat.testBit_two_pow,wR,dd]at h;rcases h with h|h
 ·exact .inl h
 ·exact .inr h.symm
theorem Ni {ops:Array Oper}{j i:Nat}{o:Oper}(ho:ops[j]? =some o){e:Edge}(he:e∈o.after)(hb:Region.binds .any e=true)(hi:e.on=i):∀(n k:Nat),tu ops n k j=true→∃n,tu ops n k i=true
 |0,k,h=>by simp[tu]at h
 | n+1,k,h=>by
  unfold tu at h;cases hk:ops[k]? with
  |none=>simp[hk]at h
  | some o'=>
   simp only[hk,Jo,dj,wR,Ee]at h;obtain⟨e',he',hb',h⟩:=h;have fin:∀m,tu ops m e'.on i=true→∃n,tu ops n k i=true:=λm hm=>⟨m+1,by
    unfold tu;simp only[hk,Jo,dj,wR,Ee];exact⟨e',he',hb',.inr hm⟩⟩
   rcases h with h|h
   ·refine fin 1 ?_;unfold tu;rw[h];simp only[ho,Jo,dj,wR,Ee];exact⟨e,he,hb,.inl hi⟩
   ·obtain⟨m,hm⟩:=Ni ho he hb hi n e'.on h;exact fin m hm
theorem KD {i:Nat}:∀(l:List Edge) (m:Nat),qW (VC l m) i=true→qW m i=true∨∃e∈l,Region.binds .any e=true∧e.on=i
 | [],m,h=>.inl h
 | e::l,m,h=>by
  unfold VC at h;rcases KD l _ h with h1|⟨e',h1,h2⟩
  ·cases hb:Region.binds .any e with
   |true=>
    simp only[hb]at h1;rcases zcA _ _ _ h1 with h1|h1
    ·exact .inl h1
    ·exact .inr ⟨e,by simp,hb,h1.symm⟩
   |false=>
    simp only[hb]at h1;exact .inl h1
  ·exact .inr ⟨e',by simp[h1],h2⟩
theorem Wd {ops:Array Oper}{k:Nat}:∀(j m:Nat),(∀i,qW m i=true→∃n,tu ops n k i=true)→∀i,qW (zeb ops j m) i=true→∃n,tu ops n k i=true
 |0,m,H,i,h=>H i h
 | j +1,m,H,i,h=>by
  unfold zeb at h;refine Wd j _ ?_ i h;intro i h;cases hb:qW m j with
  |false=>simp only[hb]at h;exact H i h
  | true=>
   simp only[hb]at h;cases ho:ops[j]? with
   |none=>simp only[ho]at h;exact H i h
   | some o=>
    simp only[ho]at h;rcases KD _ _ h with h|⟨e,h1,h2,h3⟩
    ·exact H i h
    ·obtain⟨n,hn⟩:=H j hb;exact Ni ho (by simpa using h1) h2 h3 n k hn
theorem UT {ops:Array Oper}{k i:Nat}(h:zbk ops k i=true):∃n,tu ops n k i=true:=by
 refine Wd ops.size _ ?_ i h;intro i h;cases ho:ops[k]? with
 |none=>
  simp only[ho]at h;simp[qW,TK]at h
 | some o=>
  simp only[ho]at h;rcases KD _ _ h with h|⟨e,h1,h2,h3⟩
  ·have:Nat.land (Nat.shiftRight 0 i) 1=0:=by
    have h1:Nat.land (Nat.shiftRight 0 i) 1=(0>>>i)%2:=Jn _;rw[h1,TK];simp
   unfold qW at h;rw[this]at h;cases h
  ·refine⟨1,?_⟩;unfold tu;simp only[ho,Jo,dj,wR,Ee];exact⟨e,by simpa using h1,h2,.inl h3⟩
def q9 (P:Program)(ops:Array Oper)(Q:Exit→Act→World→Prop)(S:World→Prop)(F:Nat→Bool):Nat→Array Bool→Act→World→Prop
 |0,listed,a,w=>Region.ready .any ops listed=[]∧Q .normal a w
 |fuel+1,listed,a,w=>
  (Region.ready .any ops listed=[]→Q .normal a w)∧
  ∀i∈Region.ready .any ops listed,wpOp P ops Q i (λa' w'=>if F i=true then wpAny P .any ops Q fuel (listed.setIfInBounds i true) a' w' else S w'∧q9 P ops Q S F fuel (listed.setIfInBounds i true) a' w') a w
theorem vS {P:Program}{ops:Array Oper}{Q:Exit→Act→World→Prop}{S:World→Prop}{F:Nat→Bool}:∀(fuel:Nat) (listed:Array Bool) (a:Act) (w:World),q9 P ops Q S F fuel listed a w→wpAny P .any ops Q fuel listed a w
 |0,_,_,_,h=>h
 | fuel+1,_,_,_,h=>⟨h.1,λi hi=>yc (λa' w' h'=>by
   split at h'
   ·exact h'
   ·exact vS fuel _ a' w' h'.2) (h.2 i hi)⟩
theorem RS {P:Program}{ops:Array Oper}{Q:Exit→Act→World→Prop}{S:World→Prop}{F:Nat→Bool}{i:Nat}{oi:Oper}{v:Value}(hi:ops[i]? =some oi)(hsel:∀(j:Nat) (o:Oper) cs b,ops[j]? =some o→o.op≠ .select cs b)
  (hQ:∀c a w,Q (.panic c) (a.put oi.dst v) w→Q (.panic c) a w) (hFi:F i=false) (hF:∀k,F k=true→∃n,tu ops n k i=true):
  ∀(fuel:Nat) (listed:Array Bool) (a:Act) (w:World),
   (∀j oj,ops[j]? =some oj→j≠i→listed.getD j true=false→(∀e∈oj.after,Region.binds .any e=true→e.on≠i)→oi.apart ops oj=true)→
   Hb ops listed→i∈Region.ready .any ops listed→YieldsIf P ops S oi v a→S w→
   q9 P ops Q S F fuel (listed.setIfInBounds i true) (a.put oi.dst v) w→q9 P ops Q S F (fuel+1) listed a w:=by
 have notF:∀{listed:Array Bool} {j:Nat},Hb ops listed→i∈Region.ready .any ops listed→j∈Region.ready .any ops listed→¬F j=true:=by
  intro listed j hc hr hj hfj;obtain⟨n,hn⟩:=hF j hfj;obtain⟨_,oj,hoj,hall⟩:=Az.1 hj;have h1:=Lc hc n j hn λo ho e he hb=>by rw[hoj]at ho;cases ho;exact hall e he hb
  have h0:=(Az.1 hr).1;rcases pK i listed.size with h'|h'
  ·simp[h']at h0 h1;rw[h0]at h1;cases h1
  ·simp[Ay h']at h1
 have hnF:¬F i=true:=by rw[hFi];simp
 intro fuel;induction fuel with
 | zero=>
  intro listed a w _ hc hr hy hS H;refine⟨λh=>(by rw[h]at hr;cases hr),λj hj=>?_⟩;by_cases hji:j=i
  ·subst hji;exact hy.wpOp hi hS (by rw[aq hnF];exact⟨hS,H⟩)
  ·have:=Ax hj hji;rw[H.1]at this;cases this
 | succ fuel ih=>
  intro listed a w hfree hc hr hy hS H;refine⟨λh=>(by rw[h]at hr;cases hr),λj hj=>?_⟩;by_cases hji:j=i
  ·subst hji;exact hy.wpOp hi hS (by rw[aq hnF];exact⟨hS,H⟩)
  ·have h1:=H.2 j (Ax hj hji);have hnFj:=notF hc hr hj;simp only[aq hnFj]at h1 ⊢;obtain⟨hjun,oj,hoj,hall⟩:=Az.1 hj;have hnot:∀e∈oj.after,Region.binds .any e=true→e.on≠i:=λe he hb heq=>by
    have h1:=hall e he hb;have h0:=(Az.1 hr).1;rw[heq]at h1;rcases pK i listed.size with h'|h'
    ·simp[h']at h0 h1;rw[h0]at h1;cases h1
    ·simp[Ay h']at h1
   have h2:=wpOp_putIf hoj (hfree j oj hoj hji hjun hnot) (λcs b=>hsel i oi cs b hi) (λcs b=>hsel j oj cs b hoj) hQ hy h1;have hfree':∀k ok,ops[k]? =some ok→k≠i→(listed.setIfInBounds j true).getD k true=false→
     (∀e∈ok.after,Region.binds .any e=true→e.on≠i)→oi.apart ops ok=true:=λk ok hk hki hun hno=>by
    refine hfree k ok hk hki ?_ hno;by_cases hjk:j=k
    ·subst hjk;exact hjun
    ·rw[getD_set_ne true hjk]at hun;exact hun
   refine yc (λa' w' h3=>⟨h3.2.1,ih (listed.setIfInBounds j true) a' w' hfree' (hc.step hj) (Ax hr (iu hji)) h3.1 h3.2.1 ?_⟩) h2;rw[TJ _ _ hji];exact h3.2.2
theorem PI {P:Program}{ops:Array Oper}{Q:Exit→Act→World→Prop}{S:World→Prop}{F:Nat→Bool}{i:Nat}{oi:Oper}{v:Value}(hi:ops[i]? =some oi)(hsel:∀(j:Nat) (o:Oper) cs b,ops[j]? =some o→o.op≠ .select cs b)
  (hQ:∀c a w,Q (.panic c) (a.put oi.dst v) w→Q (.panic c) a w) (hFi:F i=false):
  ∀(fuel:Nat) (listed:Array Bool) (a:Act) (w:World),
   (∀j oj,ops[j]? =some oj→j≠i→listed.getD j true=false→(∀e∈oj.after,Region.binds .any e=true→e.on≠i)→oi.apart ops oj=true)→
   i∈Region.ready .any ops listed→Yields P ops oi v a→S w→
   q9 P ops Q S F fuel (listed.setIfInBounds i true) (a.put oi.dst v) w→q9 P ops Q S F (fuel+1) listed a w:=by
 have hnF:¬F i=true:=by rw[hFi];simp
 intro fuel;induction fuel with
 | zero=>
  intro listed a w _ hr hy hS H;refine⟨λh=>(by rw[h]at hr;cases hr),λj hj=>?_⟩;by_cases hji:j=i
  ·subst hji;exact hy.wpOp hi (by rw[aq hnF];exact⟨hS,H⟩)
  ·have:=Ax hj hji;rw[H.1]at this;cases this
 | succ fuel ih=>
  intro listed a w hfree hr hy hS H;refine⟨λh=>(by rw[h]at hr;cases hr),λj hj=>?_⟩;by_cases hji:j=i
  ·subst hji;exact hy.wpOp hi (by rw[aq hnF];exact⟨hS,H⟩)
  ·have h1:=H.2 j (Ax hj hji);obtain⟨hjun,oj,hoj,hall⟩:=Az.1 hj;have hnot:∀e∈oj.after,Region.binds .any e=true→e.on≠i:=λe he hb heq=>by
    have h1:=hall e he hb;have h0:=(Az.1 hr).1;rw[heq]at h1;rcases pK i listed.size with h'|h'
    ·simp[h']at h0 h1;rw[h0]at h1;cases h1
    ·simp[Ay h']at h1
   have h2:=wpOp_put hoj (hfree j oj hoj hji hjun hnot) (λcs b=>hsel i oi cs b hi) (λcs b=>hsel j oj cs b hoj) hQ hy h1;have hfree':∀k ok,ops[k]? =some ok→k≠i→(listed.setIfInBounds j true).getD k true=false→
     (∀e∈ok.after,Region.binds .any e=true→e.on≠i)→oi.apart ops ok=true:=λk ok hk hki hun hno=>by
    refine hfree k ok hk hki ?_ hno;by_cases hjk:j=k
    ·subst hjk;exact hjun
    ·rw[getD_set_ne true hjk]at hun;exact hun
   refine yc (λa' w' h3=>?_) h2;obtain⟨hy',h3⟩:=h3;by_cases hF:F j=true
   ·rw[aA hF]at h3 ⊢;rw[TJ _ _ (iu hji)]at h3;exact wpAny_first hi hsel hQ fuel (listed.setIfInBounds j true) a' w' hfree' (Ax hr (iu hji)) hy' h3
   ·rw[aq hF]at h3 ⊢;refine⟨h3.1,ih (listed.setIfInBounds j true) a' w' hfree' (Ax hr (iu hji)) hy' h3.1 ?_⟩;rw[TJ _ _ hji];exact h3.2
theorem KT {P:Program}{ops:Array Oper}{Q:Exit→Act→World→Prop}{S:World→Prop}{F F':Nat→Bool}(hF:∀k,F k=true→F' k=true):∀(fuel:Nat) (listed:Array Bool) (a:Act) (w:World),q9 P ops Q S F fuel listed a w→q9 P ops Q S F' fuel listed a w
 |0,_,_,_,h=>h
 | fuel+1,_,_,_,h=>⟨h.1,λi hi=>yc (λa' w' h'=>by
   by_cases h1:F i=true
   ·rw[aA h1]at h';rw[aA (hF i h1)];exact h'
   ·rw[aq h1]at h';by_cases h2:F' i=true
    ·rw[aA h2];exact vS fuel _ a' w' h'.2
    ·rw[aq h2];exact⟨h'.1,KT hF fuel _ a' w' h'.2⟩) (h.2 i hi)⟩
theorem Uj {P:Program}{ops:Array Oper}{Q:Exit→Act→World→Prop}{S:World→Prop}{F:Nat→Bool}{listed:Array Bool}{a:Act}{w:World}(h0:Region.ready .any ops listed=[])(hQ:Q .normal a w):∀fuel,q9 P ops Q S F fuel listed a w
 |0=>⟨h0,hQ⟩
 |fuel+1=>⟨λ_=>hQ,λi hi=>by rw[h0]at hi;cases hi⟩
theorem FK {ops:Array Oper}{listed:Array Bool}:∀(t:PT) (gs:List Nat),pu P ops t false gs listed=true→Region.ready .any ops listed≠[]
 | .nil,gs,h=>by simp[pu]at h
 | .op i q t,gs,h=>by
  intro h0;cases q<;>simp[pu,h0]at h
 | .alt x y,gs,h=>by
  simp only[pu,dj,yF]at h;exact FK x gs h.2.1
theorem kp [lR P]{all:Array Oper}{Q:Ex→Env→ah→Prop}{Q':Exit→Act→World→Prop}{ρ0:Env}{w0:World}(hns:Region.noSelect all=true)(hok:FL n all.toList=true)
  (hQp:∀c a w,¬Q' (.panic c) a w):∀(plan:PT) (root:Bool) (fs:List Nat) (S:ah→Prop) (listed:Array Bool) (ρ:Env) (a:Act) (w:World) (fuel:Nat),pu P all plan root fs listed=true→yG plan≤fuel→Hb all listed→Rel n a ρ→(∀t,Ak t (all.toList.filterMap (·.dst))=false→ρ t=ρ0 t)→dO w0 w→S w.heap→
  Du P all plan S ρ w.heap (Q .nx)→(∀e a' w',JR n ρ0 (all.toList.filterMap (·.dst)) w0 Q e a' w'→Q' e a' w')→
  (root=true→q9 P all Q' (λw=>S w.heap) (λj=>(iH plan).contains j) fuel listed a w)∧
  (root=false→(∀k,(iH plan).contains k=true→fs.contains k=true)→∀i∈Region.ready .any all listed,i∈wV plan→∃fuel',fuel=fuel'+1∧
   wpOp P all Q' i (λa' w'=>if fs.contains i=true then wpAny P .any all Q' fuel' (listed.setIfInBounds i true) a' w' else S w'.heap∧q9 P all Q' (λw=>S w.heap) (λj=>fs.contains j) fuel' (listed.setIfInBounds i true) a' w') a w)
 | .nil,root,fs,S,listed,ρ,a,w,fuel,hp,hf,hcl,hr,hρ,hs,hS,h,hQ=>by
  simp only[pu,dj]at hp;refine⟨λ_=>Uj (by simpa using hp.2) (hQ _ _ _ ⟨ρ,hr,hρ,hs,h⟩) fuel,λh0=>?_⟩;rw[h0]at hp;cases hp.1
 | .alt x y,root,fs,S,listed,ρ,a,w,fuel,hp,hf,hcl,hr,hρ,hs,hS,h,hQ=>by
  simp only[pu,dj]at hp;obtain⟨hp0,hp1,hp2⟩:=hp;rw[zaJ]at h;have hfx:yG x≤fuel:=bB (Nat.le_max_left _ _) hf;have hfy:yG y≤fuel:=bB (Nat.le_max_right _ _) hf;have key:∀gs:List Nat,pu P all x false gs listed=true→pu P all y false gs listed=true→(∀k,(iH x++iH y).contains k=true→gs.contains k=true)→∀i∈Region.ready .any all listed,i∈wV (.alt x y)→∃fuel',fuel=fuel'+1∧
    wpOp P all Q' i (λa' w'=>if gs.contains i=true then wpAny P .any all Q' fuel' (listed.setIfInBounds i true) a' w' else S w'.heap∧q9 P all Q' (λw=>S w.heap) (λj=>gs.contains j) fuel' (listed.setIfInBounds i true) a' w') a w:=by
   intro gs g1 g2 g3 i hi hih;rcases cQ.1 hih with hih|hih
   ·exact(kp hns hok hQp x false gs S listed ρ a w fuel g1 hfx hcl hr hρ hs hS h.1 hQ).2 rfl (λk hk=>g3 k (by simp at hk ⊢;exact .inl hk)) i hi hih
   ·exact(kp hns hok hQp y false gs S listed ρ a w fuel g2 hfy hcl hr hρ hs hS h.2 hQ).2 rfl (λk hk=>g3 k (by simp at hk ⊢;exact .inr hk)) i hi hih
  refine⟨λh0=>?_,λh0 hk=>?_⟩
  ·subst h0;simp only[uq]at hp0 hp1 hp2;have k2:=key _ hp1 hp2 (λk hk=>hk);have hne:=FK x _ hp1;cases fuel with
   |zero=>
    obtain⟨i,hi⟩:=List.exists_mem_of_ne_nil _ hne;have:=Eh.1 hp0 i hi;obtain⟨fuel',h1,_⟩:=k2 i hi (by simpa[wV]using this);cases h1
   | succ fuel=>
    refine⟨λhnone=>absurd hnone hne,λi hi=>?_⟩
    ·have hih:=Eh.1 hp0 i hi;obtain⟨fuel',h1,h2⟩:=k2 i hi (by simpa[wV]using hih);cases h1;exact h2
  ·subst h0;simp only[yF]at hp1 hp2;exact key fs hp1 hp2 (λk hk'=>hk k hk')
 | .op i q plan,root,fs,S,listed,ρ,a,w,fuel,hp,hf,hcl,hr,hρ,hs,hS,h,hQ=>by
  obtain⟨fuel,rfl⟩:∃f,fuel=f+1:=⟨fuel-1,by simp only[yG]at hf;omega⟩
  have hf':yG plan≤fuel:=by simp only[yG]at hf;omega
  simp only[pu,dj]at hp;obtain⟨hp1,hp2⟩:=hp;rw[XR]at h;cases hi:all[i]? with
  |none=>simp[hi]at h
  | some o=>
   simp only[hi]at h;have hd:=ZO (o:=o) all.toList i hok (by simpa using hi);have hρ':∀v t,Ak t (all.toList.filterMap (·.dst))=false→up ρ o.dst v t=ρ0 t:=by
    intro v t ht;rw[←hρ t ht];cases hdst:o.dst with
    |none=>rfl
    | some d=>
     simp only[up];cases hb:Nat.beq t d with
     |false=>rfl
     |true=>
      have htd:=AA hb;subst htd;rw[Ld (List.mem_filterMap.2 ⟨o,vA (i:=i) (by simpa using hi),hdst⟩)]at ht;cases ht
   cases q with
   | r =>
    simp only[dj]at hp1;obtain⟨hroot,⟨hfree,hready⟩,hnext⟩:=hp1;refine⟨λ_=>?_,λh0=>by rw[hroot]at h0;cases h0⟩;have hin:i∈Region.ready .any all listed:=by simpa using hready
    simp only at h;have hall:∀k,(iH plan).contains k=true→¬k=i∧(WP P all i=true∨zbk all k i=true):=by
     intro k hk;have:=Eh.1 hnext k (by simpa using hk);simpa using this
    have hFi:(iH plan).contains i=false:=by
     rw[Jq];intro hc;exact(hall i hc).1 rfl
    cases hl:Db P o.op with
    |false=>
     simp only[hl]at h;obtain⟨v,hv,hK⟩:=h;have ih:=(kp hns hok hQp plan true [] S _ _ _ w fuel hp2 hf' (hcl.step hin) (hr.put hd v) (hρ' v) hs hS hK hQ).1 rfl;refine RS (F:=λj=>(iH plan).contains j) hi (Region.noSelect_spec hns) (λc a w hq=>absurd hq (hQp _ _ _)) hFi ?_ fuel listed a w (Region.free_spec hi hfree) hcl hin (KS hr hS hv) hS ih;intro k hk;rcases(hall k hk).2 with h1|h1
     ·simp[WP,hi,hl]at h1
     ·exact UT h1
    | true=>
     simp only[hl]at h;have h:=za5 h;cases hg:roG P all ρ o w.heap with
     |none=>rw[hg]at h;exact h.elim
     | some r=>
      rw[hg]at h;simp only[vK]at h;split at h
      ·rename_i v;have ih:=(kp hns hok hQp plan true [] S _ _ _ w fuel hp2 hf' (hcl.step hin) (hr.put hd v) (hρ' v) hs hS h hQ).1 rfl;have hyI:=KS (all:=all) (S:=λ_=>True) (v:=v) (h0:=w.heap) hr trivial (λh' _=>by rw[R8 hl h' w.heap,hg]);have hy:Yields P all o v a:=hyI.imp (λ⟨g1,g2⟩=>⟨g1,λw=>g2 w trivial⟩) id;exact PI (F:=λj=>(iH plan).contains j) hi (Region.noSelect_spec hns) (λc a w hq=>absurd hq (hQp _ _ _)) hFi fuel listed a w (Region.free_spec hi hfree) hin hy hS ih
      ·exact h.elim
   | e=>
    simp only[dj,Jt]at hp1;obtain⟨hready,hnext⟩:=hp1;have step:∀gs:List Nat,gs.contains i=false→(∀k,(iH plan).contains k=true→gs.contains k=true)→i∈Region.ready .any all listed→
      wpOp P all Q' i (λa' w'=>if gs.contains i=true then wpAny P .any all Q' fuel (listed.setIfInBounds i true) a' w' else S w'.heap∧q9 P all Q' (λw=>S w.heap) (λj=>gs.contains j) fuel (listed.setIfInBounds i true) a' w') a w:=by
     intro gs hg hsub hin;refine BJ hi hr h λv w' hs' hK=>?_
     refine Eq.mpr (aq (by rw[hg];exact Bool.false_ne_true)) ?_;exact⟨hK.1,KT hsub _ _ _ _ ((kp hns hok hQp plan true [] S _ _ _ w' fuel hp2 hf' (hcl.step hin) (hr.put hd v) (hρ' v) (hs.trans hs') hK.1 hK.2 hQ).1 rfl)⟩
    refine⟨λh0=>?_,λh0 hsub j hj hjh=>?_⟩
    ·subst h0;simp only[uq]at hready hnext;have hready:Region.ready .any all listed=[i]:=by simpa using hready
     refine⟨λh0=>(by rw[h0]at hready;cases hready),λj hj=>?_⟩;obtain rfl:j=i:=by rw[hready]at hj;simpa using hj
     exact step (iH plan) hnext (λk hk=>hk) hj
    ·subst h0;obtain rfl:j=i:=by simpa[wV]using hjh
     simp only[yF]at hnext;exact⟨fuel,rfl,step fs hnext hsub hj⟩
   | f=>
    have step:i∈Region.ready .any all listed→wpOp P all Q' i (λa' w'=>wpAny P .any all Q' fuel (listed.setIfInBounds i true) a' w') a w:=by
     intro hin;refine BJ hi hr h λv w' hs' hK=>?_
     obtain⟨S',hS',hK⟩:=hK;exact vS _ _ _ _ ((kp hns hok hQp plan true [] S' _ _ _ w' fuel hp2 hf' (hcl.step hin) (hr.put hd v) (hρ' v) (hs.trans hs') hS' hK hQ).1 rfl)
    refine⟨λh0=>?_,λh0 hsub j hj hjh=>?_⟩
    ·subst h0;have hready:Region.ready .any all listed=[i]:=by simpa using hp1
     refine⟨λh0=>(by rw[h0]at hready;cases hready),λj hj=>?_⟩;obtain rfl:j=i:=by rw[hready]at hj;simpa using hj
     exact yc (λa' w' h'=>Eq.mpr (aA (by simp[iH])) h') (step hj)
    ·obtain rfl:j=i:=by simpa[wV]using hjh
     exact⟨fuel,rfl,yc (λa' w' h'=>Eq.mpr (aA (hsub j (by simp[iH]))) h') (step hj)⟩
   | n=>
    have step:i∈Region.ready .any all listed→wpOp P all Q' i (λa' w'=>wpAny P .any all Q' fuel (listed.setIfInBounds i true) a' w') a w:=by
     intro hin;refine BJ hi hr h λv w' hs' hK=>?_
     exact vS _ _ _ _ ((kp hns hok hQp plan true [] (λ_=>True) _ _ _ w' fuel hp2 hf' (hcl.step hin) (hr.put hd v) (hρ' v) (hs.trans hs') trivial hK hQ).1 rfl)
    refine⟨λh0=>?_,λh0 hsub j hj hjh=>?_⟩
    ·subst h0;have hready:Region.ready .any all listed=[i]:=by simpa using hp1
     refine⟨λh0=>(by rw[h0]at hready;cases hready),λj hj=>?_⟩;obtain rfl:j=i:=by rw[hready]at hj;simpa using hj
     exact yc (λa' w' h'=>Eq.mpr (aA (by simp[iH])) h') (step hj)
    ·obtain rfl:j=i:=by simpa[wV]using hjh
     exact⟨fuel,rfl,yc (λa' w' h'=>Eq.mpr (aA (hsub j (by simp[iH]))) h') (step hj)⟩
theorem xq {ws:Nat}:∀{l:List Nat},DN ws l=true→∀{t:Nat},qW ws t=false→Ak t l=false
 | [],_,_,_=>rfl
 | c::l,h,t,ht=>by
  simp only[DN,dj]at h;simp only[Ak];cases hb:Nat.beq t c with
  |true=>
   have:=AA hb;subst this;rw[h.1]at ht;cases ht
  |false=>exact xq h.2 ht
theorem GF {ρ ρ':Env}{ws:Nat}{cs:List Nat}(h:∀t,qW ws t=false→ρ' t=ρ t):OH ρ ρ' ws cs (cs.map ρ')=ρ':=by
 funext t
 have key:∀(cs:List Nat) (k:Nat),match QX t k cs with|some i=>k≤i∧cs[i-k]? =some t|none=>True:=by
  intro cs;induction cs with
  |nil=>intro k;simp[QX]
  | cons c cs ih=>
   intro k;simp only[QX];cases hb:Nat.beq t c with
   |true=>have:=AA hb;subst this;simp
   | false=>
    simp only[yF];have:=ih (k+1);split
    ·rename_i i hi;rw[hi]at this;refine⟨by omega,?_⟩;rw[show i-k=(i-(k+1))+1 from by omega];simpa using this.2
    ·trivial
 have k0:=key cs 0;unfold OH;cases hp:QX t 0 cs with
 |some i=>
  rw[hp]at k0;simp only;have:cs[i]? =some t:=by simpa using k0.2
  unfold ix;rw[dA,yb,this];rfl
 |none=>
  simp only;cases hm:qW ws t with
  |true=>rfl
  |false=>exact(h t hm).symm
theorem V6 [lR P](hm:P.follows .mixedOrders=true):∀(c:Code) (an:Ann) (ρ:Env) (a:Act) (w:World) (Q:Ex→Env→ah→Prop),hG P n c an=true→Rel n a ρ→RL P c an ρ w.heap Q→
  c.wp P (JR n ρ (io c) w Q) a w:=by
 intro c;induction c with
 |skip=>intro an ρ a w Q _ hr h;exact wp_skip ⟨ρ,hr,λ_ _=>rfl,dO.refl w,h⟩
 |exit id=>intro an ρ a w Q _ hr h;exact wp_exit ⟨ρ,hr,λ_ _=>rfl,dO.refl w,h⟩
 |ret=>intro an ρ a w Q _ hr h;exact wp_ret ⟨ρ,hr,λ_ _=>rfl,dO.refl w,h⟩
 | region id ops draw=>
  intro an ρ a w Q hok hr h;have hops:FL n ops.toList=true:=by simp only[hG,dj]at hok;exact hok.1
  have seqCase:zcy P ops ops.toList ρ w.heap (Q .nx)→(Code.region id ops false).wp P (JR n ρ (io (.region id ops false)) w Q) a w:=by
   intro h;refine wp_region ?_;have:=Ps (Q:=Q) (Q':=JR n ρ (ops.toList.filterMap (·.dst)) w Q) ops.toList 0 ρ a w (by simp) hops hr h (λ_ _ _ h=>h);rw[TI];have e:wpOps P ops (JR n ρ (ops.toList.filterMap (·.dst)) w Q) (List.range' 0 ops.size) a w:=by simpa using this
   exact e
  have roCase:Region.lexB .any ops=true→Zh P ops ops.toList ρ w.heap (Q .nx)→(Code.region id ops true).wp P (JR n ρ (io (.region id ops true)) w Q) a w:=by
   intro hl h;refine wp_region_quiet (C:=λw'=>dO w w'∧w'.heap=w.heap) hm hl ⟨MX w,rfl⟩ ?_;refine Lr (C:=λw'=>dO w w'∧w'.heap=w.heap) (λw' h=>h.2) ops.toList ρ a hops hr h λa' ρ2 g1 g2 g3 w' hw'=>?_
   exact⟨ρ2,g1,g2,hw'.1,by simp only[hw'.2];exact g3⟩
  have other:(∀plan,an≠ .d plan)→(Code.region id ops draw).wp P (JR n ρ (io (.region id ops draw)) w Q) a w:=by
   intro hne;cases draw with
   |false=>cases an<;>first|exact absurd rfl (hne _)|exact seqCase h
   |true=>cases an<;>first|exact absurd rfl (hne _)|exact roCase (by simp only[hG,dj]at hok;exact hok.2) h
  by_cases hd:∃plan,an=.d plan
  ·obtain⟨plan,rfl⟩:=hd;simp only[hG,dj]at hok;obtain⟨_,⟨⟨h1,h2⟩,h3⟩,h4⟩:=hok;subst h1;obtain⟨S,hS,h⟩:=h;refine wp_region_any hm ?_;have:=kp (P:=P) (Q:=Q) (Q':=JR n ρ (ops.toList.filterMap (·.dst)) w Q) (ρ0:=ρ) (w0:=w) h2 hops (λc a w hq=>by obtain⟨_,_,_,_,hf⟩:=hq;exact hf)
    plan true [] S (Array.replicate ops.size false) ρ a {w with drawn:=w.drawn+1} ops.size h4 (Nat.le_of_ble_eq_true h3) (λk o hk hl=>by simp[YK]at hl;split at hl<;>simp at hl) hr (λ_ _=>rfl) (MX w) hS h (λ_ _ _ h=>h)
   exact vS _ _ _ _ (this.1 rfl)
  ·exact other (λplan he=>hd ⟨plan,he⟩)
 | seq x y ihx ihy=>
  intro an ρ a w Q hok hr h;have lift:∀{ρ1:Env} {w1:World} (_:∀t,Ak t (io x)=false→ρ1 t=ρ t) (_:dO w w1) (e:Exit) (a2:Act) (w2:World),JR n ρ1 (io y) w1 Q e a2 w2→JR n ρ (io (.seq x y)) w Q e a2 w2:=by
   intro ρ1 w1 h1 h2 e a2 w2 ⟨ρ2,g1,g2,g3,g4⟩;refine⟨ρ2,g1,λt ht=>?_,h2.trans g3,g4⟩;simp only[io,tH,Mq]at ht;rw[g2 t ht.2,h1 t ht.1]
  have liftx:∀(e:Exit) (a2:Act) (w2:World),JR n ρ (io x) w Q e a2 w2→JR n ρ (io (.seq x y)) w Q e a2 w2:=by
   intro e a2 w2 ⟨ρ2,g1,g2,g3,g4⟩;refine⟨ρ2,g1,λt ht=>?_,g3,g4⟩;simp only[io,tH,Mq]at ht;exact g2 t ht.1
  cases an with
  |s p q=>
   simp only[hG,dj]at hok;refine wp_seq (si (ihx p ρ a w _ hok.1 hr h) ?_);intro e a1 w1 ⟨ρ1,g1,g2,g3,g4⟩;cases e with
   |normal=>exact si (ihy q ρ1 a1 w1 Q hok.2 g1 g4) (lift g2 g3)
   |exit id=>exact liftx (.exit id) a1 w1 ⟨ρ1,g1,g2,g3,g4⟩
   |ret=>exact liftx .ret a1 w1 ⟨ρ1,g1,g2,g3,g4⟩
   |_=>exact g4.elim
  | j ws cs p q=>
   simp only[hG,dj]at hok;obtain⟨hws,hok⟩:=hok;obtain⟨J,h1,h2⟩:=h;refine wp_seq (si (ihx p ρ a w _ hok.1 hr h1) ?_);intro e a1 w1 ⟨ρ1,g1,g2,g3,g4⟩;cases e with
   |normal=>
    have this:RL P y q (OH ρ ρ1 ws cs (cs.map ρ1)) w1.heap Q:=h2 (cs.map ρ1) ρ1 w1.heap g4;rw[GF (λt ht=>g2 t (xq hws ht))]at this;exact si (ihy q ρ1 a1 w1 Q hok.2 g1 this) (lift g2 g3)
   |exit id=>exact liftx (.exit id) a1 w1 ⟨ρ1,g1,g2,g3,g4⟩
   |ret=>exact liftx .ret a1 w1 ⟨ρ1,g1,g2,g3,g4⟩
   |_=>exact g4.elim
  |_=>simp[hG]at hok
 | cond c x y ihx ihy=>
  intro an ρ a w Q hok hr h;cases an with
  | s p q=>
   simp only[hG,dj]at hok;have h:aE (ev ρ c) (RL P x p ρ w.heap Q) (RL P y q ρ w.heap Q):=h;unfold aE at h;split at h
   ·rename_i b hb;refine wp_cond (t:=b) (by rw[hr.eval];exact hb) ?_;cases b with
    |true=>
     refine si (ihx p ρ a w Q hok.1 hr h) ?_;intro e a2 w2 ⟨ρ2,g1,g2,g3,g4⟩;refine⟨ρ2,g1,λt ht=>?_,g3,g4⟩;simp only[io,tH,Mq]at ht;exact g2 t ht.1
    |false=>
     refine si (ihy q ρ a w Q hok.2 hr h) ?_;intro e a2 w2 ⟨ρ2,g1,g2,g3,g4⟩;refine⟨ρ2,g1,λt ht=>?_,g3,g4⟩;simp only[io,tH,Mq]at ht;exact g2 t ht.2
   ·exact h.elim
  |_=>simp[hG]at hok
 | block id x ih=>
  intro an ρ a w Q hok hr h;have plain:∀an',hG P n x an'=true→RL P x an' ρ w.heap (λe ρ h=>match e with
   | .nx=>Q .nx ρ h
   | .br n=>bif Nat.beq n id then Q .nx ρ h else Q (.br n) ρ h
   | .rt=>Q .rt ρ h)→(Code.block id x).wp P (JR n ρ (io (.block id x)) w Q) a w:=by
   intro an' hok h;refine wp_block (si (ih an' ρ a w _ hok hr h) ?_);intro e a1 w1 ⟨ρ1,g1,g2,g3,g4⟩;cases e with
   |normal=>exact⟨ρ1,g1,g2,g3,g4⟩
   | exit id'=>
    simp only[Exit.inBlock];simp only at g4;by_cases hid:id'=id
    ·subst hid;rw[aA rfl];simp only[Nat.beq_refl]at g4;exact⟨ρ1,g1,g2,g3,g4⟩
    ·rw[aq hid];have hb:Nat.beq id' id=false:=by rw[Jq];intro hb;exact hid (AA hb)
     simp only[hb]at g4;exact⟨ρ1,g1,g2,g3,g4⟩
   |ret=>exact⟨ρ1,g1,g2,g3,g4⟩
   |_=>exact g4.elim
  cases an with
  | m ws cs p=>
   simp only[hG,dj]at hok;obtain⟨hws,hok⟩:=hok;obtain⟨J,h1,h2⟩:=h;refine wp_block (si (ih p ρ a w _ hok hr h1) ?_);intro e a1 w1 ⟨ρ1,g1,g2,g3,g4⟩;have meet:J (cs.map ρ1) w1.heap→Q .nx ρ1 w1.heap:=by
    intro hJ;have this:Q .nx (OH ρ ρ1 ws cs (cs.map ρ1)) w1.heap:=h2 (cs.map ρ1) ρ1 w1.heap hJ
    rwa [GF (λt ht=>g2 t (xq hws ht))]at this
   cases e with
   |normal=>exact⟨ρ1,g1,g2,g3,meet g4⟩
   | exit id'=>
    simp only[Exit.inBlock];simp only at g4;by_cases hid:id'=id
    ·subst hid;rw[aA rfl];simp only[Nat.beq_refl]at g4;exact⟨ρ1,g1,g2,g3,meet g4⟩
    ·rw[aq hid];have hb:Nat.beq id' id=false:=by rw[Jq];intro hb;exact hid (AA hb)
     simp only[hb]at g4;exact⟨ρ1,g1,g2,g3,g4⟩
   |ret=>exact⟨ρ1,g1,g2,g3,g4⟩
   |_=>exact g4.elim
  |_=>exact plain _ hok h
 | loop x ih=>
  intro an ρ a w Q hok hr h;cases an with
  | l ws cs p=>
   simp only[hG,dj]at hok;obtain⟨hws,hok⟩:=hok;obtain⟨I,m,h0,h1⟩:=h
   let val:Act→Nat→Value:=λa t=>a.tmps.getD t undef
   refine wp_loop (λa' w'=>Rel n a' (val a')∧(∀t,Ak t (io x)=false→val a' t=ρ t)∧dO w w'∧I (cs.map (val a')) w'.heap) (λa' w'=>m (cs.map (val a')) w'.heap) ?_ ?_
   ·have e:val a=ρ:=funext hr.2.2;rw[e];exact⟨hr,λ_ _=>rfl,dO.refl w,h0⟩
   ·intro a' w' ⟨i1,i2,i3,i4⟩;have hb:=h1 (cs.map (val a')) (val a') w'.heap i4;simp only at hb;rw[GF (λt ht=>i2 t (xq hws ht))]at hb;refine si (ih p (val a') a' w' _ hok i1 hb) ?_;intro e a2 w2 ⟨ρ2,g1,g2,g3,g4⟩;have e2:val a2=ρ2:=funext g1.2.2;cases e with
    |normal=>
     simp only[Exit.then];rw[e2];exact⟨⟨g1,λt ht=>by rw[g2 t ht,i2 t ht],i3.trans g3,g4.1⟩,g4.2⟩
    |exit id=>exact⟨ρ2,g1,λt ht=>by rw[g2 t ht,i2 t ht],i3.trans g3,g4⟩
    |ret=>exact⟨ρ2,g1,λt ht=>by rw[g2 t ht,i2 t ht],i3.trans g3,g4⟩
    |_=>exact g4.elim
  |_=>simp[hG]at hok
 |_=>intro an ρ a w Q hok hr h;simp[hG]at hok
end
noncomputable def Lv (P:Program)(rs:List ResultVar):List Value→Env→ah→(Value→ah→Prop)→Prop:=
 List.rec (motive:=λ_=>List Value→Env→ah→(Value→ah→Prop)→Prop)
  (λacc _ h R=>R (match acc with| [v]=>v|l=>.tuple l.reverse.toArray) h)
  (λr _ ih acc ρ h R=>match r with
   | .tmp t=>ih (ρ t::acc) ρ h R
   | .cell a t=>match A7 P t with
    |some false=>vK (ldV h (ρ a)) λv=>ih (v::acc) ρ h R
    |some true=>match fK P t with
     |some n=>vK (aR n h (ρ a)) λv=>ih (v::acc) ρ h R
     |none=>False
    |none=>False) rs
theorem za7 {P:Program}{acc:List Value}{ρ:Env}{h:ah}{R:Value→ah→Prop}:Lv P [] acc ρ h R=R (match acc with| [v]=>v|l=>.tuple l.reverse.toArray) h:=rfl
theorem za6 {P:Program}{t:Tmp}{rs:List ResultVar}{acc:List Value}{ρ:Env}{h:ah}{R:Value→ah→Prop}:Lv P (.tmp t::rs) acc ρ h R=Lv P rs (ρ t::acc) ρ h R:=rfl
theorem ZH {P:Program}{a:Tmp}{t:TypeId}{rs:List ResultVar}{acc:List Value}{ρ:Env}{h:ah}{R:Value→ah→Prop}:Lv P (.cell a t::rs) acc ρ h R=match A7 P t with
  |some false=>vK (ldV h (ρ a)) λv=>Lv P rs (v::acc) ρ h R
  |some true=>match fK P t with
   |some n=>vK (aR n h (ρ a)) λv=>Lv P rs (v::acc) ρ h R
   |none=>False
  |none=>False:=rfl
def zbW (args:List Value):Env:=λt=>args.getD t undef
noncomputable def zer (P:Program)(c:Code)(an:Ann)(rs:List ResultVar)(args:List Value)(h:ah)(R:Value→ah→Prop):Prop:=
 RL P c an (zbW args) h λe ρ h=>match e with
  | .nx=>Lv P rs [] ρ h R
  | .rt=>Lv P rs [] ρ h R
  | .br _=>False
theorem CB {P:Program} {w:World} {R:Value→ah→Prop} {tmps:Array Value}:∀(rs:List ResultVar) (acc:List Value),Lv P rs acc (λt=>tmps.getD t undef) w.heap R→
  ∃l,(rs.mapM (λ| .tmp t=>pure (tmps.getD t undef)| .cell a t=>do loadVar t (←asAddr (tmps.getD a undef)):ResultVar→Sem Value)).run P w=.ok l w∧R (match l.reverse++acc with| [v]=>v|l=>.tuple l.reverse.toArray) w.heap
 | [],acc,h=>⟨[],rfl,by rw[za7]at h;simpa using h⟩
 | .tmp t::rs,acc,h=>by
  rw[za6]at h;obtain⟨l,h1,h2⟩:=CB rs (tmps.getD t undef::acc) h;refine⟨tmps.getD t undef::l,?_,by simpa using h2⟩;simp only[Jr,bZ,cT,bP,h1]
 | .cell a t::rs,acc,h=>by
  rw[ZH]at h;cases hta:A7 P t with
  |none=>simp[hta]at h
  | some b=>
   simp only[hta]at h;have key:∀v,(∃ad,tmps.getD a undef=.pointer (some ad)∧(loadVar t ad).run P w=.ok v w)→Lv P rs (v::acc) (λt=>tmps.getD t undef) w.heap R→∃l,((ResultVar.cell a t::rs).mapM (λ| .tmp t=>pure (tmps.getD t undef)| .cell a t=>do loadVar t (←asAddr (tmps.getD a undef)):ResultVar→Sem Value)).run P w=.ok l w∧R (match l.reverse++acc with| [v]=>v|l=>.tuple l.reverse.toArray) w.heap:=by
    intro v ⟨ad,hp,hl⟩ h;obtain⟨l,h1,h2⟩:=CB rs (v::acc) h;refine⟨v::l,?_,by simpa using h2⟩;have has:(asAddr (tmps.getD a undef)).run P w=.ok ad w:=by rw[hp];rfl
    simp only[Jr,bZ,cT,bP,has,hl,h1]
   cases b with
   | false=>
    simp only at h;unfold vK at h;split at h
    ·rename_i v hv;refine key v ?_ h;unfold ldV at hv;split at hv
     ·rename_i ad hp;exact⟨ad,hp,Bs hta hv⟩
     ·cases hv
    ·exact h.elim
   | true=>
    simp only at h;cases hs:fK P t with
    |none=>simp[hs]at h
    | some n=>
     simp only[hs]at h;unfold vK at h;split at h
     ·rename_i v hv;refine key v ?_ h;unfold aR at hv;split at hv
      ·rename_i ad hp;cases hl:fj w.heap ad 0 n with
       |none=>simp[hl]at hv
       |some l=>
        simp only[hl,cR,cK]at hv;subst hv;exact⟨ad,hp,Bt hta hs hl⟩
      ·cases hv
     ·exact h.elim
theorem WG {P:Program}{ρ:Env}{w:World}{R:Value→ah→Prop}{fn:Func}{tmps:Array Value}(ht:∀t,tmps.getD t undef=ρ t)(h:Lv P fn.results.toList [] ρ w.heap R):
  ∃v,(results fn tmps).run P w=.ok v w∧R v w.heap:=by
 obtain rfl:ρ=λt=>tmps.getD t undef:=funext λt=>(ht t).symm
 obtain⟨l,h1,h2⟩:=CB _ [] h;have e:(fn.results.mapM (λ| .tmp t=>pure (tmps.getD t undef)| .cell a t=>do loadVar t (←asAddr (tmps.getD a undef)):ResultVar→Sem Value)).run P w=.ok l.toArray w:=by
  rw[YM,Mt,h1];rfl
 have hres:results fn tmps=(do
  let vs←fn.results.mapM (λ| .tmp t=>pure (tmps.getD t undef)| .cell a t=>do loadVar t (←asAddr (tmps.getD a undef)):ResultVar→Sem Value)
  pure (if h:vs.size=1 then vs[0]else .tuple vs)):=rfl
 rw[hres];simp only[bZ];rw[e];simp only[bP,cT];refine⟨_,rfl,?_⟩;cases l with
 |nil=>simpa using h2
 | cons v l=>
  cases l with
  |nil=>simpa using h2
  | cons u l=>
   have:¬((v::u::l).toArray.size=1):=by simp
   rw[dif_neg this];simp only[fN]at h2;split at h2
   ·rename_i hh;have:=congrArg List.length hh;simp at this
   ·simpa using h2
theorem zbV {P:Program}[lR P](hm:P.follows .mixedOrders=true){f:FuncId}{fn:Func}{c:Code}{an:Ann}(hf:P.funcs[f]? =some fn)(hb:fn.body=some c)(hc:tE P f=true)
  (hok:hG P fn.ntmps c an=true) {args:Array Value} (ha:Nat.ble args.size fn.ntmps=true) {h:ah} {R:Value→ah→Prop} (H:zer P c an fn.results.toList args.toList h R):ag P f args h R:=by
 refine ag.ofCalls hc λw hw=>?_
 subst hw;have ha':args.size≤fn.ntmps:=by simpa using ha
 have hr:Rel fn.ntmps {tmps:=args++Array.replicate (fn.ntmps-args.size) undef,defers:=[]} (zbW args.toList):=by
  refine⟨by simp;omega,rfl,λt=>?_⟩;simp only[zbW,TL,dA,Array.getElem?_append,vB];split
  ·rfl
  ·rw[YK,Ay (by omega)];split<;>rfl
 refine calls_of_wp hf hb (si (V6 hm c an _ _ w _ hok hr H) ?_);intro e a' w' ⟨ρ2,g1,_,g3,g4⟩;have fin:Lv P fn.results.toList [] ρ2 w'.heap R→a'.defers=[]∧∃v,(results fn a'.tmps).run P w'=.ok v w'∧∃u,Ending.returned v=.returned u∧dO w w'∧R u w'.heap:=by
  intro hret;obtain⟨v,h1,h2⟩:=WG g1.2.2 hret;exact⟨g1.2.1,v,h1,v,rfl,g3,h2⟩
 cases e with
 |normal=>exact fin g4
 |ret=>exact fin g4
 |exit id=>exact g4.elim
 |_=>exact g4.elim
def fkB (P:Program)(f:FuncId)(fn:Func)(an:Ann)(n:Nat):Bool:=P.follows .mixedOrders&&(fn.body.isSome&&(tE P f&&(hG P fn.ntmps (fn.body.getD .skip) an&&Nat.ble n fn.ntmps)))
theorem fk {P:Program}[lR P](fn:Func)(an:Ann){f:FuncId}{args:Array Value}{h:ah}{R:Value→ah→Prop}{X:Prop}(H:X)
  (hf:P.funcs[f]? =some fn:=by kernel_rfl) (hb:fkB P f fn an args.size=true:=by kernel_rfl) (e:X=zer P (fn.body.getD .skip) an fn.results.toList args.toList h R:=by kernel_rfl):ag P f args h R:=by
 unfold fkB at hb;simp only[dj]at hb;obtain⟨h1,h2,h3,h4,h5⟩:=hb;obtain⟨c,hc⟩:=Option.isSome_iff_exists.1 h2;rw[hc,Option.getD_some]at h4 e;exact zbV h1 hf hc h3 h4 h5 (e.mp H)
end
end Go.Crisp
namespace Go.Crisp
open Go
theorem aj (v:Value)(K:Value→Prop):vK (some v) K=K v:=cW rfl rfl
theorem JW (r:Option (Array Value))(c:Array Value)(h:r=some c)(K:Value→Prop):vK (r.map .agg) K=K (.agg c):=by rw[h];rfl
theorem iC (x y:Prop):aE (.bool true) x y=x:=cW rfl rfl
theorem cA (x y:Prop):aE (.bool false) x y=y:=cW rfl rfl
theorem iK {b:Bool}{x y:Prop}(h1:b=true→x)(A:b=false→y):aE (.bool b) x y:=by
 cases b
 ·exact A rfl
 ·exact h1 rfl
theorem ao {p:Prop}[Decidable p]{x y:Prop}(h1:p→x)(A:¬p→y):aE (.bool (decide p)) x y:=
 iK (λh=>h1 (Aw h)) (λh=>A (of_decide_eq_false h))
theorem YU (r:Option Value):gV (.bool true) true r=r:=cW rfl rfl
theorem jY (r:Option Value):gV (.bool false) false r=r:=cW rfl rfl
theorem gV_tf (r:Option Value):gV (.bool true) false r=some undef:=cW rfl rfl
theorem zem (r:Option Value):gV (.bool false) true r=some undef:=cW rfl rfl
theorem zeM (w:Bool)(r:Option Value):gV undef w r=some undef:=cW rfl rfl
theorem zdu (m:(Value→ah→Prop)→Prop)(h:ah)(K:Value→ah→Prop):gK (.bool true) true m h K=m K:=cW rfl rfl
theorem tO (m:(Value→ah→Prop)→Prop)(h:ah)(K:Value→ah→Prop):gK (.bool false) false m h K=m K:=cW rfl rfl
theorem gK_tf (m:(Value→ah→Prop)→Prop)(h:ah)(K:Value→ah→Prop):gK (.bool true) false m h K=K undef h:=cW rfl rfl
theorem gK_ft (m:(Value→ah→Prop)→Prop)(h:ah)(K:Value→ah→Prop):gK (.bool false) true m h K=K undef h:=cW rfl rfl
theorem zeS (w:Bool)(m:(Value→ah→Prop)→Prop)(h:ah)(K:Value→ah→Prop):gK undef w m h K=K undef h:=cW rfl rfl
theorem Ng (x y:Value):aF (.bool true) x y=some x:=cW rfl rfl
theorem kn (x y:Value):aF (.bool false) x y=some y:=cW rfl rfl
theorem iz (a:Value)(l:List Value):ix (a::l) 0=a:=cW rfl rfl
theorem zJ (a b:Value)(l:List Value):ix (a::b::l) 1=b:=cW rfl rfl
theorem zdj (a b c:Value)(l:List Value):ix (a::b::c::l) 2=c:=cW rfl rfl
theorem zeK (a b c d:Value)(l:List Value):ix (a::b::c::d::l) 3=d:=cW rfl rfl
theorem ix_4 (a b c d e:Value)(l:List Value):ix (a::b::c::d::e::l) 4=e:=cW rfl rfl
theorem ix_5 (a b c d e f:Value)(l:List Value):ix (a::b::c::d::e::f::l) 5=f:=cW rfl rfl
theorem dC (e:EK)(k:IntKind)(a b:Int):ak e .add (.int k a) (.int k b)=some (.int k (k.wrap (a+b))):=by simp[ak,JE]
theorem iL (e:EK)(k:IntKind)(a b:Int):ak e .sub (.int k a) (.int k b)=some (.int k (k.wrap (a-b))):=by simp[ak,JE]
theorem mV (e:EK)(k:IntKind)(a b:Int):ak e .mul (.int k a) (.int k b)=some (.int k (k.wrap (a*b))):=by simp[ak,JE]
theorem mU (e:EK)(k:IntKind)(a b:Int)(h:b≠0):ak e .quo (.int k a) (.int k b)=some (.int k (k.wrap (a.tdiv b))):=by simp[ak,JE,h]
theorem em (e:EK)(k:IntKind)(a b:Int)(h:b≠0):ak e .rem (.int k a) (.int k b)=some (.int k (a.tmod b)):=by simp[ak,JE,h]
theorem cC (e:EK)(k:IntKind)(a b:Int):ak e .lss (.int k a) (.int k b)=some (.bool (decide (a<b))):=by simp[ak,JE]
theorem Pw (e:EK)(k:IntKind)(a b:Int):ak e .leq (.int k a) (.int k b)=some (.bool (decide (a≤b))):=by simp[ak,JE]
theorem mW (e:EK)(k:IntKind)(a b:Int):ak e .gtr (.int k a) (.int k b)=some (.bool (decide (b<a))):=by simp[ak,JE]
theorem Px (e:EK)(k:IntKind)(a b:Int):ak e .geq (.int k a) (.int k b)=some (.bool (decide (b≤a))):=by simp[ak,JE]
theorem mX (e:EK)(k:IntKind)(a b:Int):ak e .eql (.int k a) (.int k b)=some (.bool (decide (a=b))):=by
 simp[ak,JE];rw[Bool.eq_iff_iff];simp
theorem pW (e:EK)(k:IntKind)(a b:Int):ak e .neq (.int k a) (.int k b)=some (.bool (!decide (a=b))):=by
 simp[ak,JE];rw[Bool.eq_iff_iff];simp
theorem zcC (a b:Bool):ak .b .eql (.bool a) (.bool b)=some (.bool (a==b)):=cW rfl rfl
theorem zcB (a b:Bool):ak .b .neq (.bool a) (.bool b)=some (.bool !(a==b)):=cW rfl rfl
theorem X0 (b:Bool):unV .not (.bool b)=some (.bool !b):=cW rfl rfl
theorem zcP (k:IntKind)(a:Int):unV .neg (.int k a)=some (.int k (k.wrap (0-a))):=cW rfl rfl
theorem Dj (k k':IntKind)(a:Int):gP k (.int k' a)=some (.int k (k.wrap a)):=cW rfl rfl
theorem Oi (k:IntKind)(a b:Int):kw (.int k a) (.int k b)=some (.int k (max a b)):=by
 simp only[kw,cK,Value.int.injEq,Av];split<;>omega
theorem Og (k:IntKind)(a b:Int):tG (.int k a) (.int k b)=some (.int k (min a b)):=by
 simp only[tG,cK,Value.int.injEq,Av];split<;>omega
theorem w64 {n:Int}(h1: -9223372036854775808≤n)(A:n≤9223372036854775807):IntKind.i64.wrap n=n:=by
 show(if(true&&decide (n%(2^64:Int)≥(2^63:Int)))=true then n%(2^64:Int)-(2^64:Int)else n%(2^64:Int))=n;split
 ·rename_i hh;simp only[xZ,dd]at hh;omega
 ·rename_i hh;simp only[xZ,dd]at hh;omega
theorem wu16 {n:Int}(h1:0≤n)(A:n≤65535):IntKind.u16.wrap n=n:=by
 simp only[IntKind.wrap,IntKind.bits,IntKind.signed];simp;omega
theorem wu64 {n:Int}(h1:0≤n)(A:n≤18446744073709551615):IntKind.u64.wrap n=n:=by
 simp only[IntKind.wrap,IntKind.bits,IntKind.signed];simp;omega
theorem Ej (a:Option Addr)(n c:Nat):aC (.slice a n c)=some (af n):=cW rfl rfl
theorem Z4 (s:ByteArray):Ky (.string s)=some (af s.size):=cW rfl rfl
theorem zeY (a:Value)(l:List Value):aP (.tuple ⟨a::l⟩) 0=some a:=cW rfl rfl
theorem zeX (a b:Value)(l:List Value):aP (.tuple ⟨a::b::l⟩) 1=some b:=cW rfl rfl
theorem zeW (a b c:Value)(l:List Value):aP (.tuple ⟨a::b::c::l⟩) 2=some c:=cW rfl rfl
theorem zeV (a b c d:Value)(l:List Value):aP (.tuple ⟨a::b::c::d::l⟩) 3=some d:=cW rfl rfl
theorem zbp (a:Addr):aT (.pointer (some a))=some (.pointer (some a)):=cW rfl rfl
theorem zeT (b o:Nat):aB 0 (.pointer (some ⟨b,o,none⟩))=some (.pointer (some ⟨b,o,none⟩)):=cW rfl rfl
theorem nD (b o n:Nat):(⟨b,o,none⟩:Addr).add n=⟨b,o+n,none⟩:=by
 unfold Addr.add;split<;>simp_all
theorem Vu (n b o:Nat):aB n (.pointer (some ⟨b,o,none⟩))=some (.pointer (some ⟨b,o+n,none⟩)):=by
 show some (Value.pointer (some ((⟨b,o,none⟩:Addr).add n)))=_;rw[nD]
theorem mf (h:ah)(a:Addr):ldV h (.pointer (some a))=aH h a:=cW rfl rfl
theorem mS {s b o len cap:Nat}{k:IntKind}{i:Nat}(hi:i<len):bu s (.slice (some ⟨b,o,none⟩) len cap) (.int k (i:Int))=some (.pointer (some ⟨b,o+i*s,none⟩)):=by
 show(if 0≤(i:Int)∧(i:Int)<(len:Int)then some (Value.pointer (some ((⟨b,o,none⟩:Addr).add ((i:Int).toNat*s))))else none)=_;rw[aA ae,nD,dW]
theorem am {h:ah}{b o:Nat}{c:Array Value}{t:TypeId}{f:Nat×Nat}(A:h[b]? =some (.cells c t f)):aH h ⟨b,o,none⟩=c[o]? :=by
 unfold aH;simp[A]
theorem zbe {h:ah}{o:Obj}{b:Nat}(A:b<h.size):(h.push o)[b]? =h[b]? :=by
 rw[Array.getElem?_push,aq ae]
theorem tm {h:ah}{o:Obj}:(h.push o)[h.size]? =some o:=by simp
def Ext (h h':ah):Prop:=h.size≤h'.size∧∀b,b<h.size→h'[b]? =h[b]?
theorem Ext.refl (h:ah):Ext h h:=⟨cf _,λ_ _=>rfl⟩
theorem Ext.trans {a b c:ah}(h:Ext a b)(k:Ext b c):Ext a c:=⟨bB h.1 k.1,λi hi=>(k.2 i (ce hi h.1)).trans (h.2 i hi)⟩
theorem Ext.push (h:ah)(o:Obj):Ext h (h.push o):=⟨by simp,λb A=>zbe A⟩
theorem Ext.cell {h h':ah}(e:Ext h h'){a:Addr}{v:Value}(hc:aH h a=some v):aH h' a=some v:=by
 unfold aH at*;rcases pK a.block h.size with A|A
 ·rw[e.2 _ A];exact hc
 ·rw[Ay A]at hc;cases hc
theorem zaU {r A:Option Value}{K:Value→Prop}(h:r=A):vK r K=vK A K:=by rw[h]
theorem Xf {c c':Value}{x y:Prop}(h:c=c'):aE c x y=aE c' x y:=by rw[h]
theorem Wm {P:Program}{f:FuncId}{args A:Array Value}{h h':ah}{K:Value→ah→Prop}(F:args=A)(hh:h=h'):ag P f args h K=ag P f A h' K:=by rw[F,hh]
theorem Vj {a A:List Value}{h h':ah}{body:List Value→Env→ah→(List Value→ah→Prop)→Prop}(F:a=A)(hh:h=h'):bA a h body=bA A h' body:=by rw[F,hh]
theorem zbP {g A:Value}{w:Bool}{m:(Value→ah→Prop)→Prop}{h:ah}{K:Value→ah→Prop}(F:g=A):gK g w m h K=gK A w m h K:=by rw[F]
theorem W0 {c c':Array Value}{t:TypeId}{h:ah}{K:Value→ah→Prop}(hc:c=c'):bh c t h K=bh c' t h K:=by rw[hc]
theorem ZB {n:Nat}{x F v A:Value}{h:ah}{K:Value→ah→Prop}(H:x=F)(G:v=A):stK n x v h K=stK n F A h K:=by rw[H,G]
theorem WF {c:Array Value}{e:TypeId}{n:Nat}{l A:List (Nat×Nat×Value)}{h:ah}{K:Value→ah→Prop}(F:l=A):du c e n l h K=du c e n A h K:=by rw[F]
theorem ZV {z:Value}{e:TypeId}{s b:Nat}{l A c c':Value}{h:ah}{K:Value→ah→Prop}(F:l=A)(hc:c=c'):mkK z e s b l c h K=mkK z e s b A c' h K:=by rw[F,hc]
theorem XT {z:Value}{e:TypeId}{s b:Nat}{l A c c':Value}{h:ah}{K:Value→ah→Prop}(F:l=A)(hc:c=c'):dy z e s b l c h K=dy z e s b A c' h K:=by rw[F,hc]
theorem Xw {s:Nat}{l A c c':Value}{h:ah}{K:Value→ah→Prop}(F:l=A)(hc:c=c'):GQ s l c h K=GQ s A c' h K:=by rw[F,hc]
theorem VG {h h':ah}{b:(ah→Prop)→Prop}(hh:h=h'):bO h b=bO h' b:=by rw[hh]
theorem zbd {S:ah→Prop}{r A:ah→Option Value}{K:Value→Prop}(F:r=A):qK S r K=qK S A K:=by rw[F]
theorem QE {d:TypeDesc}{m F k k' v A:Value}{h:ah}{K:Value→ah→Prop}(h1:m=F)(G:k=k')(H:v=A):pG d m k v h K=pG d F k' A h K:=by rw[h1,G,H]
theorem QG {d:TypeDesc}{m A k k':Value}{h:ah}{K:Value→ah→Prop}(h1:m=A)(F:k=k'):pH d m k h K=pH d A k' h K:=by rw[h1,F]
attribute [congr] zaU Xf Wm Vj zbP W0 ZB WF ZV XT Xw VG zbd QE QG
theorem aJ {c:Array Value}{t:TypeId}{h:ah}{K:Value→ah→Prop}(H:∀b h',h'[b]? =some (.cells c t (0,0))→Ext h h'→h.size≤b→K (.pointer (some ⟨b,0,none⟩)) h'):bh c t h K:=
 H h.size (h.push (.cells c t)) tm (Ext.push h _) (cf _)
theorem Ext.row {h h':ah}(e:Ext h h'){b:Nat}{o:Obj}(A:h[b]? =some o):h'[b]? =some o:=by
 rw[e.2 b (mD.1 A).1];exact A
theorem bT (c:Array Value):Value.cells (.agg c)=c:=cW rfl rfl
theorem Xb (h:ah)(b o i n:Nat):fj h ⟨b,o,none⟩ i (n+1)=match aH h ⟨b,o+i,none⟩with
  |some v=>match fj h ⟨b,o,none⟩ (i+1) n with
   |some l=>some (v::l)
   |none=>none
  |none=>none:=by
 have e:fj h ⟨b,o,none⟩ i (n+1)=match aH h ((⟨b,o,none⟩:Addr).add i)with
  |some v=>match fj h ⟨b,o,none⟩ (i+1) n with
   |some l=>some (v::l)
   |none=>none
  |none=>none:=rfl
 rw[e,nD]
theorem zbz (n:Nat)(h:ah)(a:Addr):aR n h (.pointer (some a))=(fj h a 0 n).map λl=>.agg l.toArray:=cW rfl rfl
theorem DX {h:ah}{b o:Nat}:∀(l:List Value) (i:Nat),(∀j (A:j<l.length),aH h ⟨b,o+i+j,none⟩=some l[j])→fj h ⟨b,o,none⟩ i l.length=some l
 | [],_,_=>rfl
 | v::l,i,H=>by
  rw[pJ,Xb];have h0:=H 0 (by simp);simp only[gN,Ed]at h0;rw[h0];have:=DX l (i+1) λj A=>by
   have:=H (j+1) (by simpa using A);simpa[vz,Ec 1 j]using this
  simp only[this]
theorem Jx {h:ah}{b o:Nat}(l:List Value)(n:Nat)(A:l.length=n)(H:∀j (F:j<l.length),aH h ⟨b,o+j,none⟩=some l[j]):aR n h (.pointer (some ⟨b,o,none⟩))=some (.agg l.toArray):=by
 subst A;rw[zbz,DX l 0 (by simpa using H)];rfl
theorem aW {h:ah}{b:Nat}{l:List Value}{t:TypeId}{f:Nat×Nat}(F:h[b]? =some (.cells l.toArray t f))(n:Nat)(A:l.length=n):aR n h (.pointer (some ⟨b,0,none⟩))=some (.agg l.toArray):=
 Jx l n A λj G=>by rw[aO,am F];simp
theorem Ext.loads {h h':ah}(e:Ext h h'){a:Addr}:∀{n i:Nat} {l:List Value},fj h a i n=some l→fj h' a i n=some l
 |0,_,_,H=>H
 | n+1,i,l,H=>by
  unfold fj at H ⊢;cases hc:aH h (a.add i)with
  |none=>simp[hc]at H
  | some v=>
   simp only[hc]at H;rw[e.cell hc];cases A:fj h a (i+1) n with
   |none=>simp[A]at H
   |some F=>
    simp only[A]at H;simp only[e.loads A];exact H
theorem Ext.lds {h h':ah}(e:Ext h h'){n:Nat}{x v:Value}(H:aR n h x=some v):aR n h' x=some v:=by
 unfold aR at*;split at H
 ·rename_i a;cases A:fj h a 0 n with
  |none=>simp[A]at H
  |some l=>
   simp only[A]at H;simp only[e.loads A];exact H
 ·cases H
theorem wE (h:ah)(b k:Nat)(o:Obj):(fV h b o)[k]? =if k=b then(if b<h.size then some o else none)else h[k]? :=by
 unfold fV;rw[YJ];by_cases A:k=b
 ·subst A;simp
 ·rw[aq (iu A),aq A]
theorem xL (h:ah)(b:Nat)(o:Obj):(fV h b o).size=h.size:=by simp[fV]
theorem UE (h:ah)(x y:Obj):fV (h.push x) h.size y=h.push y:=by
 unfold fV;apply Ju;simp
theorem UF {h:ah}{b o:Nat}{cur:Array Value}{t:TypeId}{f:Nat×Nat}{v:Value}(F:h[b]? =some (.cells cur t f)):MU h ⟨b,o,none⟩ v=fV h b (.cells (cur.setIfInBounds o v) t f):=by
 have A:b<h.size:=(mD.1 F).1;unfold MU;apply Mp
 ·simp[xL]
 ·intro i h1 G;apply un;rw[←rD,←rD,wE,Mo];by_cases hi:i=b
  ·subst hi;have e:h[i]=.cells cur t f:=by rw[rD A]at F;exact un F
   simp[A,e]
  ·rw[aq (iu hi),aq hi]
def wrL (cur:Array Value):Nat→List Value→Array Value
 |_,[]=>cur
 |o,v::l=>wrL (cur.setIfInBounds o v) (o+1) l
theorem cO:∀(l:List Value) (cur:Array Value) (o:Nat),(wrL cur o l).size=cur.size
 | [],_,_=>rfl
 |v::l,cur,o=>by simp[wrL,cO l]
theorem XY:∀(l:List Value) (cur:Array Value) (o k:Nat),o+l.length≤cur.size→(wrL cur o l)[k]? =if o≤k∧k<o+l.length then l[k-o]? else cur[k]?
 | [],cur,o,k,_=>by simp only[wrL,kS];rw[aq ae]
 | v::l,cur,o,k,h=>by
  simp only[pJ]at h;simp only[wrL];rw[XY l _ (o+1) k (by simp;omega)];by_cases A:k=o
  ·subst A;rw[aq ae,aA (by simp)];rw[YJ];simp;omega
  ·by_cases F:o+1≤k∧k<o+1+l.length
   ·rw[aA F,aA (by simp only[pJ];omega)];rw[show k-o=(k-(o+1))+1 from ae];simp
   ·rw[aq F,aq (by simp only[pJ];omega)];rw[YL (iu A)]
theorem RR (l:List Value)(cur:Array Value)(h:l.length=cur.size):wrL cur 0 l=l.toArray:=by
 apply Mp
 ·simp[cO,h]
 ·intro i h1 A;apply un;rw[←rD,←rD,XY l cur 0 i ae];simp only[cO]at h1;rw[aA ae];simp
theorem nM {t:TypeId}{b o:Nat}:∀(l:List Value) (i:Nat) (h:ah) (cur:Array Value),h[b]? =some (.cells cur t (0,0))→o+i+l.length≤cur.size→(∀v∈l,aV v=true)→
  kG h ⟨b,o,none⟩ i l=some (fV h b (.cells (wrL cur (o+i) l) t (0,0)))
 | [],i,h,cur,hb,_,_=>by
  simp only[kG,wrL,cK];have A:b<h.size:=(mD.1 hb).1;apply Mp
  ·simp[xL]
  ·intro k h1 H;apply un;rw[←rD,←rD,wE];split
   ·rename_i F;subst F;first|rw[aA A,hb]|exact hb
   ·rfl
 |v::l,i,h,cur,hb,hs,h1=>by
  simp only[pJ]at hs;have A:b<h.size:=(mD.1 hb).1;have hc:aH h ⟨b,o+i,none⟩=some cur[o+i]:=by rw[am hb,rD ae]
  have G:wW h ⟨b,o+i,none⟩=false:=by unfold wW;simp[hb]
  unfold kG;rw[nD];simp only[hc,G,h1 v (by simp),Bool.not_false,Bool.and_self,uq];rw[UF hb];rw[nM l (i+1) _ (cur.setIfInBounds (o+i) v) (by rw[wE,aA rfl,aA A]) (by simp;omega) (λu hu=>h1 u (by simp[hu]))];simp only[wrL,vz,cK];unfold fV;simp
theorem stN {t:TypeId}{b o n:Nat}{h:ah}{cur:Array Value}{l:List Value}{K:Value→ah→Prop}(F:h[b]? =some (.cells cur t (0,0)))(G:o+l.length≤cur.size)(h1:∀v∈l,aV v=true)(A:l.length=n)
  (H:K undef (fV h b (.cells (wrL cur o l) t (0,0)))):stK n (.pointer (some ⟨b,o,none⟩)) (.agg l.toArray) h K:=by
 unfold stK;have:=nM (t:=t) (b:=b) (o:=o) l 0 h cur F (by simpa using G) h1;simp only[Value.cells,TH,A,cN,this];exact H
theorem cI {v:Value}(h:aV v=true):v.cells=#[v]:=by cases v<;>first|rfl|cases h
theorem st1 {t:TypeId}{b o:Nat}{h:ah}{cur:Array Value}{v:Value}{K:Value→ah→Prop}(A:h[b]? =some (.cells cur t (0,0)))(G:o<cur.size)(h1:aV v=true)
  (F:K undef (fV h b (.cells (cur.setIfInBounds o v) t (0,0)))):stK 1 (.pointer (some ⟨b,o,none⟩)) v h K:=by
 unfold stK;have:=nM (t:=t) (b:=b) (o:=o) [v] 0 h cur A (by simp;omega) (by simpa using h1);simp only[cI h1,TH,pJ,kS,cN,this];exact F
theorem st_new {t:TypeId}{n:Nat}{h:ah}{A:Array Value}{l:List Value}{K:Value→ah→Prop}(G:l.length=A.size)(h1:∀v∈l,aV v=true)(F:l.length=n)
  (H:K undef (h.push (.cells l.toArray t))):stK n (.pointer (some ⟨h.size,0,none⟩)) (.agg l.toArray) (h.push (.cells A t)) K:=by
 refine stN (cur:=A) (t:=t) (by simp) ae h1 F ?_;rw[UE,RR l A G];exact H
def Upd (b:Nat)(h h':ah):Prop:=h'.size=h.size∧∀k,k≠b→h'[k]? =h[k]?
theorem Upd.row {b k:Nat}{h h':ah}(u:Upd b h h')(A:k≠b){o:Obj}(r:h[k]? =some o):h'[k]? =some o:=by rw[u.2 k A];exact r
theorem Upd.set {b:Nat}{h:ah}{o:Obj}:Upd b h (fV h b o):=⟨xL h b o,λk A=>by rw[wE,aq A]⟩
theorem Ext.upd {h h1 A:ah}{b:Nat}(e:Ext h h1)(G:h.size≤b)(u:Upd b h1 A):Ext h A:=
 ⟨by rw[u.1];exact e.1,λk F=>by rw[u.2 k ae];exact e.2 k F⟩
theorem ns {h:ah}{b:Nat}{o o':Obj}(r:h[b]? =some o):(fV h b o')[b]? =some o':=by
 rw[wE,aA rfl,aA (mD.1 r).1]
theorem da {t:TypeId}{b n:Nat}{h:ah}{A:Array Value}{l:List Value}{K:Value→ah→Prop}(r:h[b]? =some (.cells A t (0,0)))(G:l.length=A.size)(h1:∀v∈l,aV v=true)(F:l.length=n)
  (H:∀h',h'[b]? =some (.cells l.toArray t (0,0))→Upd b h h'→K undef h'):stK n (.pointer (some ⟨b,0,none⟩)) (.agg l.toArray) h K:=by
 refine stN r ae h1 F ?_;rw[RR l A G];exact H _ (ns r) Upd.set
theorem ck {t:TypeId}{b o:Nat}{h:ah}{cur:Array Value}{v:Value}{K:Value→ah→Prop}(r:h[b]? =some (.cells cur t (0,0)))(A:o<cur.size)(h1:aV v=true)
  (F:∀h',h'[b]? =some (.cells (cur.setIfInBounds o v) t (0,0))→Upd b h h'→K undef h'):stK 1 (.pointer (some ⟨b,o,none⟩)) v h K:=
 st1 r A h1 (F _ (ns r) Upd.set)
theorem di {c c':Array Value}{e:TypeId}{n:Nat}{l:List (Nat×Nat×Value)}{h:ah}{K:Value→ah→Prop}(A:aQ c l=some c')
  (H:∀b h',h'[b]? =some (.cells c' e (0,0))→Ext h h'→h.size≤b→K (.slice (some ⟨b,0,none⟩) n n) h'):du c e n l h K:=by
 unfold du;rw[A];exact H h.size (h.push (.cells c' e)) tm (Ext.push h _) (cf _)
theorem least {p:Nat→Prop}:∀(n:Nat),p n→∃m,p m∧∀k,p k→m≤k:=by
 intro n;induction n using Nat.strongRecOn with
 | _ n H=>
  intro L;by_cases G:∃k,k<n∧p k
  ·obtain⟨k,F,I⟩:=G;exact H k F I
  ·exact⟨n,L,λk F=>Jm λA=>G ⟨k,A,F⟩⟩
theorem c5 {init:List Value}{h:ah}{body:List Value→Env→ah→(List Value→ah→Prop)→Prop}(I:Nat→List Value→ah→Prop)(d0:Nat)(h0:I d0 init h)
  (step:∀d A ρj h again,I d A h→(∀L h' G,G<d→I G L h'→again L h')→body A ρj h again):bA init h body:=by
 have H:∀A h,∃m:Nat,(∃d,I d A h)→I m A h∧∀k,I k A h→m≤k:=by
  intro A h;by_cases W:∃d,I d A h
  ·obtain⟨d,hd⟩:=W;obtain⟨m,U,hl⟩:=least (p:=λd=>I d A h) d hd;exact⟨m,λ_=>⟨U,hl⟩⟩
  ·exact⟨0,λh=>absurd h W⟩
 let m:List Value→ah→Nat:=λA h=>Classical.choose (H A h)
 have U:∀A h,(∃d,I d A h)→I (m A h) A h∧∀k,I k A h→m A h≤k:=λA h=>YI (H A h)
 refine⟨λA h=>∃d,I d A h,m,⟨d0,h0⟩,?_⟩;intro A ρj h hI;refine step (m A h) A ρj h _ (U A h hI).1 ?_;intro L h' G hd F;exact⟨⟨G,F⟩,um ((U L h' ⟨G,F⟩).2 G F) hd⟩
theorem bF {body:(List Value→ah→Prop)→Prop}{rest:List Value→Env→ah→Prop}(J:List Value→ah→Prop)(h1:body J)(F:∀A ρj h,J A h→rest A ρj h):fR body rest:=⟨J,h1,F⟩
theorem KE {h:ah}{body:(ah→Prop)→Prop}(H:body (Ext h)):bO h body:=⟨Ext h,Ext.refl h,H⟩
theorem aD {S:ah→Prop}{r:ah→Option Value}{K:Value→Prop}(v:Value)(h:∀h,S h→r h=some v)(A:K v):qK S r K:=⟨v,h,A⟩
attribute [go_sem] zeM zeS aj iC cA YU jY gV_tf zem zdu tO gK_tf gK_ft Ng kn iz zJ zdj zeK ix_4 ix_5 dC iL mV cC Pw mW Px mX pW zcC zcB X0 zcP Dj Oi Og bT Ej Z4 List.getElem?_toArray List.getElem?_cons_zero List.getElem?_cons_succ Nat.zero_add decide_true decide_false Bool.not_true Bool.not_false Bool.and_true Bool.and_false Bool.or_true Bool.or_false Bool.true_and Bool.false_and Bool.true_or Bool.false_or not_true_eq_false not_false_eq_true zeY zeX zeW zeV zbp zeT Vu mf
def Fr (M:Nat→Prop)(h h':ah):Prop:=h.size≤h'.size∧∀b,b<h.size→¬M b→h'[b]? =h[b]?
theorem Fr.refl (M:Nat→Prop)(h:ah):Fr M h h:=⟨cf _,λ_ _ _=>rfl⟩
theorem Fr.trans {M:Nat→Prop}{a b c:ah}(h:Fr M a b)(k:Fr M b c):Fr M a c:=
 ⟨bB h.1 k.1,λi hi A=>(k.2 i (ce hi h.1) A).trans (h.2 i hi A)⟩
theorem Fr.mono {M M':Nat→Prop}{a b:ah}(h:Fr M a b)(k:∀i,i<a.size→M i→M' i):Fr M' a b:=⟨h.1,λi hi A=>h.2 i hi λx=>A (k i hi x)⟩
theorem Ext.fr {M:Nat→Prop}{a b:ah}(h:Ext a b):Fr M a b:=⟨h.1,λi hi _=>h.2 i hi⟩
theorem Ext.then_fr {M:Nat→Prop}{a b c:ah}(h:Ext a b)(k:Fr M b c)(n:∀i,M i→a.size≤i):Ext a c:=
 ⟨bB h.1 k.1,λi hi=>(k.2 i (ce hi h.1) λm=>Nat.not_le.2 hi (n i m)).trans (h.2 i hi)⟩
theorem Fr.row {M:Nat→Prop}{h h':ah}(e:Fr M h h'){b:Nat}{o:Obj}(A:h[b]? =some o)(F:¬M b):h'[b]? =some o:=by
 rw[e.2 b (mD.1 A).1 F];exact A
theorem Fr.cell {M:Nat→Prop}{h h':ah}(e:Fr M h h'){a:Addr}{v:Value}(hc:aH h a=some v)(F:¬M a.block):aH h' a=some v:=by
 unfold aH at*;rcases pK a.block h.size with A|A
 ·rw[e.2 _ A F];exact hc
 ·rw[Ay A]at hc;cases hc
theorem Y3 {h:ah}{a:Addr}{v:Value}(hc:aH h a=some v):a.block<h.size:=by
 unfold aH at hc;rcases pK a.block h.size with A|A
 ·exact A
 ·rw[Ay A]at hc;cases hc
def blk:Value→Nat→Prop
 | .slice (some a) _ _,b=>b=a.block
 | .pointer (some a),b=>b=a.block
 |_,_=>False
def SlC (w:Nat)(h:ah)(v:Value)(n:Nat)(cs:List Value):Prop:=
 cs.length=n*w∧∃a cap,v=.slice a n cap∧(cs=[]∨∃b o,a=some ⟨b,o,none⟩∧∀j (hj:j<cs.length),aH h ⟨b,o+j,none⟩=some cs[j])
def Own (w:Nat)(h:ah)(v:Value)(n:Nat)(cs:List Value):Prop:=
 (v=.slice none 0 0∧n=0∧cs=[])∨∃b cap r e,v=.slice (some ⟨b,0,none⟩) n cap∧n≤cap∧cs.length=n*w∧(cs++r).length=cap*w∧h[b]? =some (.cells (cs++r).toArray e (0,0))
theorem SlC.fr {w:Nat}{M:Nat→Prop}{h h':ah}{v:Value}{n:Nat}{cs:List Value}(H:SlC w h v n cs)(e:Fr M h h')(G:∀b,b<h.size→blk v b→¬M b):SlC w h' v n cs:=by
 obtain⟨F,a,cap,rfl,H⟩:=H;refine⟨F,a,cap,rfl,?_⟩;rcases H with H|⟨b,o,rfl,H⟩
 ·exact .inl H
 ·exact .inr ⟨b,o,rfl,λj A=>e.cell (H j A) (G b (Y3 (H j A)) rfl)⟩
theorem SlC.ext {w:Nat}{h h':ah}{v:Value}{n:Nat}{cs:List Value}(H:SlC w h v n cs)(e:Ext h h'):SlC w h' v n cs:=H.fr (M:=λ_=>False) e.fr λ_ _ _=>id
theorem Own.sl {w:Nat}{h:ah}{v:Value}{n:Nat}{cs:List Value}(H:Own w h v n cs):SlC w h v n cs:=by
 rcases H with⟨rfl,rfl,rfl⟩|⟨b,cap,r,e,rfl,hc,F,_,G⟩
 ·exact⟨by simp,none,0,rfl,.inl rfl⟩
 ·refine⟨F,_,cap,rfl,.inr ⟨b,0,rfl,λj A=>?_⟩⟩;rw[aO,am G];simp[vy A,A]
theorem Own.fr {w:Nat}{M:Nat→Prop}{h h':ah}{v:Value}{n:Nat}{cs:List Value}(H:Own w h v n cs)(f:Fr M h h')(F:∀b,blk v b→¬M b):Own w h' v n cs:=by
 rcases H with⟨rfl,rfl,rfl⟩|⟨b,cap,r,e,rfl,hc,A,I,G⟩
 ·exact .inl ⟨rfl,rfl,rfl⟩
 ·exact .inr ⟨b,cap,r,e,rfl,hc,A,I,f.row G (F b rfl)⟩
theorem Own.lt {w:Nat}{h:ah}{v:Value}{n:Nat}{cs:List Value}(H:Own w h v n cs){b:Nat}(A:blk v b):b<h.size:=by
 rcases H with⟨rfl,rfl,rfl⟩|⟨F,cap,r,e,rfl,hc,G,I,h'⟩
 ·cases A
 ·rw[show b=F from A];exact(mD.1 h').1
theorem SlC.loads {w:Nat}{h:ah}{v:Value}{n:Nat}{cs:List Value}(H:SlC w h v n cs):xr w h n v=some cs:=by
 obtain⟨A,a,cap,rfl,H⟩:=H;cases a with
 |none=>
  rcases H with rfl|⟨b,o,h1,_⟩
  ·rfl
  ·cases h1
 | some a=>
  show fj h a 0 (n*w)=_;rcases H with rfl|⟨b,o,h1,H⟩
  ·rw[←A];rfl
  ·cases h1;rw[←A];exact DX cs 0 (by simpa using H)
theorem Hd:∀(ds cs r:List Value),ds.length≤r.length→wrL (cs++r).toArray cs.length ds=(cs++ds++r.drop ds.length).toArray
 | [],cs,r,_=>by simp[wrL]
 | v::ds,cs,r,h=>by
  cases r with
  |nil=>simp at h
  |cons x r=>
   have e:((cs++x::r).toArray).setIfInBounds cs.length v=((cs++[v])++r).toArray:=by simp
   rw[wrL,e];have:=Hd ds (cs++[v]) r (by simpa using h);rw[co,Jl]at this;rw[this];simp
theorem Upd.fr {b:Nat}{h h':ah}(u:Upd b h h'):Fr (λk=>k=b) h h':=⟨Nat.le_of_eq u.1.symm,λk _ A=>u.2 k A⟩
theorem RX (z:Array Value)(n:Nat):(Builtin.zeroCells z n).size=n*z.size:=by simp[Builtin.zeroCells]
theorem w8 {z:Value}{e:TypeId}{w bytes n m:Nat}{s x:Value}{h:ah}{cs ds:List Value}{K:Value→ah→Prop}
  (hs:Own w h s n cs) (hx:SlC w h x m ds) (ho:∀v∈ds,aV v=true) (hz:z.cells.size=w) (I:(n+m)*bytes≤140737488355328) (hn:n+m≤9223372036854775807)
  (H:∀s' h',Own w h' s' (n+m) (cs++ds)→Fr (blk s) h h'→(∀b,blk s' b→blk s b∨h.size≤b)→K s' h'):dy z e w bytes s x h K:=by
 have L:=hs.sl.loads;have G:=hx.loads;obtain⟨F,a',ad,rfl,al⟩:=hx;rcases hs with⟨rfl,rfl,rfl⟩|⟨b,cap,r,e0,rfl,hc,W,hr,U⟩
 ·unfold dy;simp only[QH];split
  ·rename_i h0;have:m=0:=ae;subst this;rw[G];have:ds=[]:=nZ (by simpa using F);subst this;exact H _ _ (.inl ⟨rfl,rfl,rfl⟩) (Fr.refl _ _) (λb I=>I.elim)
  ·rename_i h0;rw[L,G];refine⟨by simp only[IntKind.max];simp only[IntKind.signed,IntKind.bits];omega,bB (TG ae I) (by decide),λA h1 h2=>?_⟩;refine H _ _ (.inr ⟨h.size,A,(Builtin.zeroCells z.cells (A-(0+m))).toList,e,rfl,h1,?_,?_,?_⟩) (Ext.push h _).fr (λb I=>.inr (by rw[show b=h.size from I];exact cf _))
   ·simp[F]
   ·simp[F,RX,hz];rw[←eO];congr 1;omega
   ·rw[tm];simp
 ·unfold dy;simp only[QH];split
  ·rename_i h0;rw[G];have ab:ds.length≤r.length:=by
    rw[co]at hr;rw[F];have:(n+m)*w≤cap*w:=ja w h0;rw[eO]at this;omega
   have aa:=nM (o:=n*w) ds 0 h _ U (by simp;omega) ho;simp only[nD,aO,aa];rw[gN,←W,Hd ds cs r ab];refine H _ _ (.inr ⟨b,cap,r.drop ds.length,e0,rfl,h0,?_,?_,ns U⟩) (Upd.set.fr) (λk hk=>.inl hk)
   ·simp[W,F,eO]
   ·rw[←hr];simp;omega
  ·rename_i h0;rw[L,G];refine⟨by simp only[IntKind.max];simp only[IntKind.signed,IntKind.bits];omega,bB (TG ae I) (by decide),λA h1 h2=>?_⟩;refine H _ _ (.inr ⟨h.size,A,(Builtin.zeroCells z.cells (A-(n+m))).toList,e,rfl,h1,?_,?_,?_⟩) (Ext.push h _).fr (λb I=>.inr (by rw[show b=h.size from I];exact cf _))
   ·simp[W,F,eO]
   ·simp[W,F,RX,hz];rw[←eO,←eO];congr 1;omega
   ·rw[tm];simp
theorem SlC.at1 {h:ah}{v:Value}{n:Nat}{cs:List Value}(H:SlC 1 h v n cs){k:IntKind}{i:Nat}(hi:i<n):∃p,bu 1 v (.int k (i:Int))=some p∧ldV h p=some (cs[i]'(by rw[H.1];omega)):=by
 have A:=H.1;obtain⟨_,a,cap,rfl,H⟩:=H;rcases H with rfl|⟨b,o,rfl,H⟩
 ·simp at A;omega
 ·refine⟨_,mS hi,?_⟩;rw[mf,lN];exact H i ae
theorem SlC.atw {w:Nat}{h:ah}{v:Value}{n:Nat}{cs:List Value}(H:SlC w h v n cs)(I:0<w){k:IntKind}{i:Nat}(hi:i<n):
  ∃p,bu w v (.int k (i:Int))=some p∧aR w h p=some (.agg ((cs.drop (i*w)).take w).toArray):=by
 have F:=H.1;obtain⟨_,a,cap,rfl,H⟩:=H;have A:i*w+w≤cs.length:=by rw[F,←Au];exact ja w hi
 rcases H with rfl|⟨b,o,rfl,H⟩
 ·simp at A;omega
 ·refine⟨_,mS hi,?_⟩;refine Jx _ w (by simp;omega) λj G=>?_
  simp at G;have:=H (i*w+j) ae;rw[←vz]at this;rw[this];simp
theorem Own.at1 {h:ah}{v:Value}{n:Nat}{cs:List Value}(H:Own 1 h v n cs){k:IntKind}{i:Nat}(hi:i<n):
  ∃p,bu 1 v (.int k (i:Int))=some p∧ldV h p=some (cs[i]'(by rw[H.sl.1];omega))∧∀(x:Value) (K:Value→ah→Prop),aV x=true→
   (∀h',Own 1 h' v n (cs.set i x)→Fr (blk v) h h'→h'.size=h.size→K undef h')→stK 1 p x h K:=by
 have G:=H.sl.1;rcases H with⟨rfl,rfl,rfl⟩|⟨b,cap,r,e,rfl,hc,_,W,F⟩
 ·omega
 ·refine⟨_,mS hi,?_,λx K hx I=>?_⟩
  ·rw[mf,lN,am F];have A:i<cs.length:=ae;simp only[aO,Am];rw[vy A,iI A]
  ·refine ck F (by simp;omega) hx λh' U u=>?_
   refine I h' (.inr ⟨b,cap,r,e,rfl,hc,by simpa using G,by simpa using W,?_⟩) (u.fr.mono λk _ L=>L) u.1;rw[U]
   congr 2
   simp[List.set_append_left,show i<cs.length by omega]
theorem Zs {z:Value}(A:z.cells=#[z])(n:Nat):jN z n=(List.replicate n z).toArray:=by
 unfold jN;rw[A];apply Mp
 ·simp
 ·intro i h1 F;simp[Nat.mod_one]
theorem pF {z:Value}{e:TypeId}{bytes n:Nat}{k k':IntKind}{h:ah}{K:Value→ah→Prop}(G:z.cells=#[z])(A:bytes*n≤281474976710656)(I:n≤9223372036854775807)
  (H:∀v h',Own 1 h' v n (List.replicate n z)→Ext h h'→(∀b,blk v b→h.size≤b)→K v h'):mkK z e 1 bytes (.int k n) (.int k' n) h K:=by
 unfold mkK;have F:IntKind.i64.wrap (n:Int)=n:=w64 ae ae;simp only[F];refine⟨ae,ae,by exact_mod_cast A,?_⟩;rw[dW,lN,Zs G];refine H _ _ (.inr ⟨h.size,n,[],e,rfl,cf _,by simp,by simp,?_⟩) (Ext.push h _) (λb A=>by rw[show b=h.size from A];exact cf _);rw[tm];simp
theorem SlC.load_some {w:Nat}{h:ah}{v:Value}{n:Nat}{cs:List Value}(H:SlC w h v n cs){k:Nat}(I:k≤n):xr w h k v=some (cs.take (k*w)):=by
 obtain⟨U,a,cap,rfl,H⟩:=H;have L:k*w≤n*w:=ja w I;have A:(cs.take (k*w)).length=k*w:=by rw[de];omega
 cases a with
 |none=>
  rcases H with rfl|⟨b,o,h1,_⟩
  ·simp[xr]
  ·cases h1
 | some a=>
  show fj h a 0 (k*w)=_;rcases H with rfl|⟨b,o,h1,H⟩
  ·simp at A;rw[←A];simp[fj]
  ·cases h1;have:=DX (h:=h) (b:=b) (o:=o) (cs.take (k*w)) 0 (λj G=>by
    have F:j<cs.length:=by rw[de]at G;omega
    simpa using H j F)
   rw[A]at this;exact this
theorem JL {n m:Nat}{d x:Value}{h:ah}{cs ds:List Value}{K:Value→ah→Prop}(hd:Own 1 h d n cs)(hx:SlC 1 h x m ds)(ho:∀v∈ds,aV v=true)
  (H:∀h',Own 1 h' d n (ds.take n++cs.drop m)→Fr (blk d) h h'→h'.size=h.size→K (af (Nat.min m n:Nat)) h'):GQ 1 d x h K:=by
 have A:=hx.load_some (k:=Nat.min m n) (Nat.min_le_left ..);obtain⟨aa,a',U,rfl,ab⟩:=hx;unfold GQ;rcases hd with⟨rfl,rfl,rfl⟩|⟨b,cap,r,e,rfl,hc,hl,hr,L⟩
 ·simp only[QH];rw[A];refine H _ (.inl ⟨rfl,rfl,by simp⟩) (Fr.refl _ _) rfl
 ·simp only[QH];rw[A];have F:ds.take (Nat.min m n*1)=ds.take n:=by
   rw[lN];rcases Mn m n with h1|h1
   ·rw[show Nat.min m n=m from vx h1,fB ae,fB ae]
   ·rw[show Nat.min m n=n from Nat.min_eq_right h1]
  rw[F];have I:(ds.take n).length≤(cs++r).length:=by simp;omega
  have G:=nM (o:=0) (ds.take n) 0 h _ L (by simp;omega) (λv hv=>ho v (Eb hv));simp only[G];have W:=Hd (ds.take n) [] (cs++r) I;simp only[fX,kS]at W;rw[show(0+0:Nat)=0 from rfl,W];refine H _ (.inr ⟨b,cap,r,e,rfl,hc,?_,?_,?_⟩) Upd.set.fr (xL ..)
  ·simp;omega
  ·simp at hr ⊢;omega
  ·rw[ns L]
   congr 3
   rw[cj]
   congr 1
   rcases Mn m n with h1|h1
   ·rw[de,YH ae]
    congr 2;omega
   ·rw[de,vx ae, @List.drop_eq_nil_of_le _ cs _ ae,fX];rw[show n=cs.length by omega,List.drop_left]
theorem Rc {h:ah}{body:List Value→Env→ah→(List Value→ah→Prop)→Prop}(n A:Nat)(I:Nat→ah→Prop)(h0:I A h)
  (step:∀k h again ρj,A≤k→I k h→(∀h',k<n→I (k+1) h'→again [af ((k:Int)+1)] h')→body [af (k:Int)] ρj h again):bA [af (A:Int)] h body:=by
 refine c5 (λd L h=>∃k,A≤k∧d=n-k∧L=[af (k:Int)]∧I k h) (n-A) ⟨A,cf _,rfl,rfl,h0⟩ ?_;rintro d _ ρj h1 again ⟨k,F,hd,rfl,U⟩ H;exact step k h1 again ρj F U λh' W G=>H _ _ (n-(k+1)) ae ⟨k+1,ae,rfl,by simp,G⟩
theorem Al {h:ah}{body:List Value→Env→ah→(List Value→ah→Prop)→Prop}(n:Nat)(I:Nat→ah→Prop)(h0:I 0 h)
  (step:∀k h again ρj,I k h→(∀h',k<n→I (k+1) h'→again [af ((k:Int)+1)] h')→body [af (k:Int)] ρj h again):bA [ai] h body:=
 Rc n 0 I h0 λk h again ρj _=>step k h again ρj
structure Rp (α:Type) where
 w:Nat
 R:(Nat→Prop)→ah→List Value→α→Prop
 len:∀{Z:Nat→Prop} {h:ah} {cs:List Value} {x:α},R Z h cs x→cs.length=w
 one:∀{Z:Nat→Prop} {h:ah} {cs:List Value} {x:α},R Z h cs x→∀v∈cs,aV v=true
 fr:∀{Z M:Nat→Prop} {h h':ah} {cs:List Value} {x:α},R Z h cs x→Fr M h h'→(∀b,b<h.size→Z b→¬M b)→R Z h' cs x
 mono:∀{Z Z':Nat→Prop} {h:ah} {cs:List Value} {x:α},R Z h cs x→(∀b,b<h.size→Z b→Z' b)→R Z' h cs x
theorem Rp.ext {α:Type}(e:Rp α){Z:Nat→Prop}{h h':ah}{cs:List Value}{x:α}(H:e.R Z h cs x)(k:Ext h h'):e.R Z h' cs x:=e.fr (M:=λ_=>False) H k.fr λ_ _ _=>id
theorem SlC.nil {w:Nat}{h h':ah}{v:Value}{n:Nat}(H:SlC w h v n []):SlC w h' v n []:=by
 obtain⟨A,a,cap,rfl,H⟩:=H;exact⟨A,a,cap,rfl,.inl rfl⟩
theorem SlC.isSl {w:Nat}{h:ah}{v:Value}{n:Nat}{cs:List Value}(H:SlC w h v n cs):∃a cap,v=.slice a n cap:=by
 obtain⟨_,a,cap,rfl,_⟩:=H;exact⟨a,cap,rfl⟩
theorem Own.isSl {w:Nat}{h:ah}{v:Value}{n:Nat}{cs:List Value}(H:Own w h v n cs):∃a cap,v=.slice a n cap:=H.sl.isSl
theorem SlC.lt {w:Nat}{h:ah}{v:Value}{n:Nat}{cs:List Value}(H:SlC w h v n cs)(h0:cs≠[]){b:Nat}(F:blk v b):b<h.size:=by
 obtain⟨G,a,cap,rfl,H⟩:=H;rcases H with rfl|⟨A,o,rfl,H⟩
 ·exact absurd rfl h0
 ·have:=Y3 (H 0 (vw.2 h0));rw[show b=A from F];exact this
namespace Rp
def int (k:IntKind):Rp Int where
 w:=1
 R:=λ_ _ cs n=>cs=[.int k n]
 len:=by rintro _ _ _ _ rfl;rfl
 one:=by rintro _ _ _ _ rfl;simp[aV]
 fr:=λH _ _=>H
 mono:=λH _=>H
def bool:Rp Bool where
 w:=1
 R:=λ_ _ cs n=>cs=[.bool n]
 len:=by rintro _ _ _ _ rfl;rfl
 one:=by rintro _ _ _ _ rfl;simp[aV]
 fr:=λH _ _=>H
 mono:=λH _=>H
def str:Rp ByteArray where
 w:=1
 R:=λ_ _ cs n=>cs=[.string n]
 len:=by rintro _ _ _ _ rfl;rfl
 one:=by rintro _ _ _ _ rfl;simp[aV]
 fr:=λH _ _=>H
 mono:=λH _=>H
abbrev el (w:Nat)(ds:List Value)(i:Nat):List Value:=(ds.drop (i*w)).take w
def Sl {α:Type}(e:Rp α)(Z:Nat→Prop)(h:ah)(v:Value)(l:List α):Prop:=
 ∃ds,SlC e.w h v l.length ds∧(ds≠[]→∀b,blk v b→Z b)∧∀i (hi:i<l.length),e.R Z h (el e.w ds i) l[i]
theorem Sl.fr {α:Type}{e:Rp α}{Z M:Nat→Prop}{h h':ah}{v:Value}{l:List α}(H:Sl e Z h v l)(f:Fr M h h')(q:∀b,b<h.size→Z b→¬M b):Sl e Z h' v l:=by
 obtain⟨ds,G,F,I⟩:=H;refine⟨ds,?_,F,λi hi=>e.fr (I i hi) f q⟩;by_cases h0:ds=[]
 ·subst h0;exact G.nil
 ·exact G.fr f λb L A=>q b L (F h0 b A)
theorem Sl.ext {α:Type}{e:Rp α}{Z:Nat→Prop}{h h':ah}{v:Value}{l:List α}(H:Sl e Z h v l)(k:Ext h h'):Sl e Z h' v l:=H.fr (M:=λ_=>False) k.fr λ_ _ _=>id
theorem Sl.mono {α:Type}{e:Rp α}{Z Z':Nat→Prop}{h:ah}{v:Value}{l:List α}(H:Sl e Z h v l)(q:∀b,b<h.size→Z b→Z' b):Sl e Z' h v l:=by
 obtain⟨ds,F,I,G⟩:=H;exact⟨ds,F,λh0 b A=>q b (F.lt h0 A) (I h0 b A),λi hi=>e.mono (G i hi) q⟩
theorem Sl.isSl {α:Type}{e:Rp α}{Z:Nat→Prop}{h:ah}{v:Value}{l:List α}(H:Sl e Z h v l):∃a cap,v=.slice a l.length cap:=by
 obtain⟨ds,A,_⟩:=H;exact A.isSl
theorem Sl.one {α:Type}{e:Rp α}{Z:Nat→Prop}{h:ah}{v:Value}{l:List α}(H:Sl e Z h v l):aV v=true:=by
 obtain⟨a,cap,rfl⟩:=H.isSl;rfl
theorem Sl.nil {α:Type}{e:Rp α}{Z:Nat→Prop}{h:ah}:Sl e Z h (.slice none 0 0) []:=⟨[],⟨by simp,none,0,rfl,.inl rfl⟩,λh=>absurd rfl h,λi hi=>absurd hi (by simp)⟩
def sl {α:Type}(e:Rp α):Rp (List α) where
 w:=1
 R:=λZ h cs l=>∃v,cs=[v]∧Sl e Z h v l
 len:=by rintro _ _ _ _ ⟨v,rfl,_⟩;rfl
 one:=by
  rintro _ _ _ _ ⟨v,rfl,H⟩ u hu;rw[List.mem_singleton.1 hu];exact H.one
 fr:=by rintro _ _ _ _ _ _ ⟨v,rfl,H⟩ f q;exact⟨v,rfl,H.fr f q⟩
 mono:=by rintro _ _ _ _ _ ⟨v,rfl,H⟩ q;exact⟨v,rfl,H.mono q⟩
def Pt {α:Type}(e:Rp α)(Z:Nat→Prop)(h:ah)(v:Value)(x:α):Prop:=
 ∃b ds t,v=.pointer (some ⟨b,0,none⟩)∧h[b]? =some (.cells (List.toArray ds) t (0,0))∧Z b∧e.R Z h ds x
theorem Pt.fr {α:Type}{e:Rp α}{Z M:Nat→Prop}{h h':ah}{v:Value}{x:α}(H:Pt e Z h v x)(f:Fr M h h')(q:∀b,b<h.size→Z b→¬M b):Pt e Z h' v x:=by
 obtain⟨b,ds,t,rfl,r,A,F⟩:=H;exact⟨b,ds,t,rfl,f.row r (q b (mD.1 r).1 A),A,e.fr F f q⟩
theorem Pt.ext {α:Type}{e:Rp α}{Z:Nat→Prop}{h h':ah}{v:Value}{x:α}(H:Pt e Z h v x)(k:Ext h h'):Pt e Z h' v x:=H.fr (M:=λ_=>False) k.fr λ_ _ _=>id
theorem Pt.mono {α:Type}{e:Rp α}{Z Z':Nat→Prop}{h:ah}{v:Value}{x:α}(H:Pt e Z h v x)(q:∀b,b<h.size→Z b→Z' b):Pt e Z' h v x:=by
 obtain⟨b,ds,t,rfl,r,F,A⟩:=H;exact⟨b,ds,t,rfl,r,q b (mD.1 r).1 F,e.mono A q⟩
def pt {α:Type}(e:Rp α):Rp α where
 w:=1
 R:=λZ h cs x=>∃v,cs=[v]∧Pt e Z h v x
 len:=by rintro _ _ _ _ ⟨v,rfl,_⟩;rfl
 one:=by
  rintro _ _ _ _ ⟨v,rfl,b,ds,t,rfl,_⟩ u hu;rw[List.mem_singleton.1 hu];rfl
 fr:=by rintro _ _ _ _ _ _ ⟨v,rfl,H⟩ f q;exact⟨v,rfl,H.fr f q⟩
 mono:=by rintro _ _ _ _ _ ⟨v,rfl,H⟩ q;exact⟨v,rfl,H.mono q⟩
theorem Xo {w:Nat}{ds:List Value}{n i:Nat}(A:ds.length=n*w)(hi:i<n):(el w ds i).length=w:=by
 have:i*w+w≤n*w:=by rw[←Au];exact ja w hi
 show((ds.drop (i*w)).take w).length=w;rw[de,jC];omega
theorem el_one {ds:List Value}{i:Nat}(hi:i<ds.length):el 1 ds i=[ds[i]]:=by
 show(ds.drop (i*1)).take 1=[ds[i]];rw[lN,As hi];rfl
theorem Xp {w:Nat}{ds cs:List Value}{n i:Nat}(A:ds.length=n*w)(hi:i<n):el w (ds++cs) i=el w ds i:=by
 have:i*w+w≤n*w:=by rw[←Au];exact ja w hi
 show((ds++cs).drop (i*w)).take w=(ds.drop (i*w)).take w;rw[YH ae,TF (by rw[jC];omega)]
theorem Xq {w:Nat}{ds cs:List Value}{n i:Nat}(A:ds.length=n*w)(hi:n≤i):el w (ds++cs) i=el w cs (i-n):=by
 have:n*w≤i*w:=ja w hi;show((ds++cs).drop (i*w)).take w=(cs.drop ((i-n)*w)).take w;rw[TE, @List.drop_eq_nil_of_le _ ds _ ae,fX,A,Nat.sub_mul]
theorem el_self {w:Nat}{cs:List Value}(A:cs.length=w):el w cs 0=cs:=by
 show(cs.drop (0*w)).take w=cs;rw[Ar,Mm];exact fB ae
theorem Sl.atw {α:Type}{e:Rp α}{Z:Nat→Prop}{h:ah}{v:Value}{l:List α}(H:Sl e Z h v l)(G:0<e.w){k:IntKind}{i:Nat}(hi:i<l.length):
  ∃p cs,bu e.w v (.int k (i:Int))=some p∧aR e.w h p=some (.agg (List.toArray cs))∧e.R Z h cs l[i]:=by
 obtain⟨ds,I,L,F⟩:=H;obtain⟨p,A,hq⟩:=I.atw G (k:=k) hi;exact⟨p,_,A,hq,F i hi⟩
theorem Sl.atp {α:Type}{e:Rp α}{Z:Nat→Prop}{h:ah}{v:Value}{l:List α}(H:Sl e Z h v l)(hw:0<e.w){k:IntKind}{i:Nat}(hi:i<l.length):
  ∃b o cs,bu e.w v (.int k (i:Int))=some (.pointer (some ⟨b,o,none⟩))∧cs.length=e.w∧(∀j (I:j<cs.length),aH h ⟨b,o+j,none⟩=some cs[j])∧e.R Z h cs l[i]∧Z b:=by
 obtain⟨ds,⟨G,a,cap,rfl,L⟩,W,U⟩:=H;have F:i*e.w+e.w≤ds.length:=by rw[G,←Au];exact ja e.w hi
 have A:ds≠[]:=λh0=>by rw[h0]at F;simp at F;omega
 rcases L with h0|⟨b,o,rfl,L⟩
 ·exact absurd h0 A
 ·refine⟨b,o+i*e.w,el e.w ds i,mS hi,Xo G hi,λj I=>?_,U i hi,W A b rfl⟩;have aa:j<e.w:=by rw[Xo G hi]at I;exact I
  have:=L (i*e.w+j) ae;rw[←vz]at this;rw[this];simp
theorem Sl.at1 {α:Type}{e:Rp α}(F:e.w=1){Z:Nat→Prop}{h:ah}{v:Value}{l:List α}(H:Sl e Z h v l){k:IntKind}{i:Nat}(hi:i<l.length):
  ∃p c,bu 1 v (.int k (i:Int))=some p∧ldV h p=some c∧e.R Z h [c] l[i]:=by
 obtain⟨ds,A,U,L⟩:=H;have I:=A.1;rw[F]at A;obtain⟨p,G,hq⟩:=A.at1 (k:=k) hi;refine⟨p,_,G,hq,?_⟩;have:=L i hi;rw[F,el_one (by rw[I,F];omega)]at this;exact this
def Ow {α:Type}(e:Rp α)(Z:Nat→Prop)(h:ah)(v:Value)(l:List α):Prop:=
 ∃ds,Own e.w h v l.length ds∧(∀b,blk v b→¬Z b)∧∀i (hi:i<l.length),e.R Z h (el e.w ds i) l[i]
theorem Ow.nil {α:Type}{e:Rp α}{Z:Nat→Prop}{h:ah}:Ow e Z h (.slice none 0 0) []:=⟨[],.inl ⟨rfl,rfl,rfl⟩,λb A=>A.elim,λi hi=>absurd hi (by simp)⟩
theorem Ow.fr {α:Type}{e:Rp α}{Z M:Nat→Prop}{h h':ah}{v:Value}{l:List α}(H:Ow e Z h v l)(f:Fr M h h')(q:∀b,b<h.size→Z b→¬M b)(A:∀b,blk v b→¬M b):Ow e Z h' v l:=by
 obtain⟨ds,G,I,F⟩:=H;exact⟨ds,G.fr f A,I,λi hi=>e.fr (F i hi) f q⟩
theorem Ow.ext {α:Type}{e:Rp α}{Z:Nat→Prop}{h h':ah}{v:Value}{l:List α}(H:Ow e Z h v l)(k:Ext h h'):Ow e Z h' v l:=H.fr (M:=λ_=>False) k.fr (λ_ _ _=>id) λ_ _=>id
theorem Ow.mono {α:Type}{e:Rp α}{Z Z':Nat→Prop}{h:ah}{v:Value}{l:List α}(H:Ow e Z h v l)(q:∀b,b<h.size→Z b→Z' b)(A:∀b,blk v b→¬Z' b):Ow e Z' h v l:=by
 obtain⟨ds,G,I,F⟩:=H;exact⟨ds,G,A,λi hi=>e.mono (F i hi) q⟩
theorem Ow.lt {α:Type}{e:Rp α}{Z:Nat→Prop}{h:ah}{v:Value}{l:List α}(H:Ow e Z h v l){b:Nat}(A:blk v b):b<h.size:=by
 obtain⟨ds,F,_⟩:=H;exact F.lt A
theorem Ow.isSl {α:Type}{e:Rp α}{Z:Nat→Prop}{h:ah}{v:Value}{l:List α}(H:Ow e Z h v l):∃a cap,v=.slice a l.length cap:=by
 obtain⟨ds,A,_⟩:=H;exact A.isSl
theorem Ow.one {α:Type}{e:Rp α}{Z:Nat→Prop}{h:ah}{v:Value}{l:List α}(H:Ow e Z h v l):aV v=true:=by
 obtain⟨a,cap,rfl⟩:=H.isSl;rfl
theorem Ow.sl {α:Type}{e:Rp α}{Z:Nat→Prop}{h:ah}{v:Value}{l:List α}(H:Ow e Z h v l):Sl e (λb=>Z b∨blk v b) h v l:=by
 obtain⟨ds,G,I,F⟩:=H;exact⟨ds,G.sl,λ_ b A=>.inr A,λi hi=>e.mono (F i hi) λ_ _ A=>.inl A⟩
theorem app_ow {α:Type}{e:Rp α}{Z:Nat→Prop}{z:Value}{t:TypeId}{bytes:Nat}{s x:Value}{h:ah}{l l2:List α}{K:Value→ah→Prop}
  {cs:List Value} (hs:Ow e Z h s l) (hc:SlC e.w h x l2.length cs) (I:∀i (hi:i<l2.length),e.R Z h (el e.w cs i) l2[i]) (hz:z.cells.size=e.w) (F:(l.length+l2.length)*bytes≤140737488355328) (hn:l.length+l2.length≤9223372036854775807) (hZ:∀b,Z b→b<h.size)
  (H:∀G h',Ow e Z h' G (l++l2)→Fr (blk s) h h'→(∀b,blk G b→blk s b∨h.size≤b)→K G h'):dy z t e.w bytes s x h K:=by
 obtain⟨ds,U,hd,he⟩:=hs;refine w8 U hc ?_ hz F hn λG h' o' L n'=>H G h' ⟨ds++cs,?_,?_,?_⟩ L n'
 ·intro v hv;obtain⟨j,hj,rfl⟩:=nW.1 hv;have W:=hc.1;have hw:0<e.w:=by
   rcases yd e.w with h0|h0
   ·rw[h0,Nat.mul_zero]at W;omega
   ·exact h0
  have hi:j/e.w<l2.length:=by rw[wQ hw];omega
  have:=e.one (I _ hi) (cs[j]) ?_
  ·exact this
  ·rw[nW];have h1:j/e.w*e.w+j%e.w=j:=by rw[fu];exact nV j e.w
   have h2:j%e.w<e.w:=iy _ hw;refine⟨j%e.w,by rw[Xo W hi];exact h2,?_⟩;simp only[yE,ye,h1]
 ·rw[co];exact o'
 ·intro b F A;rcases n' b F with h1|h1
  ·exact hd b h1 A
  ·have:=hZ b A;omega
 ·intro i hi;rw[co]at hi;by_cases h1:i<l.length
  ·rw[Xp U.sl.1 h1,YG h1];exact e.fr (he i h1) L λb _ A F=>hd b F A
  ·rw[Xq U.sl.1 ae,List.getElem_append_right ae];exact e.fr (I _ ae) L λb _ A F=>hd b F A
theorem SlC.single {h:ah}{b:Nat}{t:TypeId}{cs:List Value}(r:h[b]? =some (.cells cs.toArray t (0,0))):SlC cs.length h (.slice (some ⟨b,0,none⟩) 1 1) 1 cs:=
 ⟨by simp,_,1,rfl,.inr ⟨b,0,rfl,λj A=>by rw[aO,am r];simp[A]⟩⟩
theorem Rq:∀(cs:List Value) (c:Array Value) (o:Nat),(cs.zipIdx o).foldl (λcs (p:Value×Nat)=>cs.setIfInBounds p.2 p.1) c=wrL c o cs
 | [],c,o=>rfl
 |v::cs,c,o=>by
  simp only[List.zipIdx_cons,xY,wrL];exact Rq cs _ (o+1)
theorem fill_whole {c:Array Value}{w:Nat}{cs:List Value}(hc:c.size=w)(A:cs.length=w):aQ c [(0,w,.agg cs.toArray)]=some cs.toArray:=by
 simp only[aQ,bT];rw[aq (by simp[A,hc])]
 congr 1
 rw[YF,YE]
 ·simp only[aO];rw[Rq,RR cs c ae]
 ·simp
theorem fill_one {z v:Value}(A:aV v=true):aQ #[z] [(0,1,v)]=some #[v]:=by
 simp only[aQ,cI A];rw[aq (by simp)];simp
theorem push_ow {α:Type}{e:Rp α}{Z:Nat→Prop}{z:Value}{c:Array Value}{t t':TypeId}{bytes:Nat}{s:Value}{h:ah}{l:List α}{cs:List Value}{x:α}{K:Value→ah→Prop}
  (hs:Ow e Z h s l) (G:e.R Z h cs x) (hc:c.size=e.w) (U:z.cells.size=e.w) (hb:(l.length+1)*bytes≤140737488355328) (hn:l.length+1≤9223372036854775807) (W:∀b,Z b→b<h.size)
  (H:∀F h',Ow e Z h' F (l++[x])→Fr (blk s) h h'→(∀b,blk F b→blk s b∨h.size≤b)→K F h'):du c t 1 [(0,e.w,.agg cs.toArray)] h λv2 h3=>dy z t' e.w bytes s v2 h3 K:=by
 refine di (fill_whole hc (e.len G)) λb h1 r1 A n1=>?_
 have L:=SlC.single r1;rw[e.len G]at L;refine app_ow (l2:=[x]) (hs.ext A) L (λi hi=>?_) U (by simpa using hb) (by simpa using hn) (λk I=>ce (W k I) A.1) λF h' o' f' n'=>
  H F h' o' (A.fr.trans f') λk I=>(n' k I).imp id λh2=>bB A.1 h2
 have hi:i=0:=by simpa using hi
 subst hi;rw[el_self (e.len G)];exact e.ext G A
theorem push_ow1 {α:Type}{e:Rp α}{Z:Nat→Prop}{z z' c:Value}{t G:TypeId}{bytes:Nat}{s:Value}{h:ah}{l:List α}{x:α}{K:Value→ah→Prop}(L:e.w=1)
  (hs:Ow e Z h s l) (U:e.R Z h [c] x) (hz:z.cells.size=1) (hb:(l.length+1)*bytes≤140737488355328) (hn:l.length+1≤9223372036854775807) (hZ:∀b,Z b→b<h.size)
  (H:∀F h',Ow e Z h' F (l++[x])→Fr (blk s) h h'→(∀b,blk F b→blk s b∨h.size≤b)→K F h'):du #[z'] t 1 [(0,1,c)] h λv2 h3=>dy z G 1 bytes s v2 h3 K:=by
 refine di (fill_one (e.one U c (by simp))) λb h1 r1 A n1=>?_
 have W:=SlC.single (cs:=[c]) r1;rw[show[c].length=e.w by rw[L];rfl]at W;have ee:dy z G 1 bytes s (.slice (some ⟨b,0,none⟩) 1 1) h1 K=dy z G e.w bytes s (.slice (some ⟨b,0,none⟩) 1 1) h1 K:=by rw[L]
 rw[ee];refine app_ow (l2:=[x]) (hs.ext A) W (λi hi=>?_) (hz.trans L.symm) (by simpa using hb) (by simpa using hn) (λk I=>ce (hZ k I) A.1) λF h' o' f' n'=>
  H F h' o' (A.fr.trans f') λk I=>(n' k I).imp id λh2=>bB A.1 h2
 have hi:i=0:=by simpa using hi
 subst hi;rw[el_self (e.len U)];exact e.ext U A
end Rp
theorem bi:∀v∈([]:List Value),aV v=true:=λv h=>absurd h (by simp)
theorem az {a:Value}{l:List Value}(h:aV a=true)(H:∀v∈l,aV v=true):∀v∈a::l,aV v=true:=λv A=>by
 rcases fC.1 A with rfl|A
 ·exact h
 ·exact H v A
theorem bD {h:ah}{b:Nat}{o:Obj}(r:h[b]? =some o):b<h.size:=(mD.1 r).1
theorem aS {h:ah}{body:(ah→Prop)→Prop}(S:ah→Prop)(A:S h)(H:body S):bO h body:=⟨S,A,H⟩
theorem dh {c:Array Value}{t:TypeId}{n:Nat}{cs:List Value}{h:ah}{K:Value→ah→Prop}(U:cs.length=c.size)(h1:∀v∈cs,aV v=true)(W:cs.length=n)
  (H:∀b h',h'[b]? =some (.cells cs.toArray t (0,0))→Ext h h'→h.size≤b→K (.pointer (some ⟨b,0,none⟩)) h'):bh c t h λv G=>stK n v (.agg cs.toArray) G λ_ A=>K v A:=
 aJ λb G r2 L F=>da r2 U h1 W λA r3 I=>H b A r3 (L.upd F I) F
def I64 (n:Int):Prop:= -9223372036854775808≤n∧n≤9223372036854775807
def ko (m:Nat)(below:Bool):Int:=
 if below then(if 9223372036854775808≤m then-9223372036854775808 else-(m:Int))else(if 9223372036854775807<m then 9223372036854775807 else(m:Int))
def lC (a b:Int):Bool:= !(decide (a<0)==decide (b<0))
def xQ (m d:Nat)(below:Bool):Nat:=m/d+(if below then(if d<2*(m%d)then 1 else 0)else(if d≤2*(m%d)then 1 else 0))
def GM (m d:Nat)(below:Bool):Nat:=m/d+(if below∧m%d≠0 then 1 else 0)
def KC (a b:Int):Int:=if b=0 then 0 else ko (GM a.natAbs b.natAbs (lC a b)) (lC a b)
def cZ (a b d:Int):Int:=if d=0 then 0 else ko (xQ (a.natAbs*b.natAbs) d.natAbs (lC a b != decide (d<0))) (lC a b != decide (d<0))
def EO (a b:Int):Int:=max (-9223372036854775808) (min (a+b) 9223372036854775807)
def zdc (a b:Int):Int:=ko (a.natAbs*b.natAbs) (lC a b)
theorem Rm (m:Nat)(b:Bool):I64 (ko m b):=by
 unfold ko I64;cases b
 ·simp only[gO,cH];split<;>omega
 ·simp only[cN];split<;>omega
theorem zP (a b:Int):I64 (EO a b):=by unfold EO I64;omega
theorem jw (n:Int):IntKind.i64.wrap n=(n+9223372036854775808)%18446744073709551616-9223372036854775808:=by
 show(if(true&&decide (n%(2^64:Int)≥(2^63:Int)))=true then n%(2^64:Int)-(2^64:Int)else n%(2^64:Int))=_;split
 ·rename_i hh;simp only[xZ,dd]at hh;omega
 ·rename_i hh;simp only[xZ,dd]at hh;omega
theorem fJ (n:Int):IntKind.u64.wrap n=n%18446744073709551616:=by simp[IntKind.wrap,IntKind.bits,IntKind.signed]
theorem gF {m:Nat}(h:m<18446744073709551616):IntKind.u64.wrap (m:Int)=(m:Int):=by rw[fJ];omega
theorem UB {x:Int}(h:I64 x)(A:x<0):IntKind.u64.wrap (0-IntKind.u64.wrap x)=(x.natAbs:Int):=by
 unfold I64 at h;rw[fJ,fJ];omega
theorem UA {x:Int}(h:I64 x)(A:¬x<0):IntKind.u64.wrap x=(x.natAbs:Int):=by
 unfold I64 at h;rw[fJ];omega
theorem Vq (n i:Nat):n/2^i=2*(n/2^(i+1))+n/2^i%2:=by
 rw[Ml,←Jk];omega
theorem ZN {n d q r bit:Nat}(hd:0<d)(G:n/d=q)(F:n%d=r)(I:bit≤1):
  (2*n+bit)/d=2*q+(if d≤2*r+bit then 1 else 0)∧(2*n+bit)%d=(if d≤2*r+bit then 2*r+bit-d else 2*r+bit):=by
 have h:=nV n d;rw[G,F]at h;have H:r<d:=F▸iy _ hd;have e:2*n+bit=d*(2*q)+(2*r+bit):=by
  rw[←h,Ea,Jj];omega
 by_cases hc:d≤2*r+bit
 ·rw[aA hc,aA hc];have A:2*n+bit=(2*r+bit-d)+d*(2*q+1):=by rw[e,Jj d (2*q) 1];omega
  rw[A];constructor
  ·rw[Ji _ _ hd,ul ae];omega
  ·rw[Mk,wO ae]
 ·rw[aq hc,aq hc];have A:2*n+bit=(2*r+bit)+d*(2*q):=by rw[e];omega
  rw[A];constructor
  ·rw[Ji _ _ hd,ul ae];omega
  ·rw[Mk,wO ae]
def pX (n:Nat):Value:=.agg #[.int .u64 ((n/18446744073709551616:Nat):Int),.int .u64 ((n%18446744073709551616:Nat):Int)]
end Go.Crisp
namespace Go.Proofs.YtjljhnandbbldaaGreatDoor
open Go Go.Crisp
abbrev rI:Rp Int:=Rp.int .i64
structure OpD where
 kind:Int
 border:Int
 sigma:Int
 radius:Int
 x:List Int
 y:List Int
 filter:Int
 w:Int
 hh:Int
structure OpD.Wf (o:OpD):Prop where
 kind:I64 o.kind
 border:I64 o.border
 sigma:I64 o.sigma
 radius:I64 o.radius
 filter:I64 o.filter
 w:I64 o.w
 hh:I64 o.hh
 x:∀n∈o.x,I64 n
 y:∀n∈o.y,I64 n
def rOp:Rp OpD where
 w:=9
 R:=λZ h cs o=>∃s t,cs=[.int .i64 o.kind,.int .i64 o.border,.int .i64 o.sigma,.int .i64 o.radius,s,t,.int .i64 o.filter,.int .i64 o.w,.int .i64 o.hh]∧Rp.Sl rI Z h s o.x∧Rp.Sl rI Z h t o.y
 len:=by rintro _ _ _ _ ⟨s,t,rfl,_⟩;rfl
 one:=by
  rintro _ _ _ _ ⟨s,t,rfl,H,K⟩ v hv;have:=H.one;have:=K.one;simp only[List.mem_cons,List.not_mem_nil,or_false]at hv;rcases hv with rfl|rfl|rfl|rfl|rfl|rfl|rfl|rfl|rfl<;>first|rfl|assumption
 fr:=by rintro _ _ _ _ _ _ ⟨s,t,rfl,H,K⟩ f q;exact⟨s,t,rfl,H.fr f q,K.fr f q⟩
 mono:=by rintro _ _ _ _ _ ⟨s,t,rfl,H,K⟩ q;exact⟨s,t,rfl,H.mono q,K.mono q⟩
end Go.Proofs.YtjljhnandbbldaaGreatDoor
namespace Go.Crisp
open Go Go.ChangeShapes Go.WideShapes Go.ChangeAt Go.RowKit
inductive TS where
 |int (k:IntKind)
 |bool
 |str
 |sl (e:TS) (z:Nat)
 |st (b:TS)
 |unit
 |pair (a b:TS)
def TS.T:TS→Type
 | .int _=>Int
 | .bool=>Bool
 | .str=>ByteArray
 | .sl e _=>List e.T
 | .st b=>b.T
 | .unit=>Unit
 | .pair a b=>a.T×b.T
def TS.w:TS→Nat
 | .int _=>1
 | .bool=>1
 | .str=>1
 | .sl _ _=>1
 | .st b=>b.w
 | .unit=>0
 | .pair a b=>a.w+b.w
def Rd:(t:TS)→ah→List Value→t.T→Prop
 | .int k,_,cs,n=>cs=[.int k n]∧(Lit.int k n).wf=true
 | .bool,_,cs,b=>cs=[.bool b]
 | .str,_,cs,s=>cs=[.string s]∧s.size≤140737488351232
 | .sl e z,h,cs,l=>∃a cap,cs=[.slice a (List.length l) cap]∧List.length l≤cap∧cap≤maxLen∧cap*z≤140737488351232∧
   (List.length l=0∨∃b o,(e.w=0∨a=some ⟨b,o,none⟩)∧∀i (hi:i<List.length l),∃ds:List Value,ds.length=e.w∧
    (∀j (hj:j<ds.length),aH h ⟨b,o+i*e.w+j,none⟩=some ds[j])∧Rd e h ds (List.get (α:=e.T) l ⟨i,hi⟩))
 | .st b,h,cs,x=>Rd b h cs x
 | .unit,_,cs,_=>cs=[]
 | .pair a b,h,cs,x=>∃c1 c2,cs=c1++c2∧Rd a h c1 x.1∧Rd b h c2 x.2
mutual
/--The type has this shape. -/
def TS.okB (P:Program):TS→TypeId→Bool
 | .int k,t=>match P.underlying t with|some (.int k')=>decide (k'=k)|_=>false
 | .bool,t=>match P.underlying t with|some .bool=>true|_=>false
 | .str,t=>match P.underlying t with|some .string=>true|_=>false
 | .sl e z,t=>match P.underlying t with|some (.slice e')=>P.cellsOf e'==e.w&&P.bytesOf e'==z&&e.okB P e'|_=>false
 | .st b,t=>match P.underlying t with|some (.struct fs)=>P.cellsOf t==b.w&&b.okF P fs.toList 0|_=>false
 |_,_=>false
/--The fields have these shapes,from this place on. -/
def TS.okF (P:Program):TS→List Field→Nat→Bool
 | .unit,fs,_=>match fs with| []=>true|_=>false
 | .pair a b,fs,n=>match fs with| []=>false|f::fs=>f.offset==n&&P.cellsOf f.type==a.w&&a.okB P f.type&&b.okF P fs (n+a.w)
 |_,_,_=>false
end
def Bw (l:List Nat):Prop:=∀n∈l,n≤140737488351232
theorem JQ (b o n:Nat):(⟨b,o,none⟩:Addr).add n=⟨b,o+n,none⟩:=by
 unfold Addr.add;split<;>simp_all
theorem GR {w:World}{a:Addr}{n:Nat}{l:List Value}(h:w.cells? 0 a n=some l):l.length=n∧∀j (A:j<l.length),aH w.heap (a.add j)=some l[j]:=by
 unfold World.cells? at h;rw[aA (b9 _)]at h;have F:l.length=n:=by simpa using mapM_some_length h
 refine⟨F,λj A=>?_⟩;have:=mapM_some_get h j j (by simp[←F,A]);rw[iI A]at this;exact this
theorem zF {a b:List Nat}(h:Bw (a++b)):Bw a∧Bw b:=⟨λn A=>h n (cQ.2 (.inl A)),λn A=>h n (cQ.2 (.inr A))⟩
theorem Oo {a:Nat}{b:List Nat}(h:Bw (a::b)):a≤140737488351232∧Bw b:=⟨h a (Js ..),λn A=>h n (uo _ A)⟩
theorem Rf {H:Type}{P:Program}{e:TypeId}:∀{l:List (DataW H)},Bw (DataW.weightsAll P e l)→∀d∈l,Bw (d.weights P e)
 | [],_,d,hd=>by cases hd
 |x::r,h,d,hd=>by
  rw[DataW.weightsAll]at h;rcases fC.1 hd with rfl|hd
  ·exact(zF h).1
  ·exact Rf (zF h).2 d hd
theorem zc1 {H:Type}{enc:TypeId×Value→H}{P:Program}{w:World}{held:Bool}(t:TS):
  (∀(id:TypeId) (fuel:Nat) (cs:List Value) (x:DataW H×List MemPlace),t.okB P id=true→DataW.trod enc P w 0 (λ_=>true) held fuel id cs=some x→Bw (x.1.weights P id)→∃d:t.T,Rd t w.heap cs d)∧
  (∀(fs:List Field) (off fuel:Nat) (cs:List Value) (xs:List (DataW H×List MemPlace)),t.okF P fs off=true→off+t.w=cs.length→
   fs.mapM (λf=>DataW.trod enc P w 0 (λ_=>true) held fuel f.type ((cs.drop f.offset).take (P.cellsOf f.type)))=some xs→Bw (DataW.weightsEach P (fs.map (·.type)) (xs.map (·.1)))→∃d:t.T,Rd t w.heap (cs.drop off) d):=by
 induction t with
 |int k=>
  refine⟨λid fuel cs x ok h F=>?_,λ_ _ _ _ _ ok=>by simp[TS.okF]at ok⟩;rw[TS.okB]at ok;split at ok<;>simp at ok
  rename_i k' I;subst ok;obtain⟨n,rfl,_,hn⟩:=DataW.trod_int I h;exact⟨n,rfl,hn⟩
 |bool=>
  refine⟨λid fuel cs x ok h F=>?_,λ_ _ _ _ _ ok=>by simp[TS.okF]at ok⟩;rw[TS.okB]at ok;split at ok<;>simp at ok
  rename_i I;obtain⟨n,rfl,_⟩:=DataW.trod_bool I h;exact⟨n,by simp[Rd]⟩
 |str=>
  refine⟨λid fuel cs x ok h F=>?_,λ_ _ _ _ _ ok=>by simp[TS.okF]at ok⟩;rw[TS.okB]at ok;split at ok<;>simp at ok
  rename_i I;obtain⟨s,rfl,rfl,_⟩:=DataW.trod_string I h;simp only[DataW.weights]at F;have:=(Oo F).1;exact⟨s,rfl,by rw[Jv]at this;exact this⟩
 | sl e z ih=>
  refine⟨λid fuel cs x ok h F=>?_,λ_ _ _ _ _ ok=>by simp[TS.okF]at ok⟩;rw[TS.okB]at ok;split at ok<;>simp at ok
  rename_i e' I;obtain⟨⟨hc,hz⟩,ok⟩:=ok;rcases DataW.trod_slice I h with⟨rfl,rfl⟩|⟨a,len,cap,L,rest,n,rfl,rfl,rfl,_,bg,bk,b3,hi,b0,_⟩
  ·exact⟨([]:List e.T),none,0,rfl,cf _,b9 _,by simp,.inl rfl⟩
  ·obtain⟨b1,_⟩:=b0 rfl;rw[DataW.weights,I]at F;simp only[cS]at F;obtain⟨ar,F⟩:=Oo F;have F:=Rf (zF F).1;have al:L.length+rest.length=cap:=ae;rw[al,hz]at ar;have each:∀i,i<len→∃(ds:List Value) (x:e.T),ds.length=e.w∧(∀j (W:j<ds.length),aH w.heap ((a.add (i*e.w)).add j)=some ds[j])∧Rd e w.heap ds x:=by
    intro i A;have h1:=hi i A;have ab:i<L.length:=ae;rw[iI ab]at h1;rw[TD]at h1;obtain⟨ds,an,h1⟩:=h1;rw[hc]at an;obtain⟨U,W⟩:=GR an;obtain⟨x,hx⟩:=ih.1 e' n ds _ ok h1 (F _ (fO.2 ⟨_,cG ab,rfl⟩));exact⟨ds,x,U,W,hx⟩
   let f (i:Nat):Option e.T:=if A:i<len then some (each i A).choose_spec.choose else none
   have hf:∀i,i<len→∃y,f i=some y:=λi A=>⟨_,Jh A⟩
   obtain⟨l,U⟩:∃l,(List.range len).mapM f=some l:=by
    have:∀(r:List Nat),(∀i∈r,i<len)→∃l,r.mapM f=some l:=by
     intro r;induction r with
     |nil=>exact λ_=>⟨[],rfl⟩
     |cons i r au=>
      intro hr;obtain⟨y,hy⟩:=hf i (hr i (Js ..));obtain⟨l,U⟩:=au λk I=>hr k (uo _ I)
      exact⟨y::l,by simp[Jr,hy,U]⟩
    exact this _ λi hi=>mE.1 hi
   have aa:l.length=len:=by simpa using mapM_some_length U
   refine⟨l,some a,cap,by rw[aa],by rw[aa];exact bg,bk,ar,?_⟩;by_cases ad:List.length l=0
   ·exact .inl ad
   ·have hs:e.w=0∨a=⟨a.block,a.off,none⟩:=by
     by_cases h0:e.w=0
     ·exact .inl h0
     ·refine .inr ?_;obtain⟨ds,x,b2,W,_⟩:=each 0 ae;have W:=W 0 ae;obtain⟨b,o,sp⟩:=a;cases sp with
      |none=>rfl
      |some s=>simp[aH,Addr.add]at W;split at W<;>simp at W
    refine .inr ⟨a.block,a.off,hs.imp (λh=>h) (congrArg some),λi A=>?_⟩
    ·have G:i<len:=by rw[←aa];exact A
     obtain⟨h1,h2,h3⟩:=(each i G).choose_spec.choose_spec;have hx:l.get ⟨i,A⟩=(each i G).choose_spec.choose:=by
      have:=mapM_some_get U i i (by simp[G]);rw[show f i=some (each i G).choose_spec.choose from Jh G,iI A]at this;exact(un this).symm
     refine⟨(each i G).choose,h1,λj W=>?_,?_⟩
     ·have h2:=h2 j W;rcases hs with h0|ha
      ·omega
      ·have bo:(a.add (i*e.w)).add j=⟨a.block,a.off+i*e.w+j,none⟩:=by rw[ha,JQ,JQ]
       exact bo▸h2
     ·rw[show List.get (α:=e.T) l ⟨i,A⟩=_ from hx];exact h3
 | st b ih=>
  refine⟨λid fuel cs x ok h F=>?_,λ_ _ _ _ _ ok=>by simp[TS.okF]at ok⟩;rw[TS.okB]at ok;split at ok<;>simp at ok
  rename_i fs I;obtain⟨hc,ok⟩:=ok;cases fuel with
  |zero=>simp[DataW.trod]at h
  | succ n=>
   unfold DataW.trod at h;rw[I]at h;simp only at h;split at h
   ·rename_i ax;rw[Option.map_eq_some_iff]at h;obtain⟨xs,bd,rfl⟩:=h;rw[DataW.weights,I]at F;obtain⟨d,hd⟩:=ih.2 fs.toList 0 n cs xs ok (by rw[ax,hc];omega) bd F;exact⟨d,by simpa[Rd]using hd⟩
   ·simp at h
 |unit=>
  refine⟨λid fuel cs x ok h F=>by simp[TS.okB]at ok,λfs off fuel cs xs ok U h F=>⟨(),?_⟩⟩;simp only[Rd];simp[TS.w]at U;exact rC ae
 | pair a b be a8=>
  refine⟨λid fuel cs x ok h F=>by simp[TS.okB]at ok,λfs off fuel cs xs ok U h F=>?_⟩;cases fs with
  |nil=>simp[TS.okF]at ok
  |cons f fs=>
   simp[TS.okF]at ok;obtain⟨⟨⟨ho,hc⟩,bc⟩,bv⟩:=ok;rw[Jr]at h;simp only[Option.bind_eq_bind,TD,Option.pure_def,cK]at h;obtain⟨x,hx,ys,a9,rfl⟩:=h;simp only[sq,DataW.weightsEach]at F;obtain⟨a7,ay⟩:=zF F;obtain⟨d1,h1⟩:=be.1 f.type fuel _ x bc hx a7;obtain⟨d2,h2⟩:=a8.2 fs (off+a.w) fuel cs ys bv (by simp[TS.w]at U;omega) a9 ay;refine⟨(d1,d2),(cs.drop off).take a.w,cs.drop (off+a.w),?_,?_,h2⟩
   ·rw[←Jp];exact(mC ..).symm
   ·rw[←hc,←ho];exact h1
def RdV:(t:TS)→ah→Value→t.T→Prop
 | .st b,h,v,x=>∃cs:Array Value,v=.agg cs∧Rd b h cs.toList x
 | .int k,h,v,x=>Rd (.int k) h [v] x
 | .bool,h,v,x=>Rd .bool h [v] x
 | .str,h,v,x=>Rd .str h [v] x
 | .sl e z,h,v,x=>Rd (.sl e z) h [v] x
 |_,_,_,_=>False
def xi:List TS→ah→List Value→Prop
 | [],_,vs=>vs=[]
 |t::ts,h,vs=>∃v r,vs=v::r∧(∃x:t.T,RdV t h v x)∧xi ts h r
def IP (P:Program):List TS→List TypeId→Bool
 | [],ids=>match ids with| []=>true|_=>false
 |t::ts,ids=>match ids with| []=>false|id::ids=>t.okB P id&&IP P ts ids
theorem zeA {H:Type}{enc:TypeId×Value→H}{P:Program}{w:World}{held:Bool}{r:Reach}{G:Nat}{t:TS}{id:TypeId}{v:Value}{d:DataW H}{L:List MemPlace}
  (ok:t.okB P id=true) (A:Value.okWide P w r G id v) (h:DataW.Trod enc P w 0 (λ_=>true) held id v d L) (W:Bw (d.weights P id)):∃x:t.T,RdV t w.heap v x:=by
 obtain⟨fuel,U⟩:=h;obtain⟨x,I⟩:=(zc1 t).1 id fuel _ _ ok U W;cases t with
 |int k=>
  rw[TS.okB]at ok;split at ok<;>simp at ok
  rename_i F;obtain⟨n,rfl⟩:=okWide_int F A;exact⟨x,I⟩
 |bool=>
  rw[TS.okB]at ok;split at ok<;>simp at ok
  rename_i F;obtain⟨n,rfl⟩:=okWide_bool F A;exact⟨x,I⟩
 |str=>
  rw[TS.okB]at ok;split at ok<;>simp at ok
  rename_i F;obtain⟨n,rfl⟩:=okWide_string F A;exact⟨x,I⟩
 |sl e z=>
  rw[TS.okB]at ok;split at ok<;>simp at ok
  rename_i F;obtain⟨a,l,c,rfl⟩:=okWide_slice F A;exact⟨x,I⟩
 |st b=>
  rw[TS.okB]at ok;split at ok<;>simp at ok
  rename_i F;obtain⟨cs,rfl,_⟩:=okWide_struct F A;exact⟨x,cs,rfl,I⟩
 |unit=>simp[TS.okB]at ok
 |pair a b=>simp[TS.okB]at ok
theorem Zi {H:Type}{enc:TypeId×Value→H}{P:Program}{w:World}{held:Bool}{r:Reach}{A:Nat}:∀{ts:List TS} {ids:List TypeId} {F:List Value} {ds:List (DataW H)} {L:List MemPlace},
  IP P ts ids=true→(∀(j:Nat) t v,ids[j]? =some t→F[j]? =some v→Value.okWide P w r A t v)→DataW.TrodAll enc P w 0 (λ_=>true) held ids F ds L→
  Bw (DataW.weightsEach P ids ds)→xi ts w.heap F
 | [],ids,F,ds,L,ok,_,h,_=>by
  cases ids with
  |nil=>exact(trodAll_nil h).1
  |cons=>simp[IP]at ok
 | t::ts,ids,F,ds,L,ok,hval,h,hw=>by
  cases ids with
  |nil=>simp[IP]at ok
  |cons id ids=>
   simp[IP]at ok;obtain⟨v,G,d,W,p,q,rfl,rfl,rfl,h1,h2⟩:=trodAll_cons h;rw[DataW.weightsEach]at hw;obtain⟨U,I⟩:=zF hw;exact⟨v,G,rfl,zeA ok.1 (hval 0 id v rfl rfl) h1 U,Zi ok.2 (λj t v ht hv=>hval (j+1) t v ht hv) h2 I⟩
theorem Rw {H:Type}{enc:TypeId×Value→H}{P:Program}{W L:World}(G:laidOutB P=true)(I:Below W.heap.size W L):∀{ids:List TypeId} {F:List Value} {ds:List (DataW H)} {A:List MemPlace},
  ids.all (λt=>P.readableRec t&&decide (t<P.types.size))=true→DataW.TrodAll enc P W 0 (λ_=>true) true ids F ds A→DataW.TrodAll enc P L 0 (λb=>decide (b<W.heap.size)) true ids F ds A
 | [],F,ds,A,_,h=>by obtain⟨rfl,rfl,rfl⟩:=trodAll_nil h;exact trodAll_mk0
 |t::ids,F,ds,A,hr,h=>by
  simp only[List.all_cons,dj,dd]at hr;obtain⟨v,U,d,aa,p,q,rfl,rfl,rfl,h1,h2⟩:=trodAll_cons h;refine trodAll_cons_mk (Below.trod G hr.1.1 hr.1.2 h1 I ?_) (Rw G I hr.2 h2);obtain⟨m,hm⟩:=h1;exact DataW.trod_lt m _ _ _ hm
end Go.Crisp
namespace Go.Crisp
open Go
theorem Wx {e:TS}{z:Nat}{h:ah}{cs:List Value}{l:List e.T}(enc:e.T→Value)(Q:e.T→Prop)(hw:e.w=1)(L:∀ds x,Rd e h ds x→ds=[enc x]∧Q x)(H:Rd (.sl e z) h cs l):
  ∃v,cs=[v]∧SlC 1 h v l.length (l.map enc)∧(∀x∈l,Q x)∧l.length*z≤140737488351232:=by
 obtain⟨a,cap,rfl,h1,_,h2,A⟩:=H;have W:l.length*z≤140737488351232:=bB (ja z h1) h2;rcases A with A|⟨b,o,F,A⟩
 ·have:l=[]:=nZ A;subst this;exact⟨_,rfl,⟨rfl,a,cap,rfl,.inl rfl⟩,λx G=>absurd G (by simp),W⟩
 ·have F:a=some ⟨b,o,none⟩:=F.resolve_left ae;refine⟨_,rfl,⟨by simp,a,cap,rfl,.inr ⟨b,o,F,λj U=>?_⟩⟩,λx G=>?_,W⟩
  ·rw[cS]at U;obtain⟨ds,_,hc,I⟩:=A j U;obtain⟨rfl,_⟩:=L _ _ I;have:=hc 0 (by simp);rw[hw]at this;simp only[lN,gN,Ed]at this;rw[dX];exact this
  ·obtain⟨i,hi,rfl⟩:=nW.1 G;obtain⟨ds,_,hc,I⟩:=A i hi;exact(L _ _ I).2
theorem zeh {n:Int}(h:(Lit.int .u8 n).wf=true):0≤n∧n≤255:=by
 have h:(decide (IntKind.u8.min≤n)&&decide (n≤IntKind.u8.max))=true:=h;rw[dj,dd,dd]at h;exact h
theorem Da {n:Int}(h:(Lit.int .i64 n).wf=true): -9223372036854775808≤n∧n≤9223372036854775807:=by
 have h:(decide (IntKind.i64.min≤n)&&decide (n≤IntKind.i64.max))=true:=h;rw[dj,dd,dd]at h;exact h
theorem zex {h:ah}{cs:List Value}{z:Nat}{l:List Int}(H:Rd (.sl (.int .u8) z) h cs l):
  ∃v,cs=[v]∧SlC 1 h v l.length (l.map (.int .u8))∧(∀x∈l,0≤x∧x≤255)∧l.length*z≤140737488351232:=
 Wx (e:=.int .u8) (Value.int .u8) (λx:Int=>0≤x∧x≤255) rfl (λds x A=>⟨A.1,zeh A.2⟩) H
theorem zcZ (e:EK)(k:IntKind)(a b:Nat)(h:0<b):ak e .rem (.int k (a:Int)) (.int k (b:Int))=some (.int k ((a%b:Nat):Int)):=by
 rw[em _ _ _ _ ae,Int.ofNat_tmod]
end Go.Crisp
namespace Go.Proofs.YtjljhnandbbldaaGreatDoor
open Go Go.Crisp
abbrev tI:TS:=.int .i64
abbrev tIs:TS:=.sl (.int .i64) 8
abbrev tOp:TS:=.pair tI (.pair tI (.pair tI (.pair tI (.pair tIs (.pair tIs (.pair tI (.pair tI (.pair tI .unit))))))))
def UY (x:tOp.T):OpD:=⟨x.1,x.2.1,x.2.2.1,x.2.2.2.1,x.2.2.2.2.1,x.2.2.2.2.2.1,x.2.2.2.2.2.2.1,x.2.2.2.2.2.2.2.1,x.2.2.2.2.2.2.2.2.1⟩
theorem ZC {h:ah}{v:Value}{l:List Int}(H:SlC 1 h v l.length (l.map (Value.int .i64))):Rp.Sl rI (λ_=>True) h v l:=
 ⟨_,H,λ_ _ _=>trivial,λi hi=>by
  show Rp.el 1 _ i=[af l[i]];rw[Rp.el_one (by simpa using hi),dX]⟩
theorem YT {h:ah}{cs:List Value}{l:List Int}(H:Rd tIs h cs l):∃v,cs=[v]∧Rp.Sl rI (λ_=>True) h v l∧∀n∈l,I64 n:=by
 obtain⟨v,rfl,h1,F,_⟩:=Wx (e:=.int .i64) (Value.int .i64) I64 rfl (λds x A=>⟨A.1,Da A.2⟩) H;exact⟨v,rfl,ZC h1,F⟩
theorem zej {h:ah}{cs:List Value}{x:tOp.T}(H:Rd tOp h cs x):rOp.R (λ_=>True) h cs (UY x)∧(UY x).Wf:=by
 obtain⟨_,_,rfl,⟨rfl,a1⟩,_,_,rfl,⟨rfl,a2⟩,_,_,rfl,⟨rfl,a3⟩,_,_,rfl,⟨rfl,a4⟩,_,_,rfl,a5,_,_,rfl,a6,_,_,rfl,⟨rfl,L⟩,_,_,rfl,⟨rfl,I⟩,_,_,rfl,⟨rfl,F⟩,rfl⟩:=H;obtain⟨s,rfl,G,A⟩:=YT a5;obtain⟨t,rfl,t1,t2⟩:=YT a6;exact⟨⟨s,t,rfl,G,t1⟩,⟨Da a1,Da a2,Da a3,Da a4,Da L,Da I,Da F,A,t2⟩⟩
theorem zeG {h:ah}{cs:List Value}{x:tOp.T}(H:Rd tOp h cs x):(UY x).x.length≤17592186044416∧(UY x).y.length≤17592186044416:=by
 obtain⟨_,_,rfl,_,_,_,rfl,_,_,_,rfl,_,_,_,rfl,_,_,_,rfl,a5,_,_,rfl,a6,_⟩:=H;obtain⟨_,I,_,h1,_,L,_⟩:=a5;obtain⟨_,W,_,U,_,G,_⟩:=a6;have A:(UY x).x.length=List.length (α:=tI.T) x.2.2.2.2.1:=rfl;have F:(UY x).y.length=List.length (α:=tI.T) x.2.2.2.2.2.1:=rfl;rw[A,F];omega
end Go.Proofs.YtjljhnandbbldaaGreatDoor
namespace Go.Proofs.YtjljhnandbbldaaGreatDoor
open Go Go.Crisp
open _root_.Go.Proofs.Tryz
section
variable {a0 a1 a2 a3 a4 a5 a6:Value}{h:ah}{R:Value→ah→Prop}
abbrev qC:FuncId:=6
abbrev kN:FuncId:=7
abbrev sI:FuncId:=8
abbrev yq:FuncId:=9
abbrev jr:FuncId:=10
abbrev lY:FuncId:=11
abbrev iQ:FuncId:=12
abbrev ke:FuncId:=13
abbrev lG:FuncId:=14
abbrev yN:FuncId:=15
abbrev aU:FuncId:=16
abbrev qA:FuncId:=18
abbrev AV:FuncId:=23
abbrev oB:FuncId:=25
abbrev kW:FuncId:=26
abbrev gZ:FuncId:=27
abbrev bL:FuncId:=28
abbrev bN:FuncId:=29
abbrev fH:FuncId:=30
abbrev tZ:FuncId:=31
abbrev oN:FuncId:=32
abbrev yP:FuncId:=33
abbrev yO:FuncId:=34
abbrev AR:FuncId:=35
abbrev oA:FuncId:=36
abbrev gW:FuncId:=37
abbrev fI:FuncId:=38
abbrev iS:FuncId:=39
abbrev DA:FuncId:=40
abbrev mo:FuncId:=41
abbrev rW:FuncId:=42
abbrev rT:FuncId:=43
abbrev kT:FuncId:=44
abbrev eK:FuncId:=46
abbrev uF:FuncId:=47
abbrev xa:FuncId:=48
abbrev js:FuncId:=49
abbrev yI:FuncId:=52
abbrev ng:FuncId:=56
abbrev uX:FuncId:=57
abbrev iX:FuncId:=58
abbrev jn:FuncId:=59
abbrev gQ:FuncId:=60
abbrev PG:FuncId:=61
abbrev vQ:FuncId:=62
abbrev DH:FuncId:=63
abbrev pZ:FuncId:=64
abbrev oM:FuncId:=65
abbrev yQ:FuncId:=66
abbrev cU:FuncId:=67
abbrev eZ:FuncId:=68
abbrev jO:FuncId:=69
abbrev kU:FuncId:=70
abbrev kf:FuncId:=71
abbrev bM:FuncId:=72
abbrev dF:FuncId:=73
abbrev AS:FuncId:=74
abbrev oO:FuncId:=75
abbrev ef:FuncId:=76
abbrev ub:FuncId:=77
abbrev mJ:FuncId:=78
abbrev jp:FuncId:=79
abbrev AX:FuncId:=80
abbrev xg:FuncId:=81
abbrev PH:FuncId:=82
abbrev DB:FuncId:=83
abbrev AW:FuncId:=84
abbrev lX:FuncId:=85
abbrev lW:FuncId:=86
abbrev lV:FuncId:=87
abbrev yJ:FuncId:=88
abbrev vH:FuncId:=89
abbrev iU:FuncId:=90
abbrev jq:FuncId:=91
abbrev rX:FuncId:=92
abbrev oh:FuncId:=93
abbrev iT:FuncId:=94
abbrev gE:FuncId:=95
abbrev ii:FuncId:=96
abbrev rV:FuncId:=97
abbrev kC:FuncId:=98
abbrev qy:FuncId:=99
abbrev jc:FuncId:=100
abbrev ij:FuncId:=101
abbrev vO:FuncId:=102
abbrev gC:FuncId:=103
abbrev nE:FuncId:=104
abbrev bI:FuncId:=105
abbrev xf:FuncId:=106
abbrev xe:FuncId:=112
abbrev sN:FuncId:=113
abbrev gY:FuncId:=116
abbrev mZ:FuncId:=117
abbrev sO:FuncId:=118
abbrev AQ:FuncId:=119
abbrev lT:FuncId:=120
abbrev AT:FuncId:=121
abbrev qf:FuncId:=122
abbrev yS:FuncId:=123
abbrev yR:FuncId:=124
abbrev p8:FuncId:=125
abbrev gU:FuncId:=126
abbrev dY:FuncId:=127
abbrev kV:FuncId:=128
abbrev lS:FuncId:=129
abbrev jF:FuncId:=130
abbrev gx:FuncId:=131
abbrev yo:FuncId:=132
abbrev mK:FuncId:=133
abbrev lJ:FuncId:=134
abbrev dI:FuncId:=135
abbrev KR:FuncId:=136
abbrev vI:FuncId:=137
abbrev AL:FuncId:=138
abbrev AK:FuncId:=139
abbrev DI:FuncId:=140
abbrev AJ:FuncId:=141
abbrev sD:FuncId:=142
abbrev G9:FuncId:=143
abbrev kg:FuncId:=144
abbrev ib:FuncId:=145
abbrev A3:FuncId:=146
abbrev qi:FuncId:=147
abbrev lZ:FuncId:=148
abbrev nI:FuncId:=149
abbrev gw:FuncId:=150
abbrev ig:FuncId:=151
abbrev dt:FuncId:=152
abbrev dZ:FuncId:=153
abbrev yX:FuncId:=157
abbrev yY:FuncId:=158
abbrev qe:FuncId:=162
abbrev Et:FuncId:=163
abbrev kc:FuncId:=164
abbrev lF:FuncId:=165
abbrev nG:FuncId:=166
abbrev Dz:FuncId:=167
abbrev tW:FuncId:=168
abbrev sJ:FuncId:=169
abbrev yT:FuncId:=170
abbrev xh:FuncId:=171
abbrev w9:FuncId:=172
abbrev G8:FuncId:=173
abbrev ji:FuncId:=174
abbrev mG:FuncId:=175
abbrev og:FuncId:=176
abbrev lU:FuncId:=177
abbrev AU:FuncId:=178
abbrev ml:FuncId:=179
abbrev qs:FuncId:=180
abbrev rO:FuncId:=181
abbrev AM:FuncId:=182
abbrev qw:FuncId:=183
abbrev qu:FuncId:=184
abbrev sK:FuncId:=185
abbrev ud:FuncId:=186
abbrev gA:FuncId:=188
abbrev yp:FuncId:=199
abbrev AP:FuncId:=200
abbrev DG:FuncId:=201
abbrev AH:FuncId:=202
abbrev AI:FuncId:=203
abbrev kP:FuncId:=204
abbrev fD:FuncId:=205
abbrev mI:FuncId:=206
abbrev mL:FuncId:=207
abbrev yl:FuncId:=208
abbrev AZ:FuncId:=209
abbrev gy:FuncId:=210
abbrev fh:FuncId:=211
abbrev yU:FuncId:=212
abbrev kE:FuncId:=213
abbrev gB:FuncId:=214
abbrev qD:FuncId:=215
abbrev A2:FuncId:=216
abbrev p9:FuncId:=217
abbrev lE:FuncId:=218
abbrev rN:FuncId:=219
abbrev mH:FuncId:=220
abbrev uC:FuncId:=221
abbrev qk:FuncId:=222
abbrev uB:FuncId:=223
abbrev qp:FuncId:=224
abbrev yn:FuncId:=225
abbrev jk:FuncId:=226
abbrev yM:FuncId:=227
abbrev yK:FuncId:=228
abbrev dD:FuncId:=229
abbrev KQ:FuncId:=236
abbrev AO:FuncId:=237
abbrev xd:FuncId:=238
abbrev xb:FuncId:=239
abbrev eE:FuncId:=240
abbrev nF:FuncId:=241
abbrev yj:FuncId:=242
abbrev yr:FuncId:=243
abbrev ju:FuncId:=244
abbrev mq:FuncId:=245
abbrev iO:FuncId:=246
abbrev lI:FuncId:=247
abbrev kO:FuncId:=248
abbrev Ha:FuncId:=249
abbrev AY:FuncId:=250
abbrev uG:FuncId:=251
abbrev qa:FuncId:=252
abbrev tT:FuncId:=253
abbrev fb:FuncId:=254
abbrev qB:FuncId:=255
abbrev gX:FuncId:=256
abbrev yW:FuncId:=257
abbrev yV:FuncId:=258
abbrev vM:FuncId:=259
abbrev nH:FuncId:=260
abbrev qn:FuncId:=261
abbrev rM:FuncId:=262
abbrev qh:FuncId:=263
abbrev DD:FuncId:=264
abbrev rP:FuncId:=265
abbrev xc:FuncId:=266
abbrev vL:FuncId:=267
abbrev DC:FuncId:=268
abbrev sH:FuncId:=269
abbrev mY:FuncId:=270
abbrev DF:FuncId:=271
abbrev yL:FuncId:=272
abbrev vJ:FuncId:=273
abbrev sF:FuncId:=274
abbrev gH:FuncId:=275
abbrev uE:FuncId:=276
abbrev G7:FuncId:=278
abbrev ym:FuncId:=279
abbrev uA:FuncId:=280
abbrev sC:FuncId:=281
abbrev iW:FuncId:=282
abbrev DJ:FuncId:=283
abbrev dE:FuncId:=284
abbrev ch:FuncId:=285
abbrev JV:FuncId:=286
abbrev lH:FuncId:=287
abbrev iR:FuncId:=288
abbrev iA:FuncId:=289
abbrev qg:FuncId:=290
abbrev fo:FuncId:=291
abbrev mm:FuncId:=292
abbrev AN:FuncId:=293
abbrev uD:FuncId:=294
abbrev vN:FuncId:=295
abbrev jl:FuncId:=296
abbrev ed:FuncId:=297
abbrev fT:FuncId:=298
abbrev jm:FuncId:=299
abbrev sG:FuncId:=300
abbrev kD:FuncId:=301
abbrev vG:FuncId:=302
abbrev AG:FuncId:=303
abbrev iP:FuncId:=304
abbrev dQ:FuncId:=306
abbrev DE:FuncId:=307
abbrev rR:FuncId:=308
abbrev qx:FuncId:=309
abbrev dr:FuncId:=310
abbrev pY:Nat:=0
abbrev gj:Nat:=1
abbrev zS:Nat:=2
abbrev xm:Nat:=3
theorem zdv:YY prog=true:=rfl
instance:lR prog:=⟨zdv⟩
abbrev Eu:Array Value:=#[(.pointer none),(.pointer none),(.pointer none),(.pointer none),(.int .i64 0),(.int .i64 0),(.int .i64 0),(.int .i64 0),(.int .i64 0),(.int .i64 0),(.int .i64 0),(.int .i64 0),(.int .i64 0),(.int .i64 0),(.int .i64 0),(.pointer none),(.int .i64 0)]
abbrev qZ:Array Value:=#[(.pointer none),(.pointer none),(.pointer none),(.pointer none),(.pointer none),(.slice none 0 0),(.slice none 0 0),(.slice none 0 0),(.int .i64 0),(.slice none 0 0),(.slice none 0 0),(.slice none 0 0),(.bool false),(.int .i64 0)]
abbrev aK:Array Value:=#[(.slice none 0 0),(.slice none 0 0),(.int .i64 0),(.int .i64 0),(.int .i64 0),(.int .i64 0),(.slice none 0 0),(.slice none 0 0),(.int .i64 0),(.slice none 0 0),(.bool false),(.slice none 0 0),(.slice none 0 0),(.slice none 0 0),(.int .i64 0),(.bool false),(.bool false),(.slice none 0 0),(.slice none 0 0),(.slice none 0 0)]
def wB (a0 a1 a2 a3 a4 a5 a6:Value)(h:ah)(R:Value→ah→Prop):Prop:=
 bh (Value.cells a0) 25 h λaj ba=>
 bh (Value.cells a1) 31 ba λal bb=>
 ag prog kN #[] bb λbc r=>
 vK (unV .not bc) λs=>
 vK (gV s false (some a6)) λbd=>
 vK (gV s false (aC bd)) λbe=>
 vK (gV s false (ak .i .gtr be (af 600))) λbf=>
 vK (aF s (.bool true) bf) λbg=>
 aE bg (
 ag prog kN #[] r λbi bj=>
 R bi bj) (
 vK (aR 5 r aj) λbk=>
 vK (aR 9 r al) λbl=>
 ag prog sI #[bk,bl,a2,a3,a4,a5] r λt bm=>
 vK (aP t 0) λu=>
 vK (aP t 1) λd=>
 vK (aP t 2) λbn=>
 vK (aP t 3) λbo=>
 bh aK 48 bm λl bp=>
 stK 20 l bn bp λev m=>
 vK (unV .not bo) λbq=>
 aE bq (
 vK (aR 5 m aj) λbr=>
 vK (aR 9 m al) λbs=>
 ag prog yq #[br,bs] m λbt bv=>
 vK (unV .not bt) λbw=>
 R bw bv) (
 vK (ak .p .eql d (.pointer none)) λn=>
 vK (gV n false (some d)) λbx=>
 vK (gV n false (some a6)) λbz=>
 gK n false (λb0=>ag prog yN #[bx,bz] m b0) m λb1 am=>
 vK (gV n false (unV .not b1)) λb2=>
 vK (aF n (.bool true) b2) λb3=>
 aE b3 (
 R (.bool false) am) (
 ag prog oB #[d] am λe an=>
 vK (ak .p .eql e (.pointer none)) λo=>
 vK (gV o false (some e)) λb4=>
 gK o false (λb5=>ag prog kW #[b4] an b5) an λb6 ao=>
 vK (gV o false (aC b6)) λb7=>
 vK (gV o false (ak .i .neq b7 ai)) λb8=>
 vK (aF o (.bool true) b8) λf=>
 vK (gV f false (some e)) λb9=>
 gK f false (λca=>ag prog gZ #[b9,ai] ao ca) ao λcb ap=>
 gK f false (λcc=>du #[ai] 3 1 [(0,1,ai)] ap cc) ap λcd aq=>
 gK f false (λce=>ag prog AV #[cb,cd] aq ce) aq λcf ar=>
 vK (gV f false (unV .not cf)) λcg=>
 vK (aF f (.bool true) cg) λch=>
 aE ch (
 R (.bool false) ar) (
 ag prog bL #[u] ar λci cj=>
 ag prog bN #[u] cj λck cl=>
 vK (ak .i .mul ci ck) λcm=>
 ag prog aU #[u] cl λcn co=>
 vK (ak .i .mul cm cn) λcp=>
 bA [ai] co λz ew c cq=>
 vK (ak .i .lss (ix z 0) cp) λcr=>
 aE cr (
 ag prog fH #[e,ai,(ix z 0)] c λcs au=>
 vK (ak .i .neq cs aG) λct=>
 aE ct (
 R (.bool false) au) (
 vK (ak .i .add (ix z 0) aG) λcu=>
 cq [cu] au)) (
 bO c λS=>
 vK (aB 0 l) λcv=>
 vK (aB 0 cv) λcw=>
 qK S (λc=>ldV c cw) λcx=>
 qK S (λc=>aC cx) λcy=>
 vK (aB 0 l) λcz=>
 vK (aB 1 cz) λc0=>
 qK S (λc=>ldV c c0) λc1=>
 qK S (λc=>aC c1) λc2=>
 vK (ak .i .mul cy c2) λc3=>
 ag prog aU #[u] c λc4 av=>
 S av∧(vK (ak .i .mul c3 c4) λc5=>
 bA [ai] av λaa ex aw c6=>
 vK (ak .i .lss (ix aa 0) c5) λc7=>
 aE c7 (
 ag prog fH #[e,aG,(ix aa 0)] aw λc8 ax=>
 vK (ak .i .neq c8 (af 2)) λc9=>
 aE c9 (
 R (.bool false) ax) (
 vK (ak .i .add (ix aa 0) aG) λda=>
 c6 [da] ax)) (
 Q9 aw λv db=>
 bA [aG] db λg ey dc dd=>
 ag prog iQ #[d] dc λde ab=>
 vK (ak .i .lss (ix g 0) de) λdf=>
 aE df (
 ag prog lG #[d,(ix g 0)] ab λay dg=>
 vK (aC ay) λdh=>
 bA [ai] dg λac ez w di=>
 vK (ak .i .lss (ix ac 0) dh) λdj=>
 aE dj (
 vK (bu 1 ay (ix ac 0)) λdk=>
 vK (ldV w dk) λaz=>
 vK (Bv (.int .i64) ai false w v az) λdl=>
 vK (ak .i .add dl aG) λdm=>
 pG (.int .i64) v az dm w λe0 dn=>
 vK (ak .i .add (ix ac 0) aG) λdp=>
 di [dp] dn) (
 vK (ak .i .add aG (ix g 0)) λdq=>
 ag prog gZ #[e,dq] w λx ad=>
 vK (aC x) λdr=>
 vK (ak .i .gtr dr aG) λj=>
 vK (gV j false (some x)) λds=>
 vK (gV j false (aC ds)) λdt=>
 vK (gV j false (ak .i .eql dt aG)) λdv=>
 vK (gV j false (some dv)) λk=>
 vK (gV k true (some x)) λdw=>
 vK (gV k true (bu 1 dw ai)) λdx=>
 vK (gV k true (ldV ad dx)) λdy=>
 vK (gV k true (some (ix g 0))) λdz=>
 vK (gV k true (ak .i .neq dy dz)) λd0=>
 vK (gV j false (aF k d0 (.bool false))) λd1=>
 vK (aF j (.bool true) d1) λa=>
 vK (gV a false (some x)) λd2=>
 vK (gV a false (aC d2)) λd3=>
 vK (gV a false (ak .i .eql d3 aG)) λd4=>
 vK (gV a false (some d)) λd5=>
 vK (gV a false (some (ix g 0))) λd6=>
 gK a false (λd7=>ag prog lG #[d5,d6] ad d7) ad λd8 a7=>
 vK (gV a false (aC d8)) λd9=>
 vK (gV a false (ak .i .gtr d9 ai)) λea=>
 vK (gV a false (ak .b .neq d4 ea)) λeb=>
 vK (aF a (.bool true) eb) λec=>
 aE ec (
 R (.bool false) a7) (
 vK (ak .i .add (ix g 0) aG) λed=>
 dd [ed] a7))) (
 vK (aB 6 l) λee=>
 vK (ldV ab ee) λa8=>
 vK (aC a8) λef=>
 bA [ai] ab λae e1 q eg=>
 vK (ak .i .lss (ix ae 0) ef) λeh=>
 aE eh (
 vK (bu 10 a8 (ix ae 0)) λei=>
 vK (aR 10 q ei) λej=>
 bh #[ai,ai,ai,ai,ai,ai,ai,ai,ai,ai] 59 q λa9 ek=>
 stK 10 a9 ej ek λe2 y=>
 vK (aB 0 a9) λel=>
 vK (ldV y el) λem=>
 vK (Bv (.int .i64) ai false y v em) λen=>
 vK (ak .i .neq en aG) λeo=>
 aE eo (
 R (.bool false) y) (
 vK (ak .i .add (ix ae 0) aG) λep=>
 eg [ep] y)) (
 vK (Oq q v) λeq=>
 vK (aB 6 l) λer=>
 vK (ldV q er) λes=>
 vK (aC es) λet=>
 vK (ak .i .eql eq et) λeu=>
 R eu q)))))))))
theorem Gv (H:wB a0 a1 a2 a3 a4 a5 a6 h R):ag prog qC #[a0,a1,a2,a3,a4,a5,a6] h R:=fk f6 (.s .z (.s (.s .z (.s (.s .z .z) .z)) (.s .z (.s (.s .z (.s (.s .z .z) .z)) (.s (.s .z (.s (.s .z .z) .z)) (.s .z (.s (.s .z (.s (.s .z .z) .z)) (.s (.s .z (.l 78918677504442992524820234240 [88] (.s .z (.s (.s .z .z) (.s (.s .z (.s .z (.s (.s .z .z) .z))) .z))))) (.s (.s (.d (.op 0 .r (.op 1 .r (.op 2 .r (.op 3 .r (.op 4 .r (.op 5 .r (.op 6 .r (.op 7 .r (.op 8 .r (.op 9 .r (.op 12 .r (.op 10 .e (.op 11 .r .nil)))))))))))))) (.l 82752231182898815329704785249058816 [108] (.s .z (.s (.s .z .z) (.s (.s .z (.s .z (.s (.s .z .z) .z))) .z))))) (.s .z (.s (.s .z (.l 93536104789177620611536356179358000282097256775680 [23] (.s (.s .z (.s .z .z)) (.s (.s (.s .z (.l 86942144748299777414892212198816811581440 [127] (.s .z (.s (.s .z .z) (.s (.s .z .z) .z))))) (.s .z (.s .z (.s (.s .z .z) .z)))) .z)))) (.s (.s .z (.l 765499481594631006885053226940803854903305723898249216 [169] (.s .z (.s (.s .z .z) (.s (.s .z (.s .z (.s (.s .z .z) .z))) .z))))) (.s .z .z))))))))))))) H
def Cd (h:ah)(R:Value→ah→Prop):Prop:=
 du #[(.int .u16 0)] 22 1 [(0,1,(.int .u16 9))] h λae aj=>
 ag prog tZ #[aG,aG,aG,(af 255),ae] aj λo al=>
 vK (aP o 0) λam=>
 vK (aP o 1) λan=>
 vK ((aQ #[ai,ai,ai,ai,(.slice none 0 0),(.slice none 0 0),ai,ai,ai] [(0,1,aG)]).map .agg) λao=>
 ag prog oN #[ao,aG,aG] al λq ap=>
 vK (aP q 0) λaq=>
 vK (aP q 1) λar=>
 bh #[(.pointer none),(.pointer none),ai] 81 ap λr au=>
 stK 3 r aq au λb5 av=>
 ag prog yP #[] av λaw s=>
 vK (unV .not aw) λf=>
 gK f false (λax=>ag prog yO #[] s ax) s λay g=>
 vK (gV f false (unV .not ay)) λaz=>
 vK (aF f (.bool true) az) λj=>
 vK (gV j false (some an)) λa0=>
 vK (gV j false (ak .i .neq a0 ai)) λa1=>
 vK (aF j (.bool true) a1) λk=>
 vK (gV k false (some ar)) λa2=>
 vK (gV k false (ak .i .neq a2 ai)) λa3=>
 vK (aF k (.bool true) a3) λa4=>
 aE a4 (
 R (.bool false) g) (
 vK (aR 3 g r) λa5=>
 ag prog AR #[am,a5,aG,aG,aG,aG] g λt u=>
 vK (aP t 0) λb=>
 vK (aP t 1) λa6=>
 vK (ak .i .neq a6 ai) λl=>
 vK (gV l false (some b)) λa7=>
 vK (gV l false (ak .p .eql a7 (.pointer none))) λa8=>
 vK (aF l (.bool true) a8) λc=>
 vK (gV c false (some b)) λa9=>
 gK c false (λba=>ag prog qA #[a9] u ba) u λbb v=>
 vK (gV c false (ak .i .neq bb (af 7))) λbc=>
 vK (aF c (.bool true) bc) λd=>
 vK (gV d false (some b)) λbd=>
 gK d false (λbe=>ag prog iQ #[bd] v be) v λbf w=>
 vK (gV d false (ak .i .neq bf (af 2))) λbg=>
 vK (aF d (.bool true) bg) λbi=>
 aE bi (
 R (.bool false) w) (
 bA [ai] w λx b6 y bj=>
 vK (ak .i .lss (ix x 0) (af 7)) λbk=>
 aE bk (
 ag prog jr #[b] y λz m=>
 vK (aC z) λbl=>
 vK (ak .i .eql bl ai) λa=>
 vK (gV a false (some b)) λbm=>
 vK (gV a false (some z)) λbn=>
 vK (gV a false (bu 1 bn ai)) λbo=>
 vK (gV a false (ldV m bo)) λbp=>
 gK a false (λbq=>ag prog ke #[bm,bp] m bq) m λbr aa=>
 vK (gV a false (unV .not br)) λbs=>
 vK (aF a (.bool true) bs) λbt=>
 aE bt (
 R (.bool false) aa) (
 vK (ak .i .add (ix x 0) aG) λbv=>
 bj [bv] aa)) (
 ag prog oA #[b] y λab ac=>
 vK (aP ab 0) λad=>
 vK (aP ab 1) λn=>
 vK (gV n true (some ad)) λbw=>
 vK (gV n true (ak .p .neq bw (.pointer none))) λbx=>
 vK (aF n bx (.bool false)) λe=>
 vK (gV e true (some ad)) λbz=>
 gK e true (λb0=>ag prog gW #[bz,ai,ai,ai] ac b0) ac λb1 b2=>
 vK (gV e true (ak .i .eql b1 (.int .u16 9))) λb3=>
 vK (aF e b3 (.bool false)) λb4=>
 R b4 b2)))
theorem NF (H:Cd h R):ag prog kN #[] h R:=fk f7 (.s .z (.s .z (.s .z (.s (.s .z (.s (.s .z .z) .z)) (.s .z (.s (.s .z (.s (.s .z .z) .z)) (.s (.s .z (.l 4722294425275607285889 [56] (.s .z (.s (.s .z .z) (.s (.s .z (.s .z (.s (.s .z .z) .z))) .z))))) (.s .z (.s .z .z))))))))) H
def Ce (a0 a1 a2 a3 a4 a5:Value)(h:ah)(R:Value→ah→Prop):Prop:=
 bh (Value.cells a0) 25 h λs t=>
 bh (Value.cells a1) 31 t λu v=>
 bh aK 48 v λa f=>
 vK (aR 5 f s) λw=>
 ag prog fI #[w] f λb g=>
 vK (aR 9 g u) λx=>
 du #[ai,ai,ai,ai,(.slice none 0 0),(.slice none 0 0),ai,ai,ai] 31 1 [(0,9,x)] g λy z=>
 ag prog iS #[y,b] z λd e=>
 vK (aP d 0) λaa=>
 vK (aP d 1) λab=>
 vK (aP d 2) λac=>
 vK (unV .not ac) λad=>
 aE ad (
 vK ((aQ aK []).map .agg) λae=>
 stK 20 a ae e λbd j=>
 vK (aR 20 j a) λaf=>
 R (.tuple #[b,(.pointer none),af,(.bool false)]) j) (
 vK (ak .i .rem a2 (.int .u8 13)) λaj=>
 vK (gP .i64 aj) λal=>
 vK (ak .i .add aG al) λk=>
 vK (ak .i .rem a3 (.int .u8 13)) λam=>
 vK (gP .i64 am) λan=>
 vK (ak .i .add aG an) λl=>
 vK (ak .i .rem a4 (.int .u8 5)) λao=>
 vK (gP .i64 ao) λap=>
 vK (ak .i .add aG ap) λm=>
 vK (ak .i .rem a5 (.int .u8 4)) λaq=>
 vK (gP .i64 aq) λar=>
 vK (ak .i .add aG ar) λn=>
 vK (bu 3 aa ai) λau=>
 vK (aR 3 e au) λav=>
 ag prog AR #[b,av,k,l,m,n] e λo c=>
 vK (aP o 0) λaw=>
 vK (aP o 1) λax=>
 vK (ak .i .neq ax ai) λay=>
 aE ay (
 vK ((aQ aK []).map .agg) λaz=>
 stK 20 a az c λbe p=>
 vK (aR 20 p a) λa6=>
 R (.tuple #[b,(.pointer none),a6,(.bool false)]) p) (
 bO c λS=>
 vK (bu 5 ab ai) λa7=>
 qK S (λc=>aR 5 c a7) λa8=>
 ag prog aU #[b] c λa9 q=>
 S q∧(ag prog DA #[a8,a9,k,l,m,n] q λba bb=>
 stK 20 a ba bb λbf r=>
 vK (aR 20 r a) λbc=>
 R (.tuple #[b,aw,bc,(.bool true)]) r)))
theorem NG (H:Ce a0 a1 a2 a3 a4 a5 h R):ag prog sI #[a0,a1,a2,a3,a4,a5] h R:=fk f8 (.s .z (.s .z (.s .z (.s (.s .z (.s (.s .z .z) .z)) (.s .z (.s .z (.s (.s .z (.s (.s .z .z) .z)) (.s (.d (.op 0 .r (.op 1 .r (.op 2 .r (.op 3 .r (.op 4 .r (.op 5 .r (.op 7 .r (.op 8 .r (.op 9 .r (.op 10 .r (.op 6 .e (.op 11 .n (.op 12 .r (.op 13 .r (.op 14 .n (.op 15 .r .nil))))))))))))))))) .z)))))))) H
def Ig (a0 a1:Value)(h:ah)(R:Value→ah→Prop):Prop:=
 bh (Value.cells a0) 25 h λm n=>
 bh (Value.cells a1) 31 n λo a=>
 bO a λS=>
 qK S (λa=>aR 9 a o) λd=>
 qK S (λa=>aR 5 a m) λe=>
 (du #[ai,ai,ai,ai,(.slice none 0 0),(.slice none 0 0),ai,ai,ai] 31 1 [(0,9,d)] a λp f=>
 S f∧(ag prog fI #[e] f λq g=>
 S g∧(ag prog iS #[p,q] g λb i=>
 S i∧(vK (aP b 0) λv=>
 vK (aP b 1) λw=>
 vK (aP b 2) λr=>
 R r i))))∧(ag prog fI #[e] a λs j=>
 S j∧(du #[ai,ai,ai,ai,(.slice none 0 0),(.slice none 0 0),ai,ai,ai] 31 1 [(0,9,d)] j λt k=>
 S k∧(ag prog iS #[t,s] k λc l=>
 S l∧(vK (aP c 0) λx=>
 vK (aP c 1) λy=>
 vK (aP c 2) λu=>
 R u l))))
theorem SM (H:Ig a0 a1 h R):ag prog yq #[a0,a1] h R:=fk f9 (.s .z (.s (.d (.op 0 .r (.op 2 .r (.alt (.op 1 .e (.op 3 .e (.op 4 .e (.op 5 .r (.op 6 .r (.op 7 .r (.op 8 .r (.op 9 .r (.op 10 .r (.op 11 .r .nil)))))))))) (.op 3 .e (.op 1 .e (.op 4 .e (.op 5 .r (.op 6 .r (.op 7 .r (.op 8 .r (.op 9 .r (.op 10 .r (.op 11 .r .nil)))))))))))))) (.s .z .z))) H
def qR (a0:Value)(h:ah)(R:Value→ah→Prop):Prop:=
 ag prog iQ #[a0] h λe f=>
 bA [(.slice none 0 0),ai] f λa q b c=>
 vK (ak .i .lss (ix a 1) e) λg=>
 aE g (
 ag prog mo #[a0,(ix a 1)] b λj d=>
 aE j (
 du #[ai] 3 1 [(0,1,(ix a 1))] d λk l=>
 dy ai 3 1 8 (ix a 0) k l λm n=>
 vK (ak .i .add (ix a 1) aG) λo=>
 c [m,o] n) (
 vK (ak .i .add (ix a 1) aG) λp=>
 c [(ix a 0),p] d)) (
 R (ix a 0) b)
theorem BG (H:qR a0 h R):ag prog jr #[a0] h R:=fk f10 (.s .z (.s .z (.s (.s .z (.l 262040 [3,7] (.s .z (.s (.s .z .z) (.s (.s .z (.s .z (.s .z .z))) .z))))) (.s .z .z)))) H
def qS (a0:Value)(h:ah)(R:Value→ah→Prop):Prop:=
 vK (aT a0) λa=>
 vK (aB 12 a) λb=>
 vK (ldV h b) λc=>
 R c h
theorem BH (H:qS a0 h R):ag prog lY #[a0] h R:=fk f11 (.s .z (.s .z .z)) H
def uR (a0:Value)(h:ah)(R:Value→ah→Prop):Prop:=
 vK (aT a0) λa=>
 vK (aB 6 a) λb=>
 vK (ldV h b) λc=>
 vK (aC c) λd=>
 vK (ak .i .add d aG) λe=>
 R e h
theorem EI (H:uR a0 h R):ag prog iQ #[a0] h R:=fk f12 (.s .z (.s .z .z)) H
def xI (a0 a1:Value)(h:ah)(R:Value→ah→Prop):Prop:=
 ag prog mo #[a0,a1] h λc a=>
 vK (unV .not c) λd=>
 aE d (
 R (.bool false) a) (
 vK (aT a0) λe=>
 vK (aB 13 e) λf=>
 vK (ldV a f) λg=>
 vK (ak .i .add g aG) λj=>
 vK (aT a0) λk=>
 vK (aB 13 k) λl=>
 stK 1 l j a λp b=>
 vK (ak .i .eql a1 ai) λm=>
 aE m (
 ag prog rW #[a0] b λq n=>
 R (.bool true) n) (
 ag prog rT #[a0,a1] b λr o=>
 R (.bool true) o))
theorem IL (H:xI a0 a1 h R):ag prog ke #[a0,a1] h R:=fk f13 (.s .z (.s (.s .z (.s (.s .z .z) .z)) (.s .z (.s (.s .z (.s .z .z)) (.s .z .z))))) H
def wu (a0 a1:Value)(h:ah)(R:Value→ah→Prop):Prop:=
 vK (ak .i .lss a1 aG) λa=>
 vK (gV a false (some a1)) λb=>
 vK (gV a false (some a0)) λc=>
 vK (gV a false (aT c)) λd=>
 vK (gV a false (aB 6 d)) λe=>
 vK (gV a false (ldV h e)) λf=>
 vK (gV a false (aC f)) λg=>
 vK (gV a false (ak .i .gtr b g)) λj=>
 vK (aF a (.bool true) j) λk=>
 aE k (
 R (.slice none 0 0) h) (
 vK (aT a0) λl=>
 vK (aB 6 l) λm=>
 vK (ldV h m) λn=>
 vK (ak .i .sub a1 aG) λo=>
 vK (bu 1 n o) λp=>
 vK (ldV h p) λq=>
 ag prog kT #[q] h λr s=>
 R r s)
theorem Gr (H:wu a0 a1 h R):ag prog lG #[a0,a1] h R:=fk f14 (.s .z (.s (.s .z (.s (.s .z .z) .z)) (.s .z .z))) H
def Cc (a0 a1:Value)(h:ah)(R:Value→ah→Prop):Prop:=
 bA [ai] h λa ac d j=>
 vK (ak .i .lss (ix a 0) (af 200000)) λk=>
 aE k (
 ag prog jr #[a0] d λc l=>
 ag prog lY #[a0] l λm b=>
 aE m (
 R (.bool true) b) (
 vK (aC c) λn=>
 vK (ak .i .eql n ai) λo=>
 aE o (
 R (.bool false) b) (
 fR (λe=>
 vK (aC a1) λp=>
 vK (ak .i .lss (ix a 0) p) λq=>
 aE q (
 vK (bu 1 a1 (ix a 0)) λr=>
 vK (ldV b r) λs=>
 vK (gP .i64 s) λt=>
 e [t] b) (
 e [(ix a 0)] b))
 λu ad f=>
 vK (aC c) λv=>
 vK (ak .i .rem (ix u 0) v) λw=>
 vK (bu 1 c w) λx=>
 vK (ldV f x) λy=>
 ag prog ke #[a0,y] f λz g=>
 vK (unV .not z) λaa=>
 aE aa (
 R (.bool false) g) (
 vK (ak .i .add (ix a 0) aG) λab=>
 j [ab] g)))) (
 R (.bool false) d)
theorem NE (H:Cc a0 a1 h R):ag prog yN #[a0,a1] h R:=fk f15 (.s .z (.s (.s .z (.l 549755813872 [8] (.s .z (.s (.s .z .z) (.s (.s .z (.s .z (.s (.s .z (.s (.s .z .z) .z)) (.s (.s .z (.s (.s .z .z) .z)) (.s .z (.j 267911296 [7] (.s .z (.s .z .z)) (.s .z (.s (.s .z .z) .z)))))))) .z))))) (.s .z .z))) H
def mM (a0:Value)(h:ah)(R:Value→ah→Prop):Prop:=
 vK (aT a0) λa=>
 vK (aB 2 a) λb=>
 vK (ldV h b) λc=>
 R c h
theorem yz (H:mM a0 h R):ag prog aU #[a0] h R:=fk f16 (.s .z (.s .z .z)) H
def wn (a0:Value)(h:ah)(R:Value→ah→Prop):Prop:=
 bO h λS=>
 vK (aT a0) λj=>
 vK (aB 2 j) λk=>
 qK S (λh=>ldV h k) λl=>
 vK (aT a0) λm=>
 vK (aB 6 m) λn=>
 qK S (λh=>ldV h n) λo=>
 qK S (λh=>aC o) λp=>
 ag prog eK #[l] h λq c=>
 S c∧(vK (ak .i .mul (af 2) q) λr=>
 vK (ak .i .add r p) λs=>
 vK (ak .i .add s (af 2)) λt=>
 vK (aT a0) λu=>
 vK (aB 2 u) λv=>
 vK (ldV c v) λw=>
 ag prog uF #[w] c λe x=>
 vK (aC e) λy=>
 bA [t,ai] x λb au d z=>
 vK (ak .i .lss (ix b 1) y) λaa=>
 aE aa (
 vK (bu 10 e (ix b 1)) λab=>
 vK (aR 10 d ab) λac=>
 bh #[ai,ai,ai,ai,ai,ai,ai,ai,ai,ai] 116 d λf ad=>
 stK 10 f ac ad λav a=>
 bO a λS=>
 vK (aT a0) λae=>
 vK (aB 2 ae) λaj=>
 qK S (λa=>ldV a aj) λal=>
 qK S (λa=>aR 10 a f) λam=>
 ag prog js #[al] a λan g=>
 S g∧(ag prog xa #[an,am] g λao ap=>
 vK (ak .i .add (ix b 0) ao) λaq=>
 vK (ak .i .add (ix b 1) aG) λar=>
 z [aq,ar] ap)) (
 R (ix b 0) d))
theorem Gq (H:wn a0 h R):ag prog qA #[a0] h R:=fk f18 (.s .z (.s (.d (.op 0 .r (.op 1 .r (.op 2 .r (.op 3 .r (.op 6 .r (.op 7 .r (.op 8 .r (.op 9 .r (.op 10 .r (.op 4 .e (.op 5 .r (.op 11 .r (.op 12 .r (.op 13 .r .nil))))))))))))))) (.s (.s .z (.l 549722259496 [3,25] (.s .z (.s (.s .z .z) (.s (.s .z (.d (.op 0 .r (.op 1 .r (.op 2 .r (.op 3 .r (.op 4 .r (.op 6 .r (.op 5 .e (.op 7 .n (.op 8 .r (.op 9 .r .nil)))))))))))) .z))))) (.s .z .z)))) H
def Fw (a0 a1:Value)(h:ah)(R:Value→ah→Prop):Prop:=
 ag prog yI #[a0,a1] h λa b=>
 R a b
theorem Qs (H:Fw a0 a1 h R):ag prog AV #[a0,a1] h R:=fk f23 (.s .z (.s .z .z)) H
def uQ (a0:Value)(h:ah)(R:Value→ah→Prop):Prop:=
 vK (aT a0) λa=>
 vK (aB 5 a) λb=>
 R b h
theorem EH (H:uQ a0 h R):ag prog oB #[a0] h R:=fk f25 (.s .z (.s .z .z)) H
def pd (a0:Value)(h:ah)(R:Value→ah→Prop):Prop:=
 vK (aT a0) λk=>
 vK (aB 0 k) λl=>
 vK (ldV h l) λe=>
 vK (aC e) λm=>
 bA [(.slice none 0 0),ai] h λc au d n=>
 vK (ak .i .lss (ix c 1) m) λo=>
 aE o (
 vK (bu 6 e (ix c 1)) λp=>
 vK (aR 6 d p) λq=>
 bh #[ai,(.slice none 0 0),ai,ai,ai,(.bool false)] 120 d λf r=>
 stK 6 f q r λav s=>
 vK (ak .i .add (ix c 1) aG) λt=>
 bA [(ix c 0),t] s λb aw a g=>
 vK (aT a0) λu=>
 vK (aB 0 u) λv=>
 vK (ldV a v) λw=>
 vK (aC w) λx=>
 vK (ak .i .lss (ix b 1) x) λy=>
 aE y (
 bO a λS=>
 qK S (λa=>aR 6 a f) λz=>
 vK (aT a0) λaa=>
 vK (aB 0 aa) λab=>
 qK S (λa=>ldV a ab) λac=>
 vK (bu 6 ac (ix b 1)) λad=>
 qK S (λa=>aR 6 a ad) λae=>
 ag prog ng #[z,ae] a λaf j=>
 aE af (
 vK ((aQ #[ai,ai] [(0,1,(ix c 1)),(1,1,(ix b 1))]).map .agg) λaj=>
 du #[ai,ai] 130 1 [(0,2,aj)] j λal am=>
 dy (.agg #[ai,ai]) 130 2 16 (ix b 0) al am λan ao=>
 vK (ak .i .add (ix b 1) aG) λap=>
 g [an,ap] ao) (
 vK (ak .i .add (ix b 1) aG) λaq=>
 g [(ix b 0),aq] j)) (
 vK (ak .i .add (ix c 1) aG) λar=>
 n [(ix b 0),ar] a)) (
 R (ix c 0) d)
theorem Aj (H:pd a0 h R):ag prog kW #[a0] h R:=fk f26 (.s .z (.s .z (.s (.s .z (.l 17592186040440 [3,12] (.s .z (.s (.s .z .z) (.s (.s .z (.s .z (.l 8796092497992 [3,6] (.s (.s .z (.s .z .z)) (.s (.s (.d (.op 0 .r (.op 1 .r (.op 2 .r (.op 3 .r (.op 4 .r (.op 5 .r (.op 6 .r (.op 7 .r (.op 8 .n .nil)))))))))) (.s .z .z)) .z))))) .z))))) (.s .z .z)))) H
def mO (a0 a1:Value)(h:ah)(R:Value→ah→Prop):Prop:=
 Q9 h λf g=>
 vK (aT a0) λl=>
 vK (aB 0 l) λm=>
 vK (ldV g m) λj=>
 vK (aC j) λn=>
 bA [ai] g λc al e k=>
 vK (ak .i .lss (ix c 0) n) λo=>
 aE o (
 vK (bu 6 j (ix c 0)) λp=>
 vK (aR 6 e p) λq=>
 bh #[ai,(.slice none 0 0),ai,ai,ai,(.bool false)] 120 e λd r=>
 stK 6 d q r λam a=>
 vK (aB 5 d) λs=>
 vK (ldV a s) λb=>
 vK (gV b true (aB 2 d)) λt=>
 vK (gV b true (ldV a t)) λu=>
 vK (gV b true (some a1)) λv=>
 vK (gV b true (ak .i .eql u v)) λw=>
 vK (aF b w (.bool false)) λx=>
 aE x (
 vK (aB 0 d) λy=>
 vK (ldV a y) λz=>
 pG (.int .i64) f z (.bool true) a λan aa=>
 vK (ak .i .add (ix c 0) aG) λab=>
 k [ab] aa) (
 vK (ak .i .add (ix c 0) aG) λac=>
 k [ac] a)) (
 ag prog iX #[f] e λad ae=>
 ag prog uX #[ad] ae λaf aj=>
 R af aj)
theorem yB (H:mO a0 a1 h R):ag prog gZ #[a0,a1] h R:=fk f27 (.s .z (.s .z (.s (.s .z (.l 1073725568 [14] (.s .z (.s (.s .z .z) (.s (.s .z (.s .z (.s .z .z))) .z))))) (.s .z .z)))) H
def qP (a0:Value)(h:ah)(R:Value→ah→Prop):Prop:=
 vK (aT a0) λa=>
 vK (aB 0 a) λb=>
 vK (ldV h b) λc=>
 R c h
theorem BE (H:qP a0 h R):ag prog bL #[a0] h R:=fk f28 (.s .z (.s .z .z)) H
def oW (a0:Value)(h:ah)(R:Value→ah→Prop):Prop:=
 vK (aT a0) λa=>
 vK (aB 1 a) λb=>
 vK (ldV h b) λc=>
 R c h
theorem Ag (H:oW a0 h R):ag prog bN #[a0] h R:=fk f29 (.s .z (.s .z .z)) H
def mN (a0 a1 a2:Value)(h:ah)(R:Value→ah→Prop):Prop:=
 vK (aT a0) λl=>
 vK (aB 0 l) λm=>
 vK (ldV h m) λj=>
 vK (aC j) λn=>
 bA [ai,ai] h λa am g k=>
 vK (ak .i .lss (ix a 1) n) λo=>
 aE o (
 vK (bu 6 j (ix a 1)) λp=>
 vK (aR 6 g p) λq=>
 bh #[ai,(.slice none 0 0),ai,ai,ai,(.bool false)] 120 g λc r=>
 stK 6 c q r λan b=>
 vK (aB 5 c) λs=>
 vK (ldV b s) λd=>
 vK (gV d true (aB 2 c)) λt=>
 vK (gV d true (ldV b t)) λu=>
 vK (gV d true (some a1)) λv=>
 vK (gV d true (ak .i .eql u v)) λw=>
 vK (aF d w (.bool false)) λe=>
 vK (gV e true (some a2)) λx=>
 vK (gV e true (aB 3 c)) λy=>
 vK (gV e true (ldV b y)) λz=>
 vK (gV e true (ak .i .geq x z)) λaa=>
 vK (aF e aa (.bool false)) λf=>
 vK (gV f true (some a2)) λab=>
 vK (gV f true (aB 4 c)) λac=>
 vK (gV f true (ldV b ac)) λad=>
 vK (gV f true (ak .i .lss ab ad)) λae=>
 vK (aF f ae (.bool false)) λaf=>
 aE af (
 vK (ak .i .add (ix a 0) aG) λag=>
 vK (ak .i .add (ix a 1) aG) λaj=>
 k [ag,aj] b) (
 vK (ak .i .add (ix a 1) aG) λal=>
 k [(ix a 0),al] b)) (
 R (ix a 0) g)
theorem yA (H:mN a0 a1 a2 h R):ag prog fH #[a0,a1,a2] h R:=fk f30 (.s .z (.s .z (.s (.s .z (.l 4398046478976 [7,15] (.s .z (.s (.s .z .z) (.s (.s .z (.s .z (.s .z .z))) .z))))) (.s .z .z)))) H
def Ia (a0 a1 a2 a3 a4:Value)(h:ah)(R:Value→ah→Prop):Prop:=
 ag prog jn #[a0,a1,a2,a3] h λd a=>
 vK (aP d 0) λb=>
 vK (aP d 1) λe=>
 vK (ak .i .neq e ai) λf=>
 aE f (
 R (.tuple #[(.pointer none),e]) a) (
 vK (aC a4) λg=>
 vK (aT b) λj=>
 vK (aB 4 j) λk=>
 vK (ldV a k) λl=>
 vK (aC l) λm=>
 vK (ak .i .neq g m) λn=>
 aE n (
 R (.tuple #[(.pointer none),(af 2)]) a) (
 ag prog gQ #[a4] a λo c=>
 vK (gP .i64 o) λp=>
 vK (ak .i .gtr p a3) λq=>
 aE q (
 R (.tuple #[(.pointer none),(af 4)]) c) (
 vK (aT b) λr=>
 vK (aB 4 r) λs=>
 vK (ldV c s) λt=>
 GQ 1 t a4 c λv u=>
 R (.tuple #[b,ai]) u)))
theorem SH (H:Ia a0 a1 a2 a3 a4 h R):ag prog tZ #[a0,a1,a2,a3,a4] h R:=fk f31 (.s .z (.s .z (.s (.s .z (.s (.s .z .z) (.s .z (.s (.s .z .z) (.s .z (.s (.s .z .z) .z)))))) (.s .z (.s .z .z))))) H
def MS (a0 a1 a2:Value)(h:ah)(R:Value→ah→Prop):Prop:=
 bh (Value.cells a0) 31 h λd q=>
 bh #[(.pointer none),(.pointer none),ai] 81 q λa j=>
 vK (aR 9 j d) λr=>
 ag prog PG #[r] j λs k=>
 vK (unV .not s) λb=>
 vK (gV b false (some a1)) λt=>
 gK b false (λu=>ag prog vQ #[t] k u) k λv l=>
 vK (gV b false (unV .not v)) λw=>
 vK (aF b (.bool true) w) λc=>
 vK (gV c false (some a2)) λx=>
 gK c false (λy=>ag prog vQ #[x] l y) l λz e=>
 vK (gV c false (unV .not z)) λaa=>
 vK (aF c (.bool true) aa) λab=>
 aE ab (
 vK ((aQ #[(.pointer none),(.pointer none),ai] []).map .agg) λac=>
 stK 3 a ac e λav m=>
 vK (aR 3 m a) λad=>
 R (.tuple #[ad,(af 6)]) m) (
 vK (aR 9 e d) λae=>
 ag prog DH #[ae,a1,a2] e λf g=>
 vK (aP f 0) λaj=>
 vK (aP f 1) λal=>
 vK (aP f 2) λn=>
 vK (ak .i .neq n ai) λam=>
 aE am (
 vK ((aQ #[(.pointer none),(.pointer none),ai] []).map .agg) λan=>
 stK 3 a an g λaw o=>
 vK (aR 3 o a) λao=>
 R (.tuple #[ao,n]) o) (
 vK (aB 1 d) λap=>
 vK (ldV g ap) λaq=>
 vK ((aQ #[(.pointer none),(.pointer none),ai] [(0,1,aj),(1,1,al),(2,1,aq)]).map .agg) λar=>
 stK 3 a ar g λax p=>
 vK (aR 3 p a) λau=>
 R (.tuple #[au,ai]) p))
theorem WZ (H:MS a0 a1 a2 h R):ag prog oN #[a0,a1,a2] h R:=fk f32 (.s .z (.s (.s .z (.s (.s .z .z) .z)) (.s .z (.s (.s .z (.s (.s .z .z) .z)) (.s .z .z))))) H
def Cg (h:ah)(R:Value→ah→Prop):Prop:=
 du #[ai,ai] 3 2 [(0,1,aG),(1,1,ai)] h λf g=>
 vK ((aQ #[ai,(.slice none 0 0),ai,ai,ai,(.bool false)] [(1,1,f),(3,1,(af 3)),(4,1,(af 4)),(5,1,(.bool true))]).map .agg) λi=>
 bh #[ai,(.slice none 0 0),ai,ai,ai,(.bool false)] 120 g λc j=>
 stK 6 c i j λx k=>
 du #[ai,ai] 3 2 [(0,1,ai),(1,1,aG)] k λl m=>
 vK ((aQ #[ai,(.slice none 0 0),ai,ai,ai,(.bool false)] [(0,1,aG),(1,1,l),(3,1,(af 2)),(4,1,(af 9)),(5,1,(.bool true))]).map .agg) λn=>
 bh #[ai,(.slice none 0 0),ai,ai,ai,(.bool false)] 120 m λd o=>
 stK 6 d n o λy e=>
 vK (aR 6 e c) λp=>
 vK (aR 6 e d) λq=>
 ag prog ng #[p,q] e λa b=>
 vK (gV a true (aR 6 b d)) λr=>
 vK (gV a true (aR 6 b c)) λs=>
 gK a true (λt=>ag prog ng #[r,s] b t) b λu v=>
 vK (aF a u (.bool false)) λw=>
 R w v
theorem NI (H:Cg h R):ag prog yP #[] h R:=fk f33 (.s .z (.s .z (.s .z (.s .z .z)))) H
def Cf (h:ah)(R:Value→ah→Prop):Prop:=
 ag prog pZ #[] h λa s=>
 ag prog oM #[aG] s λb t=>
 ag prog yQ #[] t λu l=>
 vK (unV .not u) λj=>
 vK (gV j false (some a)) λv=>
 vK (gV j false (ak .p .eql v (.pointer none))) λw=>
 vK (aF j (.bool true) w) λk=>
 vK (gV k false (some b)) λx=>
 vK (gV k false (ak .p .eql x (.pointer none))) λy=>
 vK (aF k (.bool true) y) λc=>
 vK (gV c false (some a)) λz=>
 vK (gV c false (some b)) λaa=>
 gK c false (λab=>ag prog cU #[z,aa,.nilFunc] l ab) l λac m=>
 vK (gV c false ((aQ #[ai,ai,ai,ai] []).map .agg)) λad=>
 vK (gV c false (ak (.st [(0,1,.i),(1,1,.i),(2,2,(.st [(0,1,.i),(1,1,.i)]))]) .neq ac ad)) λae=>
 vK (aF c (.bool true) ae) λf=>
 vK (gV f false (some a)) λaj=>
 vK (gV f false (some b)) λal=>
 gK f false (λam=>ag prog eZ #[aj,al] m am) m λan n=>
 vK (aF f (.bool true) an) λao=>
 aE ao (
 R (.bool false) n) (
 ag prog jO #[b] n λba ap=>
 ag prog eZ #[a,b] ap λd o=>
 vK (gV d true (some a)) λaq=>
 vK (gV d true (some b)) λar=>
 gK d true (λau=>ag prog cU #[aq,ar,.nilFunc] o au) o λav q=>
 vK (gV d true ((aQ #[ai,ai,ai,ai] [(0,1,(af 3))]).map .agg)) λaw=>
 vK (gV d true (ak (.st [(0,1,.i),(1,1,.i),(2,2,(.st [(0,1,.i),(1,1,.i)]))]) .eql av aw)) λax=>
 vK (aF d ax (.bool false)) λe=>
 vK (gV e true (some a)) λay=>
 vK (gV e true (some b)) λaz=>
 gK e true (λa0=>ag prog cU #[ay,az,.nilFunc] q a0) q λa1 r=>
 vK (gV e true ((aQ #[ai,ai,ai,ai] []).map .agg)) λa2=>
 vK (gV e true (ak (.st [(0,1,.i),(1,1,.i),(2,2,(.st [(0,1,.i),(1,1,.i)]))]) .eql a1 a2)) λa3=>
 vK (aF e a3 (.bool false)) λg=>
 vK (gV g true (some a)) λa4=>
 gK g true (λa5=>ag prog kU #[a4] r a5) r λa6 a7=>
 vK (gV g true (ak .i .eql a6 (af 2))) λa8=>
 vK (aF g a8 (.bool false)) λa9=>
 R a9 a7)
theorem NH (H:Cf h R):ag prog yO #[] h R:=fk f34 (.s .z (.s .z (.s (.s .z (.s (.s .z .z) .z)) (.s .z (.s .z .z))))) H
def K4 (a0 a1 a2 a3 a4 a5:Value)(h:ah)(R:Value→ah→Prop):Prop:=
 bh (Value.cells a1) 81 h λf j=>
 vK (ak .p .eql a0 (.pointer none)) λb=>
 vK (gV b false (some a0)) λap=>
 vK (gV b false (aR 3 j f)) λaq=>
 gK b false (λar=>ag prog kf #[ap,aq] j ar) j λau a=>
 vK (gV b false (unV .not au)) λav=>
 vK (aF b (.bool true) av) λaw=>
 aE aw (
 R (.tuple #[(.pointer none),(af 6)]) a) (
 bO a λS=>
 vK (aB 0 f) λax=>
 qK S (λa=>ldV a ax) λay=>
 vK (aB 1 f) λaz=>
 qK S (λa=>ldV a az) λa6=>
 ag prog bM #[ay] a λa7 r=>
 S r∧(ag prog bM #[a6] r λa8 a9=>
 ag prog aU #[a0] a9 λba bb=>
 ag prog dF #[a0] bb λbc bd=>
 ag prog jn #[a7,a8,ba,bc] bd λs k=>
 vK (aP s 0) λg=>
 vK (aP s 1) λt=>
 vK (ak .i .neq t ai) λbe=>
 aE be (
 R (.tuple #[(.pointer none),t]) k) (
 vK (aR 3 k f) λbf=>
 ag prog AS #[bf,a2,a3] k λu c=>
 vK (aP u 0) λl=>
 vK (aP u 1) λv=>
 vK (ak .i .neq v ai) λbg=>
 aE bg (
 R (.tuple #[(.pointer none),v]) c) (
 vK (ak .i .lss a4 aG) λm=>
 vK (gV m false (some a4)) λbi=>
 vK (gV m false (ak .i .gtr bi (af 256))) λbj=>
 vK (aF m (.bool true) bj) λbk=>
 aE bk (
 R (.tuple #[(.pointer none),(af 10)]) c) (
 fR (λn=>
 bO c λS=>
 vK (ak .i .add a4 aG) λo=>
 (ag prog oM #[a5] c λw q=>
 S q∧((ag prog oO #[o] q λbl x=>
 S x∧(mkK ai 3 1 8 a4 a4 x λbm y=>
 S y∧(vK ((aQ qZ [(0,1,a0),(1,1,g),(2,1,l),(3,1,w),(4,1,bl),(7,1,bm)]).map .agg) λbn=>
 bh (Value.cells bn) 106 y λbo z=>
 S z∧(n [bo] z))))∧(mkK ai 3 1 8 a4 a4 q λbp aa=>
 S aa∧(ag prog oO #[o] aa λbq ab=>
 S ab∧(vK ((aQ qZ [(0,1,a0),(1,1,g),(2,1,l),(3,1,w),(4,1,bq),(7,1,bp)]).map .agg) λbr=>
 bh (Value.cells br) 106 ab λbs ac=>
 S ac∧(n [bs] ac))))))∧(mkK ai 3 1 8 a4 a4 c λbt ad=>
 S ad∧(ag prog oM #[a5] ad λbu ae=>
 S ae∧(ag prog oO #[o] ae λbv aj=>
 S aj∧(vK ((aQ qZ [(0,1,a0),(1,1,g),(2,1,l),(3,1,bu),(4,1,bv),(7,1,bt)]).map .agg) λbw=>
 bh (Value.cells bw) 106 aj λbx al=>
 S al∧(n [bx] al))))))
 λd cj bz=>
 bA [ai] bz λam ck e b0=>
 vK (ak .i .lss (ix am 0) a4) λb1=>
 aE b1 (
 bO e λS=>
 vK (aT (ix d 0)) λb2=>
 vK (aB 6 b2) λb3=>
 qK S (λe=>ldV e b3) λb4=>
 ag prog pZ #[] e λb5 an=>
 S an∧(du #[(.pointer none)] 108 1 [(0,1,b5)] an λb6 ao=>
 S ao∧(dy (.pointer none) 108 1 8 b4 b6 ao λb7 b8=>
 vK (aT (ix d 0)) λb9=>
 vK (aB 6 b9) λca=>
 stK 1 ca b7 b8 λcl cb=>
 vK (ak .i .add (ix am 0) aG) λcc=>
 b0 [cc] cb))) (
 ag prog ub #[a0] e λcd ce=>
 ag prog ef #[(ix d 0),ai,ai,ai,cd,(.bool true)] ce λcm cf=>
 ag prog ub #[g] cf λcg ch=>
 ag prog ef #[(ix d 0),ai,aG,ai,cg,(.bool true)] ch λcn ci=>
 R (.tuple #[(ix d 0),ai]) ci))))))
theorem Va (H:K4 a0 a1 a2 a3 a4 a5 h R):ag prog AR #[a0,a1,a2,a3,a4,a5] h R:=fk f35 (.s .z (.s (.s .z (.s (.s .z .z) .z)) (.s (.d (.op 0 .r (.op 1 .r (.op 3 .r (.op 4 .r (.op 6 .r (.op 8 .r (.op 2 .e (.op 5 .n (.op 7 .n (.op 9 .n (.op 10 .n (.op 11 .r (.op 12 .r (.op 13 .r (.op 14 .r (.op 15 .r .nil))))))))))))))))) (.s (.s .z (.s (.s .z .z) .z)) (.s .z (.s (.s .z (.s (.s .z .z) (.s .z (.s (.s .z .z) .z)))) (.j 9442427122730076864512 [17] (.d (.op 0 .r (.op 1 .r (.op 2 .r (.op 3 .r (.op 5 .r (.op 6 .r (.op 8 .r (.alt (.op 4 .e (.alt (.op 7 .e (.op 9 .e (.op 10 .r (.op 11 .e (.op 12 .r .nil))))) (.op 9 .e (.op 7 .e (.op 10 .r (.op 11 .e (.op 12 .r .nil))))))) (.op 9 .e (.op 4 .e (.op 7 .e (.op 10 .r (.op 11 .e (.op 12 .r .nil))))))))))))))) (.s (.s .z (.l 154723615444741055781535744 [74] (.s .z (.s (.s .z .z) (.s (.d (.op 0 .r (.op 1 .r (.op 2 .r (.op 3 .r (.op 4 .r (.op 5 .e (.op 6 .e (.op 7 .n (.op 8 .r (.op 9 .r (.op 10 .n .nil)))))))))))) .z))))) (.s .z (.s .z (.s .z .z))))))))))) H
def uP (a0:Value)(h:ah)(R:Value→ah→Prop):Prop:=
 vK (aT a0) λa=>
 vK (aB 12 a) λb=>
 vK (ldV h b) λc=>
 vK (unV .not c) λd=>
 aE d (
 R (.tuple #[(.pointer none),(.bool false)]) h) (
 vK (aT a0) λe=>
 vK (aB 1 e) λf=>
 vK (ldV h f) λg=>
 ag prog mJ #[g] h λi j=>
 R (.tuple #[i,(.bool true)]) j)
theorem EE (H:uP a0 h R):ag prog oA #[a0] h R:=fk f36 (.s .z (.s (.s .z (.s (.s .z .z) .z)) (.s .z .z))) H
def wj (a0 a1 a2 a3:Value)(h:ah)(R:Value→ah→Prop):Prop:=
 ag prog jp #[a0,a1,a2,a3] h λb a=>
 vK (ak .i .geq b ai) λc=>
 aE c (
 vK (aT a0) λd=>
 vK (aB 4 d) λe=>
 vK (ldV a e) λf=>
 vK (bu 1 f b) λg=>
 vK (ldV a g) λj=>
 R j a) (
 R (.int .u16 0) a)
theorem Gn (H:wj a0 a1 a2 a3 h R):ag prog gW #[a0,a1,a2,a3] h R:=fk f37 (.s .z (.s (.s .z (.s .z (.s (.s .z .z) .z))) (.s .z .z))) H
def qT (a0:Value)(h:ah)(R:Value→ah→Prop):Prop:=
 bh (Value.cells a0) 25 h λb a=>
 vK (aB 0 b) λc=>
 vK (ldV a c) λd=>
 vK (ak .i .rem d (.int .u16 12)) λe=>
 vK (aB 1 b) λf=>
 vK (ldV a f) λg=>
 vK (ak .i .rem g (.int .u16 12)) λj=>
 vK (aB 2 b) λk=>
 vK (ldV a k) λl=>
 vK (aB 3 b) λm=>
 vK (ldV a m) λn=>
 vK (aB 4 b) λo=>
 vK (ldV a o) λp=>
 ag prog AX #[e,j,l,n,p] a λq r=>
 R q r
theorem BI (H:qT a0 h R):ag prog fI #[a0] h R:=fk f38 (.s .z (.s .z .z)) H
def Bn (a0 a1:Value)(h:ah)(R:Value→ah→Prop):Prop:=
 vK (ak .p .eql a1 (.pointer none)) λb=>
 vK (gV b false (some a0)) λl=>
 vK (gV b false (aC l)) λm=>
 vK (gV b false (ak .i .gtr m (af 4))) λn=>
 vK (aF b (.bool true) n) λc=>
 vK (gV c false (some a0)) λo=>
 gK c false (λq=>ag prog xg #[o,(af 12)] h q) h λr e=>
 vK (gV c false (unV .not r)) λs=>
 vK (aF c (.bool true) s) λt=>
 aE t (
 R (.tuple #[(.slice none 0 0),(.slice none 0 0),(.bool false)]) e) (
 ag prog bL #[a1] e λu v=>
 ag prog bN #[a1] v λw x=>
 ag prog aU #[a1] x λy z=>
 ag prog PH #[a0,u,w,y] z λf aa=>
 vK (aP f 0) λg=>
 vK (aP f 1) λab=>
 ag prog AW #[a0] aa λac ad=>
 ag prog bL #[a1] ad λae aj=>
 ag prog bN #[a1] aj λal am=>
 ag prog aU #[a1] am λan ao=>
 ag prog DB #[ac,ae,al,an] ao λj ap=>
 vK (aP j 0) λk=>
 vK (aP j 1) λaq=>
 vK (ak .i .eql ab ai) λd=>
 vK (gV d true (some aq)) λar=>
 vK (gV d true (ak .i .eql ar ai)) λau=>
 vK (aF d au (.bool false)) λa=>
 vK (gV a true (some g)) λav=>
 vK (gV a true (aC av)) λaw=>
 vK (gV a true (some k)) λax=>
 vK (gV a true (aC ax)) λay=>
 vK (gV a true (ak .i .eql aw ay)) λaz=>
 vK (aF a az (.bool false)) λa2=>
 R (.tuple #[g,k,a2]) ap)
theorem LQ (H:Bn a0 a1 h R):ag prog iS #[a0,a1] h R:=fk f39 (.s .z (.s (.s .z (.s (.s .z .z) .z)) (.s .z (.s .z (.s .z .z))))) H
def HA (a0 a1 a2 a3 a4 a5:Value)(h:ah)(R:Value→ah→Prop):Prop:=
 bh (Value.cells a0) 38 h λc bs=>
 bh aK 48 bs λt b=>
 fR (λbt=>
 bO b λS=>
 qK S (λb=>aR 5 b c) λu=>
 qK S (λb=>aR 5 b c) λg=>
 vK (ak .i .add a4 aG) λj=>
 (λC21:Value→Value→ah→Prop=>
 (λC29:Value→Value→Value→Value→Value→ah→Prop=>
 (λC38:Value→Value→Value→Value→ah→Prop=>
 (λC46:Value→Value→Value→Value→ah→Prop=>
 (λC54:Value→Value→Value→Value→ah→Prop=>
 (λC63:Value→Value→Value→ah→Prop=>
 (λC72:Value→Value→Value→ah→Prop=>
 (λC79:Value→Value→Value→ah→Prop=>
 (λC87:Value→Value→ah→Prop=>
 (λC95:Value→Value→ah→Prop=>
 (λC101:Value→Value→ah→Prop=>
 (ag prog lX #[g,a2,a3] b λd k=>
 S k∧((ag prog lW #[a5] k λl m=>
 S m∧((ag prog lV #[j] m λv o=>
 S o∧((mkK (.agg #[ai,.slice none 0 0,.slice none 0 0]) 69 3 56 a4 a4 o λbv w=>
 S w∧(C38 d l v bv w))∧(bh aK 48 o λbw x=>
 S x∧(C46 d l v bw x))))∧((mkK (.agg #[ai,.slice none 0 0,.slice none 0 0]) 69 3 56 a4 a4 m λbx y=>
 S y∧(C63 d l bx y))∧(bh aK 48 m λbz z=>
 S z∧(C72 d l bz z)))))∧((mkK (.agg #[ai,.slice none 0 0,.slice none 0 0]) 69 3 56 a4 a4 k λb0 aa=>
 S aa∧(C87 d b0 aa))∧(bh aK 48 k λb1 ab=>
 S ab∧(C95 d b1 ab)))))∧((mkK (.agg #[ai,.slice none 0 0,.slice none 0 0]) 69 3 56 a4 a4 b λac p=>
 S p∧((ag prog lX #[g,a2,a3] p λb2 ad=>
 S ad∧(C87 b2 ac ad))∧(bh aK 48 p λb3 ae=>
 S ae∧(C101 ac b3 ae))))∧(bh aK 48 b λaf q=>
 S q∧((ag prog lX #[g,a2,a3] q λb4 aj=>
 S aj∧(C95 b4 af aj))∧(mkK (.agg #[ai,.slice none 0 0,.slice none 0 0]) 69 3 56 a4 a4 q λb5 al=>
 S al∧(C101 b5 af al)))))) (λb6 b7 b8=>
 ag prog lX #[g,a2,a3] b8 λb9 am=>
 S am∧(C79 b9 b6 b7 am))) (λan ao ap=>
 (ag prog lW #[a5] ap λca aq=>
 S aq∧(C72 an ca ao aq))∧(mkK (.agg #[ai,.slice none 0 0,.slice none 0 0]) 69 3 56 a4 a4 ap λcb ar=>
 S ar∧(C79 an cb ao ar)))) (λau av aw=>
 (ag prog lW #[a5] aw λcc ax=>
 S ax∧(C63 au cc av ax))∧(bh aK 48 aw λcd ay=>
 S ay∧(C79 au av cd ay)))) (λce cf cg ch=>
 ag prog lW #[a5] ch λci az=>
 S az∧(C54 ce ci cf cg az))) (λa6 a7 a8 a9=>
 (ag prog lV #[j] a9 λcj ba=>
 S ba∧(C46 a6 a7 cj a8 ba))∧(mkK (.agg #[ai,.slice none 0 0,.slice none 0 0]) 69 3 56 a4 a4 a9 λck bb=>
 S bb∧(C54 a6 a7 ck a8 bb)))) (λbc bd be bf=>
 (ag prog lV #[j] bf λcl bg=>
 S bg∧(C38 bc bd cl be bg))∧(bh aK 48 bf λcm bi=>
 S bi∧(C54 bc bd be cm bi)))) (λcn co cp cq cr=>
 ag prog lV #[j] cr λcs bj=>
 S bj∧(C29 cn co cs cp cq bj))) (λct cu cv cw cx=>
 mkK (.agg #[ai,.slice none 0 0,.slice none 0 0]) 69 3 56 a4 a4 cx λcy bk=>
 S bk∧(C29 ct cu cv cy cw bk))) (λcz c0 c1 c2 c3=>
 vK ((aQ aK [(0,5,u),(5,1,a1),(6,1,cz),(8,3,c0),(11,1,c1),(12,1,c2)]).map .agg) λc4=>
 bh aK 48 c3 λc5 bl=>
 S bl∧(C21 c4 c5 bl))) (λc6 c7 c8 c9 da db=>
 vK ((aQ aK [(0,5,u),(5,1,a1),(6,1,c6),(8,3,c7),(11,1,c8),(12,1,c9)]).map .agg) λdc=>
 C21 dc da db)) (λdd bm de=>
 stK 20 bm dd de λep df=>
 bt [bm] df))
 λe eq bn=>
 vK (aB 6 (ix e 0)) λdg=>
 vK (ldV bn dg) λbo=>
 vK (aC bo) λdh=>
 bA [ai] bn λr er f di=>
 vK (ak .i .lss (ix r 0) dh) λdj=>
 aE dj (
 vK (bu 10 bo (ix r 0)) λdk=>
 vK (aR 10 f dk) λdl=>
 bh #[ai,ai,ai,ai,ai,ai,ai,ai,ai,ai] 59 f λs dm=>
 stK 10 s dl dm λes a=>
 bO a λS=>
 vK (aB 7 (ix e 0)) λdn=>
 qK S (λa=>ldV a dn) λdp=>
 qK S (λa=>aR 5 a c) λdq=>
 vK (aB 2 s) λdr=>
 qK S (λa=>ldV a dr) λds=>
 vK (aB 4 s) λdt=>
 qK S (λa=>ldV a dt) λdv=>
 ag prog yJ #[dq,ds,dv] a λdw bp=>
 S bp∧(du #[(.slice none 0 0)] 67 1 [(0,1,dw)] bp λdx bq=>
 S bq∧(dy (.slice none 0 0) 67 1 24 dp dx bq λdz d0=>
 vK (aB 7 (ix e 0)) λd1=>
 stK 1 d1 dz d0 λet d2=>
 vK (ak .i .add (ix r 0) aG) λd3=>
 di [d3] d2))) (
 vK (aR 20 f (ix e 0)) λd4=>
 vK (aB 2 c) λd5=>
 vK (ldV f d5) λd6=>
 vK (aB 3 c) λd7=>
 vK (ldV f d7) λd8=>
 vK (ak .i .mul d6 d8) λd9=>
 vK (ak .i .mul d9 a1) λea=>
 ag prog vH #[d4,ai,ai,ai,ea,(.bool true)] f λeb ec=>
 stK 20 (ix e 0) eb ec λeu n=>
 vK (aR 20 n (ix e 0)) λed=>
 vK (aB 0 c) λee=>
 vK (ldV n ee) λef=>
 vK (aC ef) λeg=>
 vK (aB 1 c) λeh=>
 vK (ldV n eh) λei=>
 vK (aC ei) λej=>
 vK (ak .i .mul eg ej) λek=>
 vK (ak .i .mul ek a1) λel=>
 ag prog vH #[ed,ai,aG,ai,el,(.bool true)] n λem en=>
 stK 20 t em en λev br=>
 vK (aR 20 br t) λeo=>
 R eo br)
theorem Sq (H:HA a0 a1 a2 a3 a4 a5 h R):ag prog DA #[a0,a1,a2,a3,a4,a5] h R:=fk f40 (.s .z (.j 1073684480 [13] (.d (.op 0 .r (.op 1 .r (.op 2 .r (.op 3 .r (.op 4 .r (.op 6 .r (.op 8 .r (.op 9 .r (.op 11 .r (.alt (.op 5 .e (.alt (.op 7 .e (.alt (.op 10 .e (.alt (.op 12 .e (.op 13 .r (.op 14 .e (.op 15 .n .nil)))) (.op 14 .e (.op 12 .e (.op 13 .r (.op 15 .n .nil)))))) (.alt (.op 12 .e (.alt (.op 10 .e (.op 13 .r (.op 14 .e (.op 15 .n .nil)))) (.op 14 .e (.op 10 .e (.op 13 .r (.op 15 .n .nil)))))) (.op 14 .e (.alt (.op 10 .e (.op 12 .e (.op 13 .r (.op 15 .n .nil)))) (.op 12 .e (.op 10 .e (.op 13 .r (.op 15 .n .nil))))))))) (.alt (.op 12 .e (.alt (.op 7 .e (.alt (.op 10 .e (.op 13 .r (.op 14 .e (.op 15 .n .nil)))) (.op 14 .e (.op 10 .e (.op 13 .r (.op 15 .n .nil)))))) (.op 14 .e (.op 7 .e (.op 10 .e (.op 13 .r (.op 15 .n .nil))))))) (.op 14 .e (.alt (.op 7 .e (.alt (.op 10 .e (.op 12 .e (.op 13 .r (.op 15 .n .nil)))) (.op 12 .e (.op 10 .e (.op 13 .r (.op 15 .n .nil)))))) (.op 12 .e (.op 7 .e (.op 10 .e (.op 13 .r (.op 15 .n .nil)))))))))) (.alt (.op 12 .e (.alt (.op 5 .e (.alt (.op 7 .e (.alt (.op 10 .e (.op 13 .r (.op 14 .e (.op 15 .n .nil)))) (.op 14 .e (.op 10 .e (.op 13 .r (.op 15 .n .nil)))))) (.op 14 .e (.op 7 .e (.op 10 .e (.op 13 .r (.op 15 .n .nil))))))) (.op 14 .e (.op 5 .e (.op 7 .e (.op 10 .e (.op 13 .r (.op 15 .n .nil)))))))) (.op 14 .e (.alt (.op 5 .e (.alt (.op 7 .e (.alt (.op 10 .e (.op 12 .e (.op 13 .r (.op 15 .n .nil)))) (.op 12 .e (.op 10 .e (.op 13 .r (.op 15 .n .nil)))))) (.op 12 .e (.op 7 .e (.op 10 .e (.op 13 .r (.op 15 .n .nil))))))) (.op 12 .e (.op 5 .e (.op 7 .e (.op 10 .e (.op 13 .r (.op 15 .n .nil)))))))))))))))))))) (.s (.s .z (.l 562941363519488 [33] (.s .z (.s (.s .z .z) (.s (.s .z (.d (.op 0 .r (.op 1 .r (.op 2 .r (.op 3 .r (.op 4 .r (.op 5 .r (.op 6 .r (.op 7 .e (.op 8 .e (.op 9 .n (.op 10 .r (.op 11 .n .nil)))))))))))))) .z))))) (.s .z (.s .z .z))))) H
def xD (a0 a1:Value)(h:ah)(R:Value→ah→Prop):Prop:=
 vK (ak .i .lss a1 ai) λa=>
 vK (gV a false (some a1)) λe=>
 vK (gV a false (some a0)) λf=>
 vK (gV a false (aT f)) λg=>
 vK (gV a false (aB 6 g)) λj=>
 vK (gV a false (ldV h j)) λk=>
 vK (gV a false (aC k)) λl=>
 vK (gV a false (ak .i .gtr e l)) λm=>
 vK (aF a (.bool true) m) λn=>
 aE n (
 R (.bool false) h) (
 vK (ak .i .gtr a1 ai) λo=>
 aE o (
 bO h λS=>
 vK (aT a0) λp=>
 vK (aB 6 p) λq=>
 qK S (λh=>ldV h q) λr=>
 vK (ak .i .sub a1 aG) λs=>
 vK (bu 1 r s) λt=>
 qK S (λh=>ldV h t) λu=>
 vK (aT a0) λv=>
 vK (aB 3 v) λw=>
 qK S (λh=>ldV h w) λx=>
 ag prog eZ #[u,x] h λy z=>
 R y z) (
 vK (aT a0) λaa=>
 vK (aB 12 aa) λab=>
 vK (ldV h ab) λac=>
 aE ac (
 R (.bool false) h) (
 bO h λS=>
 vK (aT a0) λad=>
 vK (aB 8 ad) λae=>
 qK S (λh=>ldV h ae) λaf=>
 vK (aT a0) λaj=>
 vK (aB 2 aj) λal=>
 qK S (λh=>ldV h al) λam=>
 ag prog eK #[am] h λan b=>
 S b∧(vK (ak .i .lss af an) λao=>
 aE ao (
 vK (aT a0) λap=>
 vK (aB 3 ap) λaq=>
 vK (ldV b aq) λar=>
 ag prog iU #[ar] b λau av=>
 R au av) (
 vK (aT a0) λaw=>
 vK (aB 3 aw) λax=>
 vK (ldV b ax) λay=>
 ag prog jq #[ay] b λaz d=>
 vK (unV .not az) λc=>
 vK (gV c false (some a0)) λa2=>
 gK c false (λa3=>ag prog rX #[a2] d a3) d λa4 a5=>
 vK (aF c (.bool true) a4) λa6=>
 R a6 a5)))))
theorem IG (H:xD a0 a1 h R):ag prog mo #[a0,a1] h R:=fk f41 (.s .z (.s (.s .z (.s (.s .z .z) (.s .z (.s (.s (.d (.op 0 .r (.op 1 .r (.op 2 .r (.op 3 .r (.op 4 .r (.op 5 .r (.op 6 .r (.op 7 .r (.op 8 .r (.op 9 .r (.op 10 .r (.op 11 .r (.op 12 .n (.op 13 .r .nil))))))))))))))) .z) (.s .z (.s (.s .z .z) (.s (.d (.op 0 .r (.op 1 .r (.op 2 .r (.op 3 .r (.op 4 .r (.op 5 .r (.op 6 .r (.op 7 .r (.op 8 .e (.op 9 .r (.op 10 .r .nil)))))))))))) (.s (.s .z .z) .z)))))))) (.s .z .z))) H
def xG (a0:Value)(h:ah)(R:Value→ah→Prop):Prop:=
 bO h λS=>
 vK (aT a0) λm=>
 vK (aB 8 m) λn=>
 qK S (λh=>ldV h n) λo=>
 vK (aT a0) λp=>
 vK (aB 2 p) λq=>
 qK S (λh=>ldV h q) λr=>
 ag prog eK #[r] h λs a=>
 S a∧(vK (ak .i .lss o s) λt=>
 aE t (
 bO a λS=>
 vK (aT a0) λu=>
 vK (aB 3 u) λv=>
 qK S (λa=>ldV a v) λw=>
 vK (aT a0) λx=>
 vK (aB 8 x) λy=>
 qK S (λa=>ldV a y) λz=>
 ag prog oh #[w,z] a λb3 b=>
 bO b λS=>
 vK (aT a0) λaa=>
 vK (aB 9 aa) λab=>
 qK S (λb=>ldV b ab) λac=>
 vK (aT a0) λad=>
 vK (aB 4 ad) λae=>
 qK S (λb=>ldV b ae) λaf=>
 ag prog iT #[af,ai] b λaj f=>
 S f∧(du #[(.slice none 0 0)] 104 1 [(0,1,aj)] f λal g=>
 S g∧(dy (.slice none 0 0) 104 1 24 ac al g λam an=>
 vK (aT a0) λao=>
 vK (aB 9 ao) λap=>
 stK 1 ap am an λb4 j=>
 vK (aT a0) λaq=>
 vK (aB 8 aq) λar=>
 vK (ldV j ar) λau=>
 vK (ak .i .add au aG) λav=>
 vK (aT a0) λaw=>
 vK (aB 8 aw) λax=>
 stK 1 ax av j λb5 ay=>
 R (.tuple #[]) ay))) (
 vK (aT a0) λaz=>
 vK (aB 3 az) λa1=>
 vK (ldV a a1) λa2=>
 ag prog jq #[a2] a λa3 d=>
 vK (unV .not a3) λa4=>
 aE a4 (
 vK (aT a0) λa5=>
 vK (aB 3 a5) λa6=>
 vK (ldV d a6) λa7=>
 ag prog jO #[a7] d λb6 k=>
 vK (aT a0) λa8=>
 vK (aB 4 a8) λa9=>
 vK (ldV k a9) λba=>
 ag prog iT #[ba,ai] k λbb bc=>
 vK (aT a0) λbd=>
 vK (aB 10 bd) λbe=>
 stK 1 be bb bc λb7 bf=>
 R (.tuple #[]) bf) (
 vK (aT a0) λbg=>
 vK (aB 11 bg) λbh=>
 vK (ldV d bh) λl=>
 vK (aC l) λbi=>
 bA [ai] d λe b8 c bj=>
 vK (ak .i .lss (ix e 0) bi) λbk=>
 aE bk (
 vK (bu 1 l (ix e 0)) λbl=>
 vK (ldV c bl) λbm=>
 vK (aT a0) λbn=>
 vK (aB 4 bn) λbo=>
 vK (ldV c bo) λbp=>
 ag prog gE #[bp,ai,bm] c λb9 bq=>
 vK (ak .i .add (ix e 0) aG) λbr=>
 bj [br] bq) (
 vK (aT a0) λbs=>
 vK (aB 1 bs) λbt=>
 vK (ldV c bt) λbv=>
 ag prog ub #[bv] c λbw bx=>
 ag prog ef #[a0,ai,aG,ai,bw,(.bool false)] bx λca bz=>
 vK (aT a0) λb0=>
 vK (aB 12 b0) λb1=>
 stK 1 b1 (.bool true) bz λcb b2=>
 R (.tuple #[]) b2))))
theorem IJ (H:xG a0 h R):ag prog rW #[a0] h R:=fk f42 (.s (.d (.op 0 .r (.op 1 .r (.op 2 .r (.op 3 .r (.op 4 .r (.op 5 .r (.op 6 .r (.op 7 .r (.op 8 .e (.op 9 .r (.op 10 .r .nil)))))))))))) (.s (.s (.d (.op 0 .r (.op 1 .r (.op 2 .r (.op 3 .r (.op 4 .r (.op 5 .r (.op 6 .r (.op 7 .r (.op 8 .n .nil)))))))))) (.s (.d (.op 0 .r (.op 1 .r (.op 2 .r (.op 3 .r (.op 4 .r (.op 5 .r (.op 6 .r (.op 7 .r (.op 8 .r (.op 9 .e (.op 10 .e (.op 11 .n (.op 12 .r (.op 13 .r (.op 14 .n .nil)))))))))))))))) .z)) (.s .z (.s (.s .z .z) (.s (.s .z (.l 1048072 [9] (.s .z (.s (.s .z .z) (.s (.s .z .z) .z))))) (.s .z .z)))))) H
def xC (a0 a1:Value)(h:ah)(R:Value→ah→Prop):Prop:=
 bh (Value.cells a0) 35 h λd x=>
 bh (Value.cells a1) 3 x λe b=>
 fR (λj=>
 bO b λS=>
 qK S (λb=>ldV b d) λy=>
 vK (aT y) λz=>
 vK (aB 6 z) λaa=>
 qK S (λb=>ldV b aa) λab=>
 qK S (λb=>ldV b e) λac=>
 vK (ak .i .sub ac aG) λad=>
 vK (bu 1 ab ad) λae=>
 qK S (λb=>ldV b ae) λk=>
 qK S (λb=>ldV b d) λaj=>
 vK (aT aj) λal=>
 vK (aB 3 al) λam=>
 qK S (λb=>ldV b am) λl=>
 (ag prog cU #[k,l,(.func (.func ii) #[] #[d,e])] b λan m=>
 S m∧(bh #[ai,ai,ai,ai] 148 m λn o=>
 S o∧(stK 4 n an o λb7 p=>
 S p∧(j [n] p))))∧(bh #[ai,ai,ai,ai] 148 b λq r=>
 S r∧(ag prog cU #[k,l,(.func (.func ii) #[] #[d,e])] r λao s=>
 S s∧(stK 4 q ao s λb8 t=>
 S t∧(j [q] t)))))
 λf b9 a=>
 vK (aB 0 (ix f 0)) λap=>
 vK (ldV a ap) λg=>
 vK (ak .i .eql g aG) λaq=>
 aE aq (
 bO a λS=>
 qK S (λa=>ldV a d) λar=>
 vK (aT ar) λau=>
 vK (aB 4 au) λav=>
 qK S (λa=>ldV a av) λaw=>
 qK S (λa=>ldV a e) λax=>
 qK S (λa=>ldV a d) λay=>
 vK (aT ay) λaz=>
 vK (aB 9 az) λa2=>
 qK S (λa=>ldV a a2) λa3=>
 vK (aB 1 (ix f 0)) λa4=>
 qK S (λa=>ldV a a4) λa5=>
 vK (bu 1 a3 a5) λa6=>
 qK S (λa=>ldV a a6) λa7=>
 ag prog gE #[aw,ax,a7] a λca a8=>
 R (.tuple #[]) a8) (
 vK (ak .i .eql g (af 2)) λa9=>
 aE a9 (
 vK (ldV a d) λba=>
 vK (ldV a e) λbb=>
 vK (aR 4 a (ix f 0)) λbc=>
 ag prog qy #[ba,bb,bc] a λcb bd=>
 R (.tuple #[]) bd) (
 vK (ak .i .eql g (af 3)) λbe=>
 aE be (
 bO a λS=>
 qK S (λa=>ldV a d) λbf=>
 vK (aT bf) λbg=>
 vK (aB 4 bg) λbi=>
 qK S (λa=>ldV a bi) λbj=>
 qK S (λa=>ldV a e) λbk=>
 qK S (λa=>ldV a d) λbl=>
 vK (aT bl) λbm=>
 vK (aB 10 bm) λbn=>
 qK S (λa=>ldV a bn) λbo=>
 ag prog gE #[bj,bk,bo] a λcc c=>
 bO c λS=>
 qK S (λc=>ldV c d) λbp=>
 qK S (λc=>ldV c d) λbq=>
 vK (aT bq) λbr=>
 vK (aB 11 br) λbs=>
 qK S (λc=>ldV c bs) λbt=>
 qK S (λc=>ldV c d) λbv=>
 vK (aT bv) λbw=>
 vK (aB 4 bw) λbx=>
 qK S (λc=>ldV c bx) λbz=>
 qK S (λc=>ldV c e) λb0=>
 ag prog iT #[bz,b0] c λb1 u=>
 S u∧(du #[(.slice none 0 0)] 104 1 [(0,1,b1)] u λb2 v=>
 S v∧(dy (.slice none 0 0) 104 1 24 bt b2 v λb3 w=>
 S w∧(vK (aT bp) λb4=>
 vK (aB 11 b4) λb5=>
 stK 1 b5 b3 w λcd b6=>
 R (.tuple #[]) b6)))) (
 R (.tuple #[]) a)))
theorem IF (H:xC a0 a1 h R):ag prog rT #[a0,a1] h R:=fk f43 (.s .z (.j 524272 [4] (.d (.op 0 .r (.op 1 .r (.op 2 .r (.op 3 .r (.op 4 .r (.op 5 .r (.op 6 .r (.op 7 .r (.op 8 .r (.op 9 .r (.op 10 .r (.op 11 .r (.op 12 .r (.alt (.op 13 .e (.op 14 .e (.op 15 .e .nil))) (.op 14 .e (.op 13 .e (.op 15 .e .nil)))))))))))))))))) (.s .z (.s .z (.s (.d (.op 0 .r (.op 1 .r (.op 2 .r (.op 3 .r (.op 4 .r (.op 5 .r (.op 6 .r (.op 7 .r (.op 8 .r (.op 9 .r (.op 10 .r (.op 11 .r (.op 12 .r (.op 13 .n .nil))))))))))))))) (.s .z (.s .z (.s .z (.s (.s (.d (.op 0 .r (.op 1 .r (.op 2 .r (.op 3 .r (.op 4 .r (.op 5 .r (.op 6 .r (.op 7 .r (.op 8 .r (.op 9 .n .nil))))))))))) (.d (.op 0 .r (.op 1 .r (.op 2 .r (.op 3 .r (.op 4 .r (.op 5 .r (.op 6 .r (.op 7 .r (.op 8 .r (.op 9 .r (.op 10 .e (.op 11 .e (.op 12 .e (.op 13 .r (.op 14 .r (.op 15 .n .nil)))))))))))))))))) .z))))))))) H
def oU (a0:Value)(h:ah)(R:Value→ah→Prop):Prop:=
 vK (aT a0) λa=>
 vK (aB 1 a) λb=>
 vK (ldV h b) λc=>
 ag prog jc #[c] h λd e=>
 R d e
theorem Ae (H:oU a0 h R):ag prog kT #[a0] h R:=fk f44 (.s .z (.s .z .z)) H
def wz (a0:Value)(h:ah)(R:Value→ah→Prop):Prop:=
 bO h λS=>
 vK (aT a0) λc=>
 vK (aB 0 c) λd=>
 vK (aB 1 d) λe=>
 qK S (λh=>ldV h e) λf=>
 vK (aT a0) λg=>
 vK (aB 4 g) λj=>
 qK S (λh=>ldV h j) λk=>
 ag prog ij #[a0] h λl a=>
 S a∧(ag prog bM #[f] a λm b=>
 S b∧(ag prog vO #[m,k] b λn o=>
 vK (ak .i .mul l n) λp=>
 R p o))
theorem Gt (H:wz a0 h R):ag prog eK #[a0] h R:=fk f46 (.s .z (.s (.d (.op 0 .r (.op 2 .r (.op 3 .r (.op 4 .r (.op 5 .r (.op 6 .r (.op 8 .r (.op 9 .r (.op 10 .r (.op 11 .r (.op 1 .e (.op 7 .e (.op 12 .n (.op 13 .r (.op 14 .r .nil)))))))))))))))) .z)) H
def zk (a0:Value)(h:ah)(R:Value→ah→Prop):Prop:=
 ag prog eK #[a0] h λf g=>
 bA [(.slice none 0 0),ai] g λa u b j=>
 vK (ak .i .lss (ix a 1) f) λk=>
 aE k (
 ag prog gC #[a0,(ix a 1)] b λc l=>
 vK (aP c 0) λm=>
 vK (aP c 1) λv=>
 bh #[ai,ai,ai,ai,ai,ai,ai,ai,ai,ai] 116 l λd n=>
 stK 10 d m n λw e=>
 vK (aR 10 e d) λo=>
 du #[ai,ai,ai,ai,ai,ai,ai,ai,ai,ai] 116 1 [(0,10,o)] e λp q=>
 dy (.agg #[ai,ai,ai,ai,ai,ai,ai,ai,ai,ai]) 116 10 80 (ix a 0) p q λr s=>
 vK (ak .i .add (ix a 1) aG) λt=>
 j [r,t] s) (
 R (ix a 0) b)
theorem Kq (H:zk a0 h R):ag prog uF #[a0] h R:=fk f47 (.s .z (.s .z (.s (.s .z (.l 8388216 [3,9] (.s .z (.s (.s .z .z) (.s (.s .z (.s .z .z)) .z))))) (.s .z .z)))) H
def A9 (a0 a1:Value)(h:ah)(R:Value→ah→Prop):Prop:=
 bh (Value.cells a0) 81 h λg m=>
 bh (Value.cells a1) 116 m λb j=>
 vK (aR 3 j g) λn=>
 vK (aB 1 b) λo=>
 vK (aR 4 j o) λp=>
 ag prog nE #[n,p] j λq c=>
 vK (unV .not q) λr=>
 aE r (
 R ai c) (
 vK (aB 1 b) λs=>
 vK (aB 3 s) λt=>
 vK (ldV c t) λu=>
 vK (aB 1 g) λv=>
 vK (ldV c v) λw=>
 vK (aB 1 b) λx=>
 vK (aB 1 x) λy=>
 vK (ldV c y) λz=>
 ag prog bI #[w,z] c λaa k=>
 vK (qV false 1 0 aa) λab=>
 vK (aB 1 b) λac=>
 vK (aB 3 ac) λad=>
 vK (ldV k ad) λae=>
 bA [u,ab,ai] k λa bb d af=>
 vK (ak .i .lss (ix a 2) ae) λaj=>
 aE aj (
 vK (aB 1 g) λal=>
 vK (ldV d al) λam=>
 vK (aB 1 b) λan=>
 vK (aB 1 an) λao=>
 vK (ldV d ao) λap=>
 vK (ak .i .add ap (ix a 2)) λaq=>
 ag prog bI #[am,aq] d λar au=>
 bh #[ai,(.slice none 0 0)] 189 au λe av=>
 stK 2 e ar av λbc f=>
 vK (aB 0 e) λaw=>
 vK (ldV f aw) λax=>
 vK (aB 1 e) λay=>
 vK (ldV f ay) λaz=>
 vK (aC az) λa2=>
 vK (ak .i .add ax a2) λl=>
 vK (aB 0 e) λa3=>
 vK (ldV f a3) λa4=>
 vK (kw (ix a 1) a4) λa5=>
 vK (ak .i .sub l a5) λa6=>
 vK (kw ai a6) λa7=>
 vK (ak .i .add (ix a 0) a7) λa8=>
 vK (kw (ix a 1) l) λa9=>
 vK (ak .i .add (ix a 2) aG) λba=>
 af [a8,a9,ba] f) (
 R (ix a 0) d))
theorem LC (H:A9 a0 a1 h R):ag prog xa #[a0,a1] h R:=fk f48 (.s .z (.s (.s .z (.s (.s .z .z) .z)) (.s .z (.s .z (.s (.s .z (.l 288230375883277280 [5,6,28] (.s .z (.s (.s .z .z) (.s (.s .z (.s .z (.s .z (.s .z .z)))) .z))))) (.s .z .z)))))) H
def ww (a0:Value)(h:ah)(R:Value→ah→Prop):Prop:=
 bh #[(.pointer none),(.pointer none),ai] 81 h λa b=>
 vK (aT a0) λd=>
 vK (aB 0 d) λe=>
 vK (aR 3 b e) λf=>
 stK 3 a f b λi c=>
 vK (aR 3 c a) λg=>
 R g c
theorem Gs (H:ww a0 h R):ag prog js #[a0] h R:=fk f49 (.s .z (.s .z .z)) H
end
end Go.Proofs.YtjljhnandbbldaaGreatDoor
