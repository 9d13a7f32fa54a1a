/- Several texts of this session, one behind the other, without what this claim does not need (put together by its program pack.py). Conditions: none. -/
import Derived.Orders
import Derived.OrdersHeld
import Derived.Deep.Quiet
import Derived.Calls
import Derived.Laws.Sem
import Derived.Laws.World
import Derived.Laws.StructEq
import Derived.LaidEql
import Derived.Tactics
import Derived.KernelRfl
import Derived.Laws.Append
import Derived.WalkKit
import Derived.ProofKit
import Derived.OpenShut
import Derived.ShutString
import Derived.ChangeOld
import Derived.Below
import Derived.Carry
import Derived.SizedLaws
import Derived.Test.YtjljhnandbbldaaGreatDoorProg
set_option linter.unusedVariables false
set_option linter.unusedSimpArgs false
set_option maxRecDepth 100000
theorem ae {p:Prop}(h:p:=by omega):p:=h
abbrev af (n:Int):Go.Value:=.int .i64 n
abbrev aj:Go.Value:=.int .i64 0
abbrev aJ:Go.Value:=.int .i64 1
abbrev aA:= @if_neg
abbrev aB:= @if_pos
abbrev aO:= @Nat.zero_add
abbrev bA:= @Nat.le_trans
abbrev bZ:= @Nat.zero_le
abbrev bU:= @Go.Result.andThen_ok
abbrev co:= @Go.Sem.run_bind
abbrev cF:= @List.length_append
abbrev cL:= @List.append_assoc
abbrev cP:= @Option.some.injEq
abbrev ck:= @Nat.le_refl
abbrev ce:= @Nat.lt_of_lt_of_le
abbrev b9:= @decide_eq_false
abbrev cA:= @Decidable.of_not_not
abbrev cH:= @decide_eq_true
abbrev cS:= @if_false
abbrev cV:= @if_true
abbrev da:= @List.length_map
abbrev cQ:= @List.getElem_mem
abbrev cU:= @Option.map_some
abbrev di:= @List.length_take
abbrev cZ:= @Go.Sem.run_pure
abbrev de:= @Eq.trans
abbrev dm:= @Go.run_underlying
abbrev dt:= @Bool.and_eq_true
abbrev dr:= @List.getD_eq_getElem?_getD
abbrev eE:= @List.getElem_map
abbrev dH:= @decide_eq_true_eq
abbrev dJ:= @Int.toNat_natCast
abbrev fg:= @List.take_of_length_le
abbrev fb:= @Nat.add_mul
abbrev eZ:= @List.nil_append
abbrev fG:= @Nat.mul_comm
abbrev fF:= @List.length_range
abbrev gQ:= @List.mem_map
abbrev gk:= @eq_false
abbrev gj:= @Int.le_refl
abbrev gv:= @Int.mul_comm
abbrev gP:= @List.mem_append
abbrev gO:= @Nat.mul_le_mul_right
abbrev gN:= @List.getElem?_eq_getElem
abbrev gM:= @decide_true
abbrev ig:= @Bool.false_eq_true
abbrev ie:= @Ne.symm
abbrev ic:= @Nat.add_zero
abbrev ib:= @List.length_drop
abbrev iP:= @Int.emod_lt_of_pos
abbrev ia:= @List.mem_singleton
abbrev iC:= @List.append_nil
abbrev iB:= @decide_eq_decide
abbrev iO:= @Nat.mod_lt
abbrev kD:= @Int.emod_nonneg
abbrev jE:= @List.take_succ_eq_append_getElem
abbrev ka:= @Nat.div_le_self
abbrev jZ:= @eq_true
abbrev jY:= @Int.tmod_eq_emod_of_nonneg
abbrev jX:= @Int.add_mul
abbrev jW:= @List.map_append
abbrev kC:= @List.mem_cons
abbrev lg:= @List.eq_nil_of_length_eq_zero
abbrev kZ:= @Int.one_mul
abbrev lX:= @List.length_nil
abbrev lW:= @Nat.mul_one
abbrev lV:= @Int.mul_le_mul
abbrev lU:= @eq_self
abbrev mT:= @Array.getElem?_eq_some_iff
abbrev mS:= @List.take_append_drop
abbrev mR:= @Int.mul_nonneg
abbrev mQ:= @Int.natCast_mul
abbrev mP:= @List.getElem?_append_right
abbrev oG:= @Array.getElem?_eq_getElem
abbrev oF:= @List.cons_append
abbrev oE:= @Option.some.inj
abbrev oD:= @Nat.div_add_mod
abbrev oC:= @List.drop_eq_nil_of_le
abbrev oB:= @Int.mul_assoc
abbrev oA:= @Int.lt_or_le
abbrev pU:= @List.ext_getElem
abbrev uB:= @cond_true
abbrev pT:= @Nat.lt_or_ge
abbrev pS:= @List.length_cons
abbrev pR:= @List.getElem?_append_left
abbrev pQ:= @List.mem_iff_getElem
abbrev uA:= @List.mem_range
abbrev rK:= @List.range_succ
abbrev yY:= @List.getElem_range
abbrev yX:= @List.getElem?_toArray
abbrev yW:= @cond_false
abbrev uz:= @Nat.lt_of_le_of_lt
abbrev uw:= @Nat.div_eq_of_lt
abbrev uv:= @Nat.one_mul
abbrev uu:= @Int.mul_le_mul_of_nonneg_right
abbrev xh:= @List.mem_cons_of_mem
abbrev xg:= @Nat.div_lt_iff_lt_mul
abbrev xf:= @Nat.mod_eq_of_lt
abbrev xe:= @Nat.pow_add
abbrev xd:= @Int.mul_ediv_add_emod
abbrev xc:= @List.length_replicate
abbrev yV:= @List.map_cons
abbrev Dt:= @Nat.eq_zero_or_pos
abbrev yB:= @List.getElem?_cons_succ
abbrev sK:= @Bool.or_eq_true
abbrev sJ:= @Go.wp_mono
abbrev sI:= @Nat.succ_mul
abbrev vM:= @List.getElem_take
abbrev sH:= @Int.mul_le_mul_of_nonneg_left
abbrev sG:= @Int.ediv_eq_zero_of_lt
abbrev EL:= @List.map_congr_left
abbrev sF:= @List.pairwise_append
abbrev AZ:= @List.map_map
abbrev vL:= @Go.run_program
abbrev vJ:= @Array.getElem?_toList
abbrev vI:= @List.mem_of_getElem?
abbrev vH:= @List.getElem?_map
abbrev vG:= @Nat.add_assoc
abbrev vF:= @Nat.min_eq_left
abbrev vE:= @List.length_pos_iff
abbrev yA:= @List.getElem_drop
abbrev vD:= @Int.le_ediv_iff_mul_le
abbrev vC:= @Nat.mul_assoc
abbrev vB:= @Int.add_mul_ediv_left
abbrev vA:= @List.pairwise_iff_getElem
abbrev vw:= @List.length_set
abbrev vv:= @Int.mul_pos
abbrev EJ:= @List.getElem?_cons_zero
abbrev yx:= @Go.wpOp_mono
abbrev yw:= @List.foldl_cons
abbrev yv:= @Int.ediv_lt_iff_lt_mul
abbrev yu:= @Nat.pow_pos
abbrev yt:= @Int.tdiv_eq_ediv_of_nonneg
abbrev AY:= @Nat.eq_of_beq_eq_true
abbrev AX:= @Go.mem_ready
abbrev AW:= @Array.getElem?_eq_none
abbrev AV:= @Go.ready_mono
abbrev AU:= @of_decide_eq_true
abbrev AT:= @List.mem_of_mem_take
abbrev AS:= @List.drop_eq_getElem_cons
abbrev AR:= @Nat.zero_mul
abbrev Ke:= @Array.length_toList
abbrev AQ:= @Nat.add_sub_cancel
abbrev AP:= @Nat.mul_le_mul
abbrev AO:= @Int.mul_neg
abbrev AN:= @Nat.sub_zero
abbrev AM:= @List.foldl_append
abbrev AL:= @List.getElem_set
abbrev AK:= @Int.toNat_of_nonneg
abbrev AJ:= @List.getElem?_eq_none
abbrev AI:= @Int.ediv_nonneg
abbrev AH:= @and_self
abbrev AG:= @Int.le_trans
abbrev EI:= @List.all_eq_true
abbrev EH:= @Array.toArray_toList
abbrev EF:= @List.drop_drop
abbrev ED:= @beq_iff_eq
abbrev EC:= @true_and
abbrev EB:= @List.getElem_cons_zero
abbrev EA:= @Nat.add_comm
abbrev Ez:= @Nat.mul_left_comm
abbrev Ey:= @Int.le_total
abbrev Ew:= @decide_eq_false_iff_not
abbrev Ev:= @Int.mul_left_comm
abbrev Eu:= @eq_comm
abbrev Kd:= @Array.ext'
abbrev Kc:= @Bool.not_eq_true'
abbrev Kb:= @List.mem_cons_self
abbrev Ka:= @List.mapM_cons
abbrev J0:= @Bool.eq_false_iff
abbrev JZ:= @Array.any_eq_true'
abbrev JY:= @Nat.and_one_is_mod
abbrev JX:= @Bool.true_and
abbrev JW:= @Array.ext
abbrev JV:= @Nat.le_of_not_lt
abbrev JU:= @List.take_append_of_le_length
abbrev JT:= @Nat.div_div_eq_div_mul
abbrev JR:= @Nat.mul_add
abbrev JQ:= @Nat.add_mul_div_left
abbrev JP:= @dif_pos
abbrev JO:= @Int.pow_pos
abbrev JN:= @Int.le_of_lt_add_one
abbrev JM:= @Bool.decide_and
abbrev JL:= @decide_not
abbrev JK:= @Nat.div_mul_le_self
abbrev JJ:= @Int.mul_add
abbrev JI:= @List.perm_append_comm
abbrev JH:= @List.Perm.refl
abbrev zd2:= @Int.emod_eq_of_lt
abbrev JG:= @List.not_mem_nil
abbrev JF:= @List.take_length
abbrev Nq:= @Go.Sem.run_map
abbrev Np:= @Array.mem_filter
abbrev No:= @Option.map_none
abbrev Nn:= @Bool.or_eq_false_iff
abbrev Nm:= @Array.getElem?_modify
abbrev Nl:= @Nat.le_total
abbrev Nk:= @List.drop_append_of_le_length
abbrev Nj:= @List.drop_append
abbrev Ni:= @List.drop_zero
abbrev Nh:= @Nat.pow_succ
abbrev Ng:= @Nat.add_mul_mod_self_left
abbrev Nf:= @Nat.le_div_iff_mul_le
abbrev Nd:= @decide_false
abbrev Nc:= @Go.ByteArray.toList_eq
abbrev Nb:= @List.map_set
abbrev Na:= @List.set_append_right
abbrev M9:= @List.concat_eq_append
abbrev M8:= @List.take_zero
abbrev M7:= @List.getElem?_eq_some_iff
abbrev M6:= @List.mem_replicate
abbrev MZ:= @Nat.mul_add_mod
abbrev ZI:= @Function.comp_def
abbrev MY:= @Int.eq_ofNat_of_zero_le
abbrev MX:= @List.mem_append_left
abbrev MW:= @Int.natCast_add
abbrev MV:= @Nat.le_succ
abbrev UF:= @Bool.not_true
abbrev UE:= @Array.toList_map
abbrev UD:= @Array.getD_eq_getD_getElem?
abbrev UC:= @Nat.shiftRight_eq_div_pow
abbrev UB:= @Array.setIfInBounds_comm
abbrev UA:= @List.range_eq_range'
abbrev Uz:= @List.size_toArray
abbrev Uy:= @Go.growslice_fits
abbrev Ux:= @Option.bind_eq_some_iff
abbrev Uw:= @List.getElem?_drop
abbrev Uv:= @Int.mul_le_mul_of_nonpos_left
abbrev Uu:= @BitVec.toNat_ofInt
abbrev Ut:= @Int.fdiv_eq_ediv_of_nonneg
abbrev Us:= @Nat.mul_lt_mul_of_pos_right
abbrev Ur:= @Nat.mul_right_comm
abbrev Uq:= @Nat.mul_mod_mul_right
abbrev Up:= @Int.zero_sub
abbrev Uo:= @Int.neg_mul
abbrev Un:= @List.countP_append
abbrev Um:= @Int.sub_mul
abbrev Ul:= @List.pairwise_cons
abbrev Uk:= @List.perm_middle
abbrev Uj:= @List.length_eq_one_iff
abbrev Ui:= @List.mem_of_mem_drop
abbrev Uh:= @List.length_range'
abbrev Ug:= @Nat.pow_succ'
abbrev Uf:= @Nat.div_le_div_left
abbrev Ue:= @Int.mul_sub
abbrev Ud:= @Option.isNone_none
abbrev Uc:= @Option.isNone_some
abbrev Ub:= @List.map_replicate
abbrev Ua:= @Int.add_mul_ediv_right
abbrev zd1:= @Prod.mk.injEq
abbrev T9:= @Array.mem_toList_iff
abbrev T8:= @Nat.lt_succ_iff_lt_or_eq
abbrev ZH:= @List.getElem_replicate
abbrev zd0:= @Nat.lt_succ_of_lt
abbrev T7:= @List.dropLast_concat_getLast
abbrev T6:= @Nat.sub_self
abbrev T5:= @Nat.mul_add_div
abbrev T4:= @List.getElem?_range
abbrev T0:= @Int.lt_of_not_ge
abbrev TZ:= @Classical.byContradiction
abbrev ZG:= @Array.mapM_eq_mapM_toList
abbrev ZF:= @Array.getElem?_setIfInBounds_ne
abbrev ZE:= @Array.getElem?_replicate
abbrev ZD:= @Array.getElem?_setIfInBounds
abbrev ZC:= @Classical.choose_spec
abbrev ZB:= @List.length_singleton
abbrev ZA:= @List.getElem_append_left
abbrev Zz:= @Array.zipIdx_toArray
abbrev Zy:= @List.foldl_toArray'
abbrev Zx:= @List.getElem?_take_of_lt
abbrev Zv:= @Nat.mul_le_mul_left
abbrev Zu:= @Nat.mul_div_mul_right
abbrev Zt:= @List.range'_append_1
abbrev Zs:= @List.pairwise_lt_range'
abbrev Zq:= @List.drop_replicate
abbrev Zp:= @Nat.le_mul_of_pos_right
abbrev Zo:= @List.mem_or_eq_of_mem_set
abbrev Zk:= @Nat.add_sub_cancel_left
abbrev Zj:= @List.nodup_iff_pairwise_ne
abbrev Zh:= @List.getLast?_eq_getElem?
abbrev Zg:= @Int.lt_of_add_one_le
namespace Go.Crisp
open Go
section
abbrev ai:=Array Obj
abbrev Env:=Nat→Value
abbrev oV:=ai→(Value→ai→Prop)→Prop
def dT (w w':World):Prop:=w'.os=w.os∧w'.tape=w.tape∧w'.output=w.output
theorem dT.refl (w:World):dT w w:=⟨rfl,rfl,rfl⟩
theorem dT.trans {a b c:World}(h:dT a b)(k:dT b c):dT a c:=⟨k.1.trans h.1,k.2.1.trans h.2.1,k.2.2.trans h.2.2⟩
def ev (ρ:Env):Operand→Value
 | .tmp t=>ρ t
 | .const v=>v
 | .global g=>.pointer (some ⟨g,0,none⟩)
 | .func f=>.func (.func f) #[] #[]
def up (ρ:Env)(d:Option Tmp)(v:Value):Env:=
 match d with
 |some d=>λt=>match Nat.beq t d with
  |true=>v
  |false=>ρ t
 |none=>ρ
def aE (h:ai)(a:Addr):Option Value:=
 match h[a.block]? with
 |some (.cells c _ _)=>if a.spot.isSome then none else c[a.off]?
 |_=>none
def xq (h:ai)(a:Addr):Bool:=
 match h[a.block]? with
 |some (.cells _ _ (lo,hi))=>lo≤a.off&&a.off<hi
 |_=>false
def NU (h:ai)(a:Addr)(v:Value):ai:=
 h.modify a.block λ
  | .cells c elem frozen=>.cells (if a.spot.isSome then c else c.setIfInBounds a.off v) elem frozen
  |o=>o
def fu (h:ai)(a:Addr):Nat→Nat→Option (List Value)
 |_,0=>some []
 | i,n+1=>match aE h (a.add i)with
  |some v=>match fu h a (i+1) n with
   |some l=>some (v::l)
   |none=>none
  |none=>none
def aV:Value→Bool
 | .agg _| .tuple _=>false
 |_=>true
def kM (h:ai)(a:Addr):Nat→List Value→Option ai
 |_,[]=>some h
 |i,v::l=>
  match aE h (a.add i)with
  |some _=>bif aV v&& !xq h (a.add i)then kM (NU h (a.add i) v) a (i+1) l else none
  |none=>none
inductive SE where
 |b|i
 |st (fs:List (Nat×Nat×SE))
inductive EK where
 |b|i|s|p|sl|m|f|o
 |st (fs:List (Nat×Nat×SE))
def zdG (f:TypeId→Option SE) (sz:TypeId→Option Nat):List Field→Option (List (Nat×Nat×SE))
 | []=>some []
 | fd::fs=>match f fd.type with
  |none=>none
  | some e=>match sz fd.type with
   |none=>none
   |some n=>match zdG f sz fs with
    |none=>none
    |some l=>some ((fd.offset,n,e)::l)
def zcB (P:Program)(fs:Array Field)(t:TypeId):Bool:= !P.stoodInHeld t&&(!P.eqGuardType P.depth t&&fs.toList.all λf=>f.name != "_")
def Te (P:Program):Nat→TypeId→Option SE
 |0,_=>none
 | d+1,t=>match P.underlying t with
  |some .bool=>some .b
  |some (.int _)=>some .i
  | some (.struct fs)=>match zcB P fs t with
   |true=>match zdG (Te P d) (λt=>(P.info? t).map (·.size)) fs.toList with
    |some l=>some (.st l)
    |none=>none
   |false=>none
  |_=>none
def PR (P:Program)(t:TypeId):EK:=
 match P.underlying t with
 |some .bool=>.b
 |some (.int _)=>.i
 |some .string=>.s
 |some (.pointer _)=>.p
 |some (.slice _)=>.sl
 |some (.map _ _)=>.m
 |some (.func _ _ _)=>.f
 |some (.struct _)=>match Te P 4 t with
  |some (.st l)=>.st l
  |_=>.o
 |_=>.o
def NY:SE→Bool
 | .st _=>true
 |_=>false
mutual
def NX:SE→Value→Value→Option Bool
 | .b,.bool a,.bool b=>some (a==b)
 | .i,.int k a,.int k' b=>if k=k' then some (a==b)else none
 | .st fs,.agg xs,.agg ys=>IZ fs xs ys
 |_,_,_=>none
def IZ:List (Nat×Nat×SE)→Array Value→Array Value→Option Bool
 | [],_,_=>some true
 | (o,n,e)::fs,xs,ys=>
  match(bif NY e then some (.agg (xs.extract o (o+n)))else xs[o]?),(bif NY e then some (.agg (ys.extract o (o+n)))else ys[o]?)with
  |some a,some b=>match NX e a b with
   |some true=>IZ fs xs ys
   |some false=>some false
   |none=>none
  |_,_=>none
end
def eqV (e:EK)(x y:Value):Option Bool:=
 match e,x,y with
 | .b,.bool a,.bool b=>some (a==b)
 | .p,.pointer none,.pointer b=>some b.isNone
 | .p,.pointer (some _),.pointer none=>some false
 | .sl,.slice none _ _,.slice b _ _=>some b.isNone
 | .sl,.slice (some _) _ _,.slice none _ _=>some false
 | .m,.map none,.map b=>some b.isNone
 | .m,.map (some _),.map none=>some false
 | .f,.nilFunc,.nilFunc=>some true
 | .f,.nilFunc,.func _ _ _=>some false
 | .f,.func _ _ _,.nilFunc=>some false
 | .st fs,.agg xs,.agg ys=>IZ fs xs ys
 |_,_,_=>none
def ZS (P:Program):Bool:=true
class mh (P:Program):Prop where
 ok:ZS P=true
def Kk (op:BinOp)(k:IntKind)(a b:Int):Option Value:=
 match op with
 | .add=>some (.int k (k.wrap (a+b)))
 | .sub=>some (.int k (k.wrap (a-b)))
 | .mul=>some (.int k (k.wrap (a*b)))
 | .quo=>if b=0 then none else some (.int k (k.wrap (a.tdiv b)))
 | .rem=>if b=0 then none else some (.int k (a.tmod b))
 | .and=>some (.int k (k.wrap (BitVec.ofInt k.bits a&&& BitVec.ofInt k.bits b).toNat))
 | .or=>some (.int k (k.wrap (BitVec.ofInt k.bits a|||BitVec.ofInt k.bits b).toNat))
 | .xor=>some (.int k (k.wrap (BitVec.ofInt k.bits a^^^BitVec.ofInt k.bits b).toNat))
 | .andNot=>some (.int k (k.wrap (BitVec.ofInt k.bits a&&& ~~~ BitVec.ofInt k.bits b).toNat))
 | .eql=>some (.bool (a==b))
 | .neq=>some (.bool (a != b))
 | .lss=>some (.bool (a<b))
 | .leq=>some (.bool (a≤b))
 | .gtr=>some (.bool (b<a))
 | .geq=>some (.bool (b≤a))
 |_=>none
def strV (op:BinOp)(x y:ByteArray):Option Value:=
 match op with
 | .add=>if((x.size+y.size:Nat):Int)>IntKind.i64.max then none else some (.string (x++y))
 | .eql=>some (.bool (x.toList==y.toList))
 | .neq=>some (.bool !(x.toList==y.toList))
 |_=>none
def ak (e:EK)(op:BinOp)(x y:Value):Option Value:=
 match x,y with
 | .int k a,.int k' b=>
  match op with
  | .shl=>if b<0 then none else some (.int k (k.wrap (a*2^(min b.toNat k.bits))))
  | .shr=>if b<0 then none else some (.int k (a.fdiv (2^(min b.toNat k.bits))))
  |op=>if k=k' then Kk op k a b else none
 | .string a,.string b=>strV op a b
 |x,y=>
  match op with
  | .eql=>(eqV e x y).map .bool
  | .neq=>(eqV e x y).map λb=>.bool !b
  |_=>none
def unV (op:UnOp)(x:Value):Option Value:=
 match op,x with
 | .neg,.int k n=>some (.int k (k.wrap (0-n)))
 | .xor,.int k n=>some (.int k (k.wrap (BitVec.ofInt k.bits (if k.signed then-1 else k.max)^^^BitVec.ofInt k.bits n).toNat))
 | .not,.bool b=>some (.bool !b)
 |_,_=>none
def aH (c x y:Value):Option Value:=
 match c with
 | .bool b=>some (bif b then x else y)
 |_=>none
def aX:Value→Option Value
 | .pointer none| .nilIface| .nilFunc=>none
 | .func (.method _) _ _=>none
 |x=>some x
def ldV (h:ai)(x:Value):Option Value:=
 match x with
 | .pointer (some a)=>aE h a
 |_=>none
def V2:Operand→Bool
 | .const (.pointer none)=>true
 |_=>false
def pI (h:ai)(b:Nat):Bool:=match h[b]? with
 |some (.cells _ _ (0,0))=>true
 |_=>false
def peV (h:ai)(op:BinOp)(x y:Value):Option Value:=
 match x,y with
 | .pointer (some a),.pointer (some b)=>match op with
  | .eql=>if a=b then some (.bool true)else if pI h a.block&&pI h b.block then some (.bool false)else none
  | .neq=>if a=b then some (.bool false)else if pI h a.block&&pI h b.block then some (.bool true)else none
  |_=>none
 |x,y=>ak .p op x y
def aM (n:Nat)(h:ai)(x:Value):Option Value:=
 match x with
 | .pointer (some a)=>(fu h a 0 n).map λl=>.agg l.toArray
 |_=>none
def aC (off:Nat)(x:Value):Option Value:=
 match x with
 | .pointer (some a)=>some (.pointer (some (a.add off)))
 |_=>none
def rh (agg:Bool)(size off:Nat)(x:Value):Option Value:=
 match x with
 | .agg cs=>bif agg then some (.agg (cs.extract off (off+size)))else cs[off]?
 |_=>none
def bh (size:Nat)(x i:Value):Option Value:=
 match x,i with
 | .slice (some a) len _,.int _ i=>if 0≤i∧i<(len:Int)then some (.pointer (some (a.add (i.toNat*size))))else none
 |_,_=>none
def PF (len size:Nat)(x i:Value):Option Value:=
 match x,i with
 | .pointer (some a),.int _ i=>if 0≤i∧i<(len:Int)then some (.pointer (some (a.add (i.toNat*size))))else none
 |_,_=>none
def zfq (x i:Value):Option Value:=
 match x,i with
 | .string s,.int _ i=>(if 0≤i then s[i.toNat]? else none).map λb=>.int .u8 b.toNat
 |_,_=>none
def aP (x:Value)(i:Nat):Option Value:=
 match x with
 | .tuple vs=>vs[i]?
 |_=>none
def gS (k:IntKind)(x:Value):Option Value:=
 match x with
 | .int _ n=>some (.int k (k.wrap n))
 |_=>none
def ze5 (x:Value):Option Value:=
 match x with
 | .int _ n=>some (.string (Utf8.encode n))
 |_=>none
def aD (x:Value):Option Value:=
 match x with
 | .slice _ n _=>some (.int .i64 n)
 |_=>none
def Ld (x:Value):Option Value:=
 match x with
 | .string s=>some (.int .i64 s.size)
 |_=>none
def Sj (h:ai)(x:Value):Option Value:=
 match x with
 | .map none=>some (.int .i64 0)
 | .map (some r)=>match h[r]? with
  |some (.map es _)=>some (.int .i64 es.size)
  |_=>none
 |_=>none
def kA (x y:Value):Option Value:=
 match x,y with
 | .int k a,.int _ b=>some (.int k (if b>a then b else a))
 |_,_=>none
def tW (x y:Value):Option Value:=
 match x,y with
 | .int k a,.int _ b=>some (.int k (if b<a then b else a))
 |_,_=>none
def ze2 (x y z:Value):Option Value:=
 match kA x y with
 |some a=>kA a z
 |none=>none
def ze1 (x y z:Value):Option Value:=
 match tW x y with
 |some a=>tW a z
 |none=>none
def bdV (x:Option Value)(d:Nat)(most:Nat):Option Nat:=
 match x with
 |none=>some d
 |some (.int _ i)=>if 0≤i∧i≤(most:Int)then some i.toNat else none
 |some _=>none
def ni (size:Nat)(x:Value)(lo hi:Option Value):Option Value:=
 match x with
 | .slice a len cap=>match bdV hi len cap with
  |some h=>match bdV lo 0 h with
   |some l=>some (.slice (if cap=l then a else a.map (·.add (l*size))) (h-l) (cap-l))
   |none=>none
  |none=>none
 |_=>none
def zff (x:Value)(lo hi:Option Value):Option Value:=
 match x with
 | .string s=>match bdV hi s.size s.size with
  |some h=>match bdV lo 0 h with
   |some l=>some (.string (s.extract l h))
   |none=>none
  |none=>none
 |_=>none
def vK (r:Option Value)(K:Value→Prop):Prop:=
 match r with
 |some v=>K v
 |none=>False
def Bz (P:Program)(t:TypeId):Option Bool:=
 (P.underlying t).map λ
  | .struct _| .array _ _=>true
  |_=>false
def fP (P:Program)(t:TypeId):Option Nat:=(P.info? t).map (·.size)
def yM (P:Program)(t:TypeId):Option Value:=(P.info? t).bind (·.zero)
def mD (P:Program)(t:TypeId):Option TypeDesc:=
 match P.underlying t with
 |some (.int k)=>some (.int k)
 |some .bool=>some .bool
 |some .string=>some .string
 |_=>none
def We (h:ai)(m:Value):Option (Array MapEntry×Nat):=
 match m with
 | .map (some r)=>match h[r]? with
  |some (.map es c)=>some (es,c)
  |_=>none
 |_=>none
def L5 (kd:TypeDesc)(zero:Value)(ok:Bool)(h:ai)(m k:Value):Option Value:=
 match m with
 | .map none=>some (bif ok then .tuple #[zero,.bool false]else zero)
 | m=>match We h m with
  |none=>none
  |some (es,_)=>match Instr.findNow kd k es.toList 0 with
   |some (some (_,v))=>some (bif ok then .tuple #[v,.bool true]else v)
   |some none=>some (bif ok then .tuple #[zero,.bool false]else zero)
   |none=>none
def aR (cells:Array Value):List (Nat×Nat×Value)→Option (Array Value)
 | []=>some cells
 |(off,size,v)::rest=>
  if v.cells.size≠size||off+v.cells.size>cells.size then none
  else aR (v.cells.zipIdx.foldl (λcs (c,j)=>cs.setIfInBounds (off+j) c) cells) rest
def yq (P:Program):List Field→Option (List (Nat×Nat))
 | []=>some []
 | f::fs=>match fP P f.type with
  |none=>none
  |some s=>match yq P fs with
   |none=>none
   |some l=>some ((f.offset,s)::l)
def VE (P:Program)(t:TypeId):Option (Nat→Option (Nat×Nat)):=
 match P.underlying t with
 |some (.struct fs)=>(yq P fs.toList).map λl=>λi=>l[i]?
 |some (.array _ e)=>(fP P e).map λs=>λi=>some (i*s,s)
 |_=>none
def C9 (pl:Nat→Option (Nat×Nat))(ρ:Env):List (Nat×Operand)→Option (List (Nat×Nat×Value))
 | []=>some []
 | (i,x)::rest=>match pl i with
  |none=>none
  |some (o,s)=>match C9 pl ρ rest with
   |none=>none
   |some l=>some ((o,s,ev ρ x)::l)
def roB (P:Program)(b:Builtin)(args:List Value)(ts:List TypeId)(h:ai):Option (Option Value):=
 match b with
 | .len=>match args,ts with
  | [x],[t]=>match P.underlying t with
   |some (.slice _)=>some (aD x)
   |some .string=>some (Ld x)
   |some (.map _ _)=>some (Sj h x)
   |_=>none
  |_,_=>none
 | .max=>match args with
  | [x,y]=>some (kA x y)
  | [x,y,z]=>some (ze2 x y z)
  |_=>none
 | .min=>match args with
  | [x,y]=>some (tW x y)
  | [x,y,z]=>some (ze1 x y z)
  |_=>none
 |_=>none
def roV (P:Program) (ρ:Env) (op:Op) (h:ai):Option (Option Value):=
 match op with
 | .move x| .assign x=>some (some (ev ρ x))
 | .pick c x y=>some (aH (ev ρ c) (ev ρ x) (ev ρ y))
 | .load t x=>match Bz P t with
  |some false=>some (ldV h (ev ρ x))
  |some true=>match fP P t with
   |some n=>some (aM n h (ev ρ x))
   |none=>none
  |none=>none
 | .nilCheck x=>some (aX (ev ρ x))
 | .binOp op t x y _=>match PR P t with
  | .o=>none
  | .p=>match V2 x||V2 y with
   |true=>some (ak .p op (ev ρ x) (ev ρ y))
   | false=>match P.underlying t with
    |some (.pointer e)=>match fP P e with
     |some (_+1)=>some (peV h op (ev ρ x) (ev ρ y))
     |_=>none
    |_=>none
  |e=>some (ak e op (ev ρ x) (ev ρ y))
 | .unOp op _ x=>some (unV op (ev ρ x))
 | .convert s d x=>match P.underlying s,P.underlying d with
  |some (.int _),some (.int k)=>some (gS k (ev ρ x))
  |some (.int _),some .string=>some (ze5 (ev ρ x))
  |_,_=>none
 | .slice t x lo hi none=>match P.underlying t with
  |some (.slice e)=>match fP P e with
   |some n=>some (ni n (ev ρ x) (lo.map (ev ρ)) (hi.map (ev ρ)))
   |none=>none
  |some .string=>some (zff (ev ρ x) (lo.map (ev ρ)) (hi.map (ev ρ)))
  |_=>none
 | .fieldAddr s x f=>match P.underlying s with
  | some (.struct fs)=>match fs[f]? with
   |some fd=>match fP P fd.type with
    |some 0=>none
    |some (_+1)=>some (aC fd.offset (ev ρ x))
    |none=>none
   |none=>none
  |_=>none
 | .field t x f=>match P.underlying t with
  | some (.struct fs)=>match fs[f]? with
   |some fd=>match Bz P fd.type,fP P fd.type with
    |some b,some n=>some (rh b n fd.offset (ev ρ x))
    |_,_=>none
   |none=>none
  |_=>none
 | .indexAddr t x i=>match P.underlying t with
  |some (.slice e)=>match fP P e with
   |some n=>some (bh n (ev ρ x) (ev ρ i))
   |none=>none
  |some (.array len e)=>match fP P e with
   |some n=>some (PF len n (ev ρ x) (ev ρ i))
   |none=>none
  |_=>none
 | .index t x i=>match P.underlying t with
  |some .string=>some (zfq (ev ρ x) (ev ρ i))
  |_=>none
 | .extract t i=>some (aP (ev ρ t) i)
 | .makeInterface t x=>match P.underlying t with
  |some (.interface _)=>none
  |some _=>some (some (.iface t (ev ρ x)))
  |none=>none
 | .makeFunc fn first captured=>some (some (.func fn (first.map (ev ρ)) (captured.map (ev ρ))))
 | .lookup t x k ok=>match P.underlying t with
  |some (.map kt et)=>match mD P kt,yM P et with
   |some kd,some z=>some (L5 kd z ok h (ev ρ x) (ev ρ k))
   |_,_=>none
  |_=>none
 | .build t parts=>match yM P t,VE P t with
  |some z,some pl=>match C9 pl ρ parts.toList with
   |some l=>some ((aR z.cells l).map .agg)
   |none=>none
  |_,_=>none
 | .call c=>match c.callee with
  | .builtin b=>roB P b (c.args.map (ev ρ)).toList c.argTypes.toList h
  |_=>none
 |_=>none
section
variable {P:Program}{ρ:Env}{w:World}
theorem bJ {t:TypeId}{n:Nat}(h:fP P t=some n):(sizeOf t).run P w=.ok n w:=by
 unfold fP at h;cases hi:P.info? t with
 |none=>simp[hi]at h
 |some i=>simp[hi]at h;simp[sizeOf,typeInfo,hi,h]
theorem cG {t:TypeId}{b:Bool}(h:Bz P t=some b):(isAgg t).run P w=.ok b w:=by
 unfold Bz at h;cases hi:P.underlying t with
 |none=>simp[hi]at h
 |some d=>
  simp only[hi,cU,cP]at h;subst h;simp only[isAgg,co,dm hi,bU];cases d<;>rfl
theorem bD {t:TypeId}{z:Value}(h:yM P t=some z):(zeroValue t).run P w=.ok z w:=by
 unfold yM at h;cases hi:P.info? t with
 |none=>simp[hi]at h
 |some i=>simp[hi]at h;simp[zeroValue,typeInfo,hi,h]
theorem R0 {a:Addr}{v:Value}(h:aE w.heap a=some v):(load a).run P w=.ok v w:=by
 have:w.cell? a=some v:=h;simp[this]
theorem yp (a:Addr):∀(n i:Nat) (acc:Array Value) (l:List Value),fu w.heap a i n=some l→(loadCellsFrom a i n acc).run P w=.ok (acc++l.toArray) w
 |0,i,acc,l,h=>by
  simp[fu]at h;subst h;simp[loadCellsFrom]
 | n+1,i,acc,l,h=>by
  unfold fu at h;cases h1:aE w.heap (a.add i)with
  |none=>simp[h1]at h
  | some v=>
   simp only[h1]at h;cases h2:fu w.heap a (i+1) n with
   |none=>simp[h2]at h
   |some l'=>
    simp only[h2,cP]at h;subst h;have:=yp a n (i+1) (acc.push v) l' h2;simp only[loadCellsFrom,co,R0 h1,bU,this]
    congr 1
    apply Kd;simp
theorem BU {t:TypeId}{a:Addr}{v:Value}(ht:Bz P t=some false)(h:aE w.heap a=some v):(loadVar t a).run P w=.ok v w:=by
 simp[loadVar,cG ht];simpa using R0 (P:=P) h
theorem BV {t:TypeId}{a:Addr}{n:Nat}{l:List Value}(ht:Bz P t=some true)(hs:fP P t=some n)(h:fu w.heap a 0 n=some l):
  (loadVar t a).run P w=.ok (.agg l.toArray) w:=by
 have:=yp (P:=P) a n 0 #[] l h;simp[loadVar,cG ht,bJ hs,loadCells,this]
theorem KK {t:TypeId}{b:Bool}{n off:Nat}{cs:Array Value}{v:Value}(ht:Bz P t=some b)(hs:fP P t=some n)(h:rh b n off (.agg cs)=some v):
  (part t cs off).run P w=.ok v w:=by
 simp only[rh]at h;simp only[part,co,cG ht,bU];cases b
 ·simp at h;simp[h]
 ·simp at h;simp[bJ hs,h]
theorem nK {x:Value}{most n:Nat}(c:BoundsCode)(d:Nat)(h:bdV (some x) d most=some n):(Instr.sliceBound x most c).run P w=.ok n w:=by
 unfold bdV at h;cases x<;>simp at h
 rename_i k i;obtain⟨h1,rfl⟩:=h;simp[Instr.sliceBound,asIntOf,h1]
theorem zV {b:Bool}{len cap l h:Nat}{lo hi:Option Value}(hh:bdV hi len cap=some h)(hl:bdV lo 0 h=some l):
  (Instr.sliceBounds b len cap lo hi none).run P w=.ok (l,h,cap) w:=by
 unfold Instr.sliceBounds;cases hi with
 |none=>
  simp[bdV]at hh;subst hh;cases lo with
  |none=>simp[bdV]at hl;subst hl;simp
  |some x=>simp[nK _ _ hl]
 |some y=>
  cases lo with
  |none=>simp[bdV]at hl;subst hl;simp[nK _ _ hh]
  |some x=>simp[nK _ _ hh,nK _ _ hl]
theorem zbR {op:BinOp}{k:IntKind}{a b:Int}{v:Value}(h:Kk op k a b=some v)(hs:op≠ .shl∧op≠ .shr)(t:TypeId):
  (binOp op t (.int k a) (.int k b)).run P w=.ok v w:=by
 cases op<;>simp_all [Kk,binOp,Op.intArith,Op.intDiv,Op.intBits,Op.intCmp]
theorem ZR [mh P]{t:TypeId}{d:Nat}{fs:Array Field}{e:SE}(hu:P.underlying t=some (.struct fs))(hd:d<5)(he:Te P d t=some e):
  P.stoodInHeld t=false∧P.eqGuardType P.depth t=false∧∀f∈fs.toList,f.name≠ "_" :=by
 have h1:zcB P fs t=true:=by
  cases d with
  |zero=>cases he
  |succ d=>
   unfold Te at he;rw[hu]at he;simp only at he;split at he
   ·rename_i hb;exact hb
   ·cases he
 unfold zcB at h1;simp only[dt,Kc,EI,bne_iff_ne,ne_eq]at h1;exact⟨h1.1,h1.2.1,h1.2.2⟩
theorem Vu:∀{d:Nat} {t:TypeId} {e:SE},Te P d t=some e→Bz P t=some (NY e)
 |0,_,_,h=>by cases h
 | d+1,t,e,h=>by
  unfold Te at h;unfold Bz;split at h
  ·rename_i hu;cases h;rw[hu];rfl
  ·rename_i hu;cases h;rw[hu];rfl
  ·rename_i hu;split at h
   ·split at h
    ·cases h;rw[hu];rfl
    ·cases h
   ·cases h
  ·cases h
theorem N0 [mh P]:∀(d:Nat),d<5→∀(k:Nat),d≤k→∀(t:TypeId) (e:SE) (x y:Value) (b:Bool),Te P d t=some e→NX e x y=some b→(Op.equalIn k t x y).run P w=.ok b w
 |0,_,_,_,_,_,_,_,_,h,_=>by cases h
 | d + 1, hd,k,hk,t,e,x,y,b,h,hq=>by
  obtain⟨k,rfl⟩:∃m,k=m+1:=⟨k-1,by omega⟩
  have h':=h;unfold Te at h;split at h
  ·rename_i hu;cases h;unfold NX at hq;split at hq<;>simp_all
   subst hq;exact run_equalIn_bool' _ _ _ _ _ hu
  ·rename_i hu;cases h;unfold NX at hq;split at hq<;>simp_all
   obtain⟨rfl,rfl⟩:=hq;exact run_equalIn_int _ _ _ _ _ _ _ hu
  ·rename_i fs hu;split at h
   ·split at h
    case h_2=>cases h
    rename_i l hl;cases h;have hf:=ZR hu hd h';unfold NX at hq;split at hq<;>try(simp at* ;done)
    rename_i fs' xs ys hfs;cases hfs;have hfo:P.fieldsOf t=fs:=by unfold Program.fieldsOf;rw[hu]
    rw[run_equalIn_struct w k t xs ys (by rw[hfo];exact hu) hf.1,hfo];have names:=hf.2.2
    clear hfo hu h' hf
    generalize fs.toList=gs at hl names;induction gs generalizing l b with
    |nil=>
     simp only[zdG,cP]at hl;subst hl;simp only[IZ,cP]at hq;subst hq;rfl
    | cons f gs ih=>
     unfold zdG at hl;split at hl
     ·cases hl
     ·rename_i e he;split at hl
      ·cases hl
      ·rename_i n hn;split at hl
       ·cases hl
       ·rename_i l' hl';cases hl;unfold IZ at hq;split at hq
        ·rename_i a b' ha hb;have pa:=KK (P:=P) (w:=w) (Vu he) hn (off:=f.offset) (cs:=xs) (v:=a) (by simpa[rh]using ha);have pb:=KK (P:=P) (w:=w) (Vu he) hn (off:=f.offset) (cs:=ys) (v:=b') (by simpa[rh]using hb);have nm:=names f (Kb ..);unfold Op.eqFields;rw[aB nm];simp only[co,pa,pb,bU];split at hq
         ·rename_i hs;rw[N0 d (by omega) k (by omega) _ _ _ _ _ he hs];simp only[bU,UF,ig,cS];exact ih b l' hq hl' λg hg=>names g (xh _ hg)
         ·rename_i hs;cases hq;rw[N0 d (by omega) k (by omega) _ _ _ _ _ he hs];rfl
         ·cases hq
        ·cases hq
   ·cases h
  ·cases h
theorem St {e:EK}{x y:Value}{b:Bool}(hs:∀fs,e≠ .st fs)(h:eqV e x y=some b):(∀c,x≠ .agg c)∧x≠ .nilIface:=by
 unfold eqV at h;split at h<;>simp_all
theorem tK {op:BinOp}{t:TypeId}{x y:Value}(x' y':Operand)(h:(∀c,x≠ .agg c)∧x≠ .nilIface):(eqGuard op t x' y' x y).run P w=.ok () w:=by
 unfold eqGuard;cases op<;>(try rfl)<;>(simp only[UF,ig,cS];cases x<;>first|rfl|simp_all)
theorem zdJ {e:EK}{t:TypeId}{x y:Value}{b:Bool}(he:PR P t=e)(ho:e≠ .o)(hs:∀fs,e≠ .st fs)(h:eqV e x y=some b):(Op.equal t x y).run P w=.ok b w:=by
 unfold PR at he;cases hu:P.underlying t with
 |none=>simp[hu]at he;exact absurd he.symm ho
 | some d=>
  simp only[hu]at he;unfold Op.equal Op.maxDepth;rw[show(10000:Nat)=9999+1 from rfl];unfold Op.equalIn;simp only[co,dm hu,bU];cases d with
  |struct fs=>
   exfalso;simp only at he;split at he
   ·exact hs _ he.symm
   ·exact ho he.symm
  |_=>
   simp only at he;subst he
   first
   |exact absurd rfl ho
   |(unfold eqV at h;split at h<;>simp_all)
theorem LW {e:EK}{op:BinOp}{t:TypeId}{x y v:Value}{b:Bool}(he:PR P t=e)(ho:e≠ .o)(hs:∀fs,e≠ .st fs)(hq:eqV e x y=some b)
  (h:op=.eql∧v=.bool b∨op=.neq∧v=.bool !b):(binOp op t x y).run P w=.ok v w:=by
 have hr:=zdJ (P:=P) (w:=w) he ho hs hq;unfold eqV at hq;rcases h with⟨rfl,rfl⟩|⟨rfl,rfl⟩
 all_goals(split at hq<;>simp_all [binOp])
theorem Vv [mh P]{l:List (Nat×Nat×SE)}{op:BinOp}{t:TypeId}{x y v:Value}{b:Bool}(he:PR P t=.st l)(hq:eqV (.st l) x y=some b)
  (h:op=.eql∧v=.bool b∨op=.neq∧v=.bool !b) (x' y':Operand):(do eqGuard op t x' y' x y;binOp op t x y:Sem Value).run P w=.ok v w:=by
 have hu:∃fs,P.underlying t=some (.struct fs)∧Te P 4 t=some (.st l):=by
  unfold PR at he;split at he<;>first|(cases he;done)|skip
  rename_i fs hu;split at he
  ·rename_i l' hl;cases he;exact⟨fs,hu,hl⟩
  ·cases he
 obtain⟨fs,hu,hl⟩:=hu;unfold eqV at hq;split at hq<;>first|(cases hq;done)|skip
 all_goals first|(rename_i xs ys h0;cases h0)|(rename_i h0 _ _;cases h0;done)|skip
 rename_i xs ys h0;have hse:NX (.st l) (.agg xs) (.agg ys)=some b:=by unfold NX;exact hq
 have hrun:=N0 (P:=P) (w:=w) 4 (by omega) 10000 (by omega) t _ _ _ _ hl hse;have hg:=(ZR hu (by omega) hl).2.1;simp only[co,run_eqGuard_agg w op t x' y' xs ys hg,bU];rcases h with⟨rfl,rfl⟩|⟨rfl,rfl⟩
 ·rw[run_eql_struct,hrun];rfl
 ·rw[run_neq_struct,hrun];rfl
theorem Ob [mh P]{e:EK}{op:BinOp}{t:TypeId}{x y v:Value}(he:PR P t=e)(ho:e≠ .o)(h:ak e op x y=some v)(x' y':Operand):
  (do eqGuard op t x' y' x y;binOp op t x y:Sem Value).run P w=.ok v w:=by
 unfold ak at h;split at h
 ·rename_i k a k' b;simp only[co,tK x' y' (x:=.int k a) (by simp),bU];split at h
  ·split at h
   ·cases h
   ·rename_i hb;simp only[cP]at h;subst h;simp[binOp,Op.shift,hb]
  ·split at h
   ·cases h
   ·rename_i hb;simp only[cP]at h;subst h;simp[binOp,Op.shift,hb]
  ·rename_i h1 h2;split at h
   ·rename_i hk;subst hk;exact zbR h ⟨h1,h2⟩ t
   ·cases h
 ·rename_i a b;simp only[co,tK x' y' (x:=.string a) (by simp),bU];unfold strV at h;cases op<;>simp_all [binOp,Op.stringOp]
 ·split at h
  ·cases hq:eqV e x y with
   |none=>simp[hq]at h
   | some b=>
    simp[hq]at h;subst h;by_cases hst:∃fs,e=.st fs
    ·obtain⟨l,rfl⟩:=hst;exact Vv he hq (.inl ⟨rfl,rfl⟩) x' y'
    ·have hs:∀fs,e≠ .st fs:=λfs h=>hst ⟨fs,h⟩
     simp only[co,tK x' y' (St hs hq),bU];exact LW he ho hs hq (.inl ⟨rfl,rfl⟩)
  ·cases hq:eqV e x y with
   |none=>simp[hq]at h
   | some b=>
    simp[hq]at h;subst h;by_cases hst:∃fs,e=.st fs
    ·obtain⟨l,rfl⟩:=hst;exact Vv he hq (.inr ⟨rfl,rfl⟩) x' y'
    ·have hs:∀fs,e≠ .st fs:=λfs h=>hst ⟨fs,h⟩
     simp only[co,tK x' y' (St hs hq),bU];exact LW he ho hs hq (.inr ⟨rfl,rfl⟩)
  ·cases h
theorem mA {e:Bool}{kt:TypeId}{kd:TypeDesc}{k:Value}(hk:mD P kt=some kd)(n:Nat):(Instr.checkKey e (n+1) kt k).run P w=.ok () w:=by
 unfold mD at hk;cases hu:P.underlying kt with
 |none=>simp[hu]at hk
 |some d=>
  simp only[hu]at hk;simp only[Instr.checkKey,co,dm hu,bU];cases d<;>simp at hk<;>rfl
theorem Tf {P:Program}{kt:TypeId}{kd:TypeDesc}(hk:mD P kt=some kd):P.underlying kt=some kd:=by
 unfold mD at hk;cases hu:P.underlying kt with
 |none=>simp[hu]at hk
 |some d=>cases d<;>simp_all
theorem km {kt:TypeId}{kd:TypeDesc}{k:Value}{es:List MapEntry}{r:Option (Nat×Value)}(hk:mD P kt=some kd)(h:Instr.findNow kd k es 0=some r):
  (Instr.findKey kt k es).run P w=.ok r w:=by
 simp[Instr.findKey,dm (Tf hk),h]
theorem ks {m:Nat}{es:Array MapEntry}{c:Nat}(h:w.heap[m]? =some (.map es c)):(getObj m).run P w=.ok (.map es c) w:=by
 simp[getObj,Sem.run,h]
theorem zaz {t kt et:TypeId} {kd:TypeDesc} {z:Value} {ok:Bool} {m k v:Value} (ht:P.underlying t=some (.map kt et)) (hk:mD P kt=some kd) (hz:yM P et=some z)
  (h:L5 kd z ok w.heap m k=some v):(Instr.lookup t m k ok).run P w=.ok v w:=by
 unfold L5 at h;split at h
 ·simp only[cP]at h;subst h;simp only[Instr.lookup,co,dm ht,bU,cZ];rw[show(10000:Nat)=9999+1 from rfl,mA hk];simp only[bU];rw[km hk (r:=none) (by simp[Instr.findNow])];simp only[bU,co,bD hz,cZ];cases ok<;>rfl
 ·rename_i hm;cases hq:We w.heap m with
  |none=>simp[hq]at h
  | some p=>
   obtain⟨es,c⟩:=p;simp only[hq]at h;unfold We at hq;cases m with
   | map r=>
    cases r with
    |none=>simp at hq
    | some r=>
     simp only at hq;cases hh:w.heap[r]? with
     |none=>simp[hh]at hq
     | some o=>
      cases o<;>simp[hh]at hq
      obtain⟨rfl,rfl⟩:=hq;simp only[Instr.lookup,co,dm ht,bU,ks hh,cZ];rw[show(10000:Nat)=9999+1 from rfl,mA hk];simp only[bU];cases hf:Instr.findNow kd k _ 0 with
      |none=>rw[hf]at h;cases h
      | some q=>
       rw[hf]at h;rw[km hk hf];cases q with
       |none=>
        simp only[cP]at h;subst h;simp only[bU,co,bD hz,cZ];cases ok<;>rfl
       |some q=>
        obtain⟨i,u⟩:=q;simp only[cP]at h;subst h;simp only[bU];cases ok<;>rfl
   |_=>simp at hq
theorem UM {pl:Nat→Option (Nat×Nat)}{ρ:Env}:∀(ps:List (Nat×Operand)) (l:List (Nat×Nat×Value)) (cells out:Array Value),C9 pl ρ ps=some l→aR cells l=some out→
  Instr.fill pl cells (ps.map λ(i,x)=>(i,ev ρ x))=some out
 | [],l,cells,out,h,h'=>by simp[C9]at h;subst h;simpa[aR,Instr.fill]using h'
 | (i,x)::ps,l,cells,out,h,h'=>by
  unfold C9 at h;cases hp:pl i with
  |none=>simp[hp]at h
  | some p=>
   obtain⟨o,s⟩:=p;simp only[hp]at h;cases hq:C9 pl ρ ps with
   |none=>simp[hq]at h
   | some l'=>
    simp only[hq,cP]at h;subst h;simp only[aR]at h';simp only[yV,Instr.fill,hp];split at h'
    ·cases h'
    ·rename_i hc;rw[aA hc];exact UM ps l' _ out hq h'
theorem Vy {s f off:Nat}{x v:Value}{fs:Array Field}{fd:Field}{n:Nat}(hs:P.underlying s=some (.struct fs))(hf:fs[f]? =some fd)(hn:fP P fd.type=some (n+1))(ho:fd.offset=off)
  (h:aC off x=some v):(Instr.fieldAt s x f).run P w=.ok v w:=by
 unfold aC at h;split at h
 ·rename_i a;simp only[cP]at h;subst h;subst ho;simp[Instr.fieldAt,dm hs,hf,Instr.sureAddr,fieldPlace,bJ hn]
 ·cases h
theorem Oa {x y v:Value}(h:kA x y=some v):(Builtin.max2 x y).run P w=.ok v w:=by
 unfold kA at h;split at h
 ·simp only[cP]at h;subst h;simp[Builtin.max2]
 ·cases h
theorem N8 {x y v:Value}(h:tW x y=some v):(Builtin.min2 x y).run P w=.ok v w:=by
 unfold tW at h;split at h
 ·simp only[cP]at h;subst h;simp[Builtin.min2]
 ·cases h
theorem I9 {t e n:Nat}{x v:Value}{lo hi:Option Value}(ht:P.underlying t=some (.slice e))(hn:fP P e=some n)(h:ni n x lo hi=some v):
  (Instr.sliceAt t x lo hi none).run P w=.ok v w:=by
 unfold ni at h;split at h
 ·rename_i a len cap;split at h
  ·rename_i hh h1;split at h
   ·rename_i l h2;simp only[cP]at h;subst h;simp[Instr.sliceAt,Instr.slice,dm ht,zV h1 h2,bJ hn]
   ·cases h
  ·cases h
 ·cases h
theorem GE {t:Nat}{x v:Value}{lo hi:Option Value}(ht:P.underlying t=some .string)(h:zff x lo hi=some v):
  (Instr.sliceAt t x lo hi none).run P w=.ok v w:=by
 unfold zff at h;split at h
 ·rename_i s;split at h
  ·rename_i hh h1;split at h
   ·rename_i l h2;simp only[cP]at h;subst h;simp[Instr.sliceAt,Instr.slice,dm ht,zV h1 h2]
   ·cases h
  ·cases h
 ·cases h
theorem Jb {t e n:Nat}{x i v:Value}(ht:P.underlying t=some (.slice e))(hn:fP P e=some n)(h:bh n x i=some v):
  (Instr.indexAt t x i).run P w=.ok v w:=by
 unfold bh at h;split at h
 ·rename_i a len _ k j;split at h
  ·rename_i hb;simp only[cP]at h;subst h;simp[Instr.indexAt,asIntOf,dm ht,hb,bJ hn]
  ·cases h
 ·cases h
theorem Jc {t e n len:Nat}{x i v:Value}(ht:P.underlying t=some (.array len e))(hn:fP P e=some n)(h:PF len n x i=some v):
  (Instr.indexAt t x i).run P w=.ok v w:=by
 unfold PF at h;split at h
 ·rename_i a k j;split at h
  ·rename_i hb;simp only[cP]at h;subst h;simp[Instr.indexAt,asIntOf,dm ht,Instr.sureAddr,hb,bJ hn]
  ·cases h
 ·cases h
theorem KL {t:Nat}{x i v:Value}(ht:P.underlying t=some .string)(h:zfq x i=some v):(Instr.index t x i).run P w=.ok v w:=by
 unfold zfq at h;split at h
 ·rename_i s k j;cases hb:(if 0≤j then s[j.toNat]? else none)with
  |none=>simp[hb]at h
  |some b=>
   simp[hb]at h;subst h;simp[Instr.index,asIntOf,dm ht,hb]
 ·cases h
theorem Ja:∀(fs:List Field) (l:List (Nat×Nat)),yq P fs=some l→(fs.mapM λf=>do pure (f.offset,←sizeOf f.type):Sem (List (Nat×Nat))).run P w=.ok l w
 | [],l,h=>by simp[yq]at h;subst h;rfl
 | f::fs,l,h=>by
  unfold yq at h;cases h1:fP P f.type with
  |none=>simp[h1]at h
  | some s=>
   simp only[h1]at h;cases h2:yq P fs with
   |none=>simp[h2]at h
   |some l'=>
    simp only[h2,cP]at h;subst h;simp only[Ka,co,bJ h1,bU,cZ,Ja fs l' h2]
theorem Vw {fs:Array Field}{l:List (Nat×Nat)}(h:yq P fs.toList=some l):(fs.mapM λf=>do pure (f.offset,←sizeOf f.type):Sem (Array (Nat×Nat))).run P w=.ok l.toArray w:=by
 rw[ZG,Nq,Ja fs.toList l h];rfl
theorem zaA {b:Builtin}{args:List Value}{ts:Array TypeId}{ty:TypeId}{cs:Array Bool}{v:Value}(hr:roB P b args ts.toList w.heap=some (some v)):(builtin b ts ty cs args.toArray).run P w=.ok (.value v) w:=by
 unfold roB at hr;split at hr
 ·split at hr
  ·rename_i x t hts;obtain rfl:ts=#[t]:=by apply Kd;simpa using hts
   split at hr
   ·rename_i e ht;simp only[cP]at hr;unfold aD at hr;split at hr
    ·simp only[cP]at hr;subst hr;simp[builtin,Builtin.len_,dm ht,goInt]
    ·cases hr
   ·rename_i ht;simp only[cP]at hr;unfold Ld at hr;split at hr
    ·simp only[cP]at hr;subst hr;simp[builtin,Builtin.len_,dm ht,goInt]
    ·cases hr
   ·rename_i ht;simp only[cP]at hr;unfold Sj at hr;split at hr
    ·simp at hr;subst hr;simp[builtin,Builtin.len_,dm ht,goInt]
    ·split at hr
     ·rename_i hm;simp at hr;subst hr;simp[builtin,Builtin.len_,dm ht,goInt,ks hm]
     ·cases hr
    ·cases hr
   ·cases hr
  ·cases hr
 ·split at hr
  ·simp only[cP]at hr;simp[builtin,Builtin.max_,Oa hr]
  ·rename_i x y z;simp only[cP]at hr;unfold ze2 at hr;split at hr
   ·rename_i a ha;simp[builtin,Builtin.max_,Oa ha,Oa hr]
   ·cases hr
  ·cases hr
 ·split at hr
  ·simp only[cP]at hr;simp[builtin,Builtin.min_,N8 hr]
  ·rename_i x y z;simp only[cP]at hr;unfold ze1 at hr;split at hr
   ·rename_i a ha;simp[builtin,Builtin.min_,N8 ha,N8 hr]
   ·cases hr
  ·cases hr
 ·cases hr
theorem LZ {h:ai}{b:Nat}(H:pI h b=true):∃c t,h[b]? =some (.cells c t (0,0)):=by
 unfold pI at H;split at H
 ·rename_i c t hb;exact⟨c,t,hb⟩
 ·cases H
theorem zdI [mh P]{op:BinOp}{t e:TypeId}{n:Nat}{x y v:Value}(he:PR P t=.p)(hu:P.underlying t=some (.pointer e))(hn:fP P e=some (n+1))(h:peV w.heap op x y=some v)(x' y':Operand):
  (do eqGuard op t x' y' x y;binOp op t x y:Sem Value).run P w=.ok v w:=by
 unfold peV at h;split at h
 ·rename_i a b;have hi:∃j,P.info? e=some j∧j.size≠0:=by
   unfold fP at hn;cases hj:P.info? e with
   |none=>rw[hj]at hn;cases hn
   |some j=>rw[hj]at hn;simp only[cU,cP]at hn;exact⟨j,rfl,by omega⟩
  obtain⟨j,hj,hsz⟩:=hi;have same:∀d:Nat,(Op.equalIn (d+1) t (.pointer (some a)) (.pointer (some a))).run P w=.ok true w:=λd=>by
   simp[Op.equalIn,dm hu,sizeOf,typeInfo,hj,run_sameAddr_same]
  have other:∀(hne:a≠b),(pI w.heap a.block&&pI w.heap b.block)=true→∀d:Nat,(Op.equalIn (d+1) t (.pointer (some a)) (.pointer (some b))).run P w=.ok false w:=λhne hpl d=>by
   rw[dt]at hpl;obtain⟨ca,ta,ha⟩:=LZ hpl.1;obtain⟨cb,tb,hb⟩:=LZ hpl.2;simp[Op.equalIn,dm hu,sizeOf,typeInfo,hj,hsz,run_sameAddr_other w hne ha hb]
  simp only[co,tK x' y' (show(∀c,Value.pointer (some a)≠ .agg c)∧Value.pointer (some a)≠ .nilIface from⟨by simp,by simp⟩),bU];split at h
  ·split at h
   ·rename_i hab;subst hab;cases h;simp only[binOp];simp[Op.equal,Op.maxDepth,same 9999]
   ·rename_i hab;split at h
    ·rename_i hpl;cases h;simp only[binOp];simp[Op.equal,Op.maxDepth,other hab hpl 9999]
    ·cases h
  ·split at h
   ·rename_i hab;subst hab;cases h;simp only[binOp];simp[Op.equal,Op.maxDepth,same 9999]
   ·rename_i hab;split at h
    ·rename_i hpl;cases h;simp only[binOp];simp[Op.equal,Op.maxDepth,other hab hpl 9999]
    ·cases h
  ·cases h
 ·exact Ob (P:=P) (w:=w) (t:=t) he (by intro h;cases h) h x' y'
theorem zX [mh P] {op:Op} {r:Option Value} {v:Value} (o:Oper) (ho:o.op=op) (hr:roV P ρ op w.heap=some r) (hv:r=some v):(execOp (ev ρ) o).run P w=.ok (.value v) w:=by
 subst hv;unfold roV at hr;split at hr
 case h_1|h_2=>simp at hr;subst hr;simp[execOp,ho]
 case h_3=>
  simp at hr;unfold aH at hr;split at hr<;>simp at hr
  rename_i c b hc;subst hr;simp only[execOp,ho,hc,asBool];cases b<;>simp
 case h_4 t x=>
  split at hr
  ·rename_i ht;simp only[cP]at hr;unfold ldV at hr;split at hr
   ·rename_i a hx;simp[execOp,ho,Instr.loadAt,hx,Instr.sureAddr,BU ht hr]
   ·cases hr
  ·rename_i ht;split at hr
   ·rename_i n hn;simp only[cP]at hr;unfold aM at hr;split at hr
    ·rename_i a hx;cases hl:fu w.heap a 0 n with
     |none=>simp[hl]at hr
     |some l=>
      simp[hl]at hr;subst hr;simp[execOp,ho,Instr.loadAt,hx,Instr.sureAddr,BV ht hn hl]
    ·cases hr
   ·cases hr
  ·cases hr
 case h_5 x=>
  simp only[cP]at hr;unfold aX at hr;simp only[execOp,ho];split at hr
  ·cases hr
  ·cases hr
  ·cases hr
  ·cases hr
  ·simp only[cP]at hr;subst hr;split<;>simp_all
 case h_6 op t x y _=>
  split at hr
  ·cases hr
  ·rename_i hp;split at hr
   ·simp only[cP]at hr;have:=Ob (P:=P) (w:=w) (t:=t) hp (by intro h;cases h) hr x y;simp only[execOp,ho];simp only[co]at this ⊢;rw[this];rfl
   ·split at hr
    ·rename_i e hu;split at hr
     ·rename_i n hn;simp only[cP]at hr;have:=zdI (P:=P) (w:=w) hp hu hn hr x y;simp only[execOp,ho];simp only[co]at this ⊢;rw[this];rfl
     ·cases hr
    ·cases hr
  ·rename_i e he _;simp only[cP]at hr;have:=Ob (P:=P) (w:=w) (t:=t) rfl he hr x y;simp only[execOp,ho];simp only[co]at this ⊢;rw[this];rfl
 case h_7 op t x=>
  simp only[cP]at hr;unfold unV at hr;split at hr<;>simp at hr
  all_goals(rename_i hx;subst hr;simp[execOp,ho,hx,Op.unary,Op.intArith,Op.intBits])
 case h_8 s d x=>
  split at hr
  ·rename_i h1 h2;simp only[cP]at hr;unfold gS at hr;split at hr<;>simp at hr
   rename_i hx;subst hr;simp[execOp,ho,hx,convert,dm h1,dm h2,Conv.intToInt]
  ·rename_i h1 h2;simp only[cP]at hr;unfold ze5 at hr;split at hr<;>simp at hr
   rename_i hx;subst hr;simp[execOp,ho,hx,convert,dm h1,dm h2,Conv.intToString]
  ·cases hr
 case h_9 t x lo hi=>
  simp only[execOp,ho];split at hr
  ·rename_i e ht;split at hr
   ·rename_i n hn;simp only[cP]at hr;have:=I9 (P:=P) (w:=w) ht hn hr;simp[this]
   ·cases hr
  ·rename_i ht;simp only[cP]at hr;have:=GE (P:=P) (w:=w) ht hr;simp[this]
  ·cases hr
 case h_10 s x f=>
  split at hr
  ·rename_i fs hs;split at hr
   ·rename_i fd hf;split at hr
    ·cases hr
    ·rename_i n hn;simp only[cP]at hr;have:=Vy (P:=P) (w:=w) hs hf hn rfl hr;simp[execOp,ho,this]
    ·cases hr
   ·cases hr
  ·cases hr
 case h_11 t x f=>
  split at hr
  ·rename_i fs hs;split at hr
   ·rename_i fd hf;split at hr
    ·rename_i b n hb hn;simp only[cP]at hr;have hr':=hr;unfold rh at hr;split at hr
     ·rename_i cs hx;rw[hx]at hr';have:=KK (P:=P) (w:=w) hb hn hr';simp[execOp,ho,hx,Instr.field,dm hs,hf,asAgg,this]
     ·cases hr
    ·cases hr
   ·cases hr
  ·cases hr
 case h_12 t x i=>
  simp only[execOp,ho];split at hr
  ·rename_i e ht;split at hr
   ·rename_i n hn;simp only[cP]at hr;simp[Jb (P:=P) (w:=w) ht hn hr]
   ·cases hr
  ·rename_i len e ht;split at hr
   ·rename_i n hn;simp only[cP]at hr;simp[Jc (P:=P) (w:=w) ht hn hr]
   ·cases hr
  ·cases hr
 case h_13 t x i=>
  split at hr
  ·rename_i ht;simp only[cP]at hr;simp[execOp,ho,KL (P:=P) (w:=w) ht hr]
  ·cases hr
 case h_14 t i=>
  simp only[cP]at hr;unfold aP at hr;split at hr
  ·rename_i vs hx;simp[execOp,ho,hx,Instr.extract,hr]
  ·cases hr
 case h_15 t x=>
  split at hr
  ·cases hr
  ·rename_i d hd _;simp only[cP]at hr;subst hr;simp only[execOp,ho,Instr.makeInterface,co];rename_i hq;simp only[dm hq,bU];rfl
  ·cases hr
 case h_16 fn first captured=>
  simp only[cP]at hr;subst hr;simp[execOp,ho,Instr.makeFunc]
 case h_17 t x k ok=>
  split at hr
  ·rename_i kt et ht;split at hr
   ·rename_i kd z hk hz;simp only[cP]at hr;simp[execOp,ho,zaz (P:=P) (w:=w) ht hk hz hr]
   ·cases hr
  ·cases hr
 case h_18 t parts=>
  split at hr
  ·rename_i z pl hz hp;split at hr
   ·rename_i l hl;simp only[cP]at hr;cases hf:aR z.cells l with
    |none=>simp[hf]at hr
    | some cs=>
     simp[hf]at hr;subst hr;have hfill:=UM _ _ _ _ hl hf;rw[←UE]at hfill;unfold VE at hp;simp only[execOp,ho,Instr.build,co,bD hz,bU,cZ];cases hu:P.underlying t with
     |none=>simp[hu]at hp
     | some d=>
      rw[dm hu];simp only[hu]at hp;cases d with
      | struct fs=>
       simp only at hp;cases hq:yq P fs.toList with
       |none=>simp[hq]at hp
       |some l'=>
        simp only[hq,cU,cP]at hp;subst hp;simp only[bU,co,Vw hq];have e:(λi:Nat=>(l'.toArray)[i]?)=λi:Nat=>l'[i]? :=by funext i;simp
        rw[e,hfill];rfl
      | array n e=>
       simp only at hp;cases hq:fP P e with
       |none=>simp[hq]at hp
       |some s=>
        simp only[hq,cU,cP]at hp;subst hp;simp only[bU,co,bJ hq];rw[hfill];rfl
      |_=>simp at hp
   ·cases hr
  ·cases hr
 case h_19 c=>
  split at hr
  ·rename_i b hb;have:=zaA (P:=P) (w:=w) (ty:=o.type) (cs:=c.args.map λ| .const _=>true|_=>false) hr;rw[EH]at this;simp only[execOp,ho,resolve,hb,co,cZ,bU,invoke];exact this
  ·cases hr
 case h_20=>cases hr
end
def PN:oV:=λ_ _=>False
def aT (c:Array Value)(t:TypeId):oV:=λh K=>K (.pointer (some ⟨h.size,0,none⟩)) (h.push (.cells c t))
def stK (n:Nat)(x v:Value):oV:=λh K=>
 match x with
 | .pointer (some a)=>if v.cells.size=n then(match kM h a 0 v.cells.toList with|some h'=>K undef h'|none=>False)else False
 |_=>False
def jO (z:Value)(n:Nat):Array Value:=(Array.range n).map (λi=>z.cells[i%z.cells.size]!)
def cO (c:Array Value)(e:TypeId)(len:Nat)(l:List (Nat×Nat×Value)):oV:=λh K=>
 match aR c l with
 |some c'=>K (.slice (some ⟨h.size,0,none⟩) len len) (h.push (.cells c' e))
 |none=>False
def mkK (z:Value)(e:TypeId)(size bytes:Nat)(l c:Value):oV:=λh K=>
 match l,c with
 | .int _ l,.int _ c=>
  0≤IntKind.i64.wrap l∧IntKind.i64.wrap l≤IntKind.i64.wrap c∧(bytes:Int)*IntKind.i64.wrap c≤2^48∧
   K (.slice (some ⟨h.size,0,none⟩) (IntKind.i64.wrap l).toNat (IntKind.i64.wrap c).toNat) (h.push (.cells (jO z ((IntKind.i64.wrap c).toNat*size)) e))
 |_,_=>False
def Zb:oV:=λh K=>K (.map (some h.size)) (h.push (.map #[] 0))
def fO (h:ai)(r:Nat)(o:Obj):ai:=h.setIfInBounds r o
def vu (kd:TypeDesc)(m k v:Value):oV:=λh K=>
 match m with
 | .map (some r)=>match h[r]? with
  |some (.map es c)=>match Instr.findNow kd k es.toList 0 with
   |some (some (i,_))=>Instr.sameBits 10000 (((es[i]?).map (·.key)).getD k) k=true∧K undef (fO h r (.map (es.modify i λe=>{e with key:=k,val:=v}) c))
   |some none=>K undef (fO h r (.map (es.push {key:=k,val:=v,born:=c}) (c+1)))
   |none=>False
  |_=>False
 |_=>False
def K9 (kd:TypeDesc)(z:Value)(m k:Value):oV:=λh K=>
 match m with
 | .map (some r)=>match h[r]? with
  |some (.map es c)=>match Instr.findNow kd k es.toList 0 with
   | some (some (i,v))=>Instr.sameBits 10000 (((es[i]?).map (·.key)).getD k) k=true∧
     K (.tuple #[v,.int .i64 (((es[i]?).map λe=>(e.born:Int)).getD 0)]) (fO h r (.map (es.modify i λe=>{e with key:=k}) c))
   |some none=>K (.tuple #[z,.int .i64 (c:Nat)]) (fO h r (.map (es.push {key:=k,val:=z,born:=c}) (c+1)))
   |none=>False
  |_=>False
 |_=>False
def PQ (m s v:Value):oV:=λh K=>
 match m,s with
 | .map (some r),.int _ n=>match h[r]? with
  |some (.map es c)=>match es.findIdx? (λe=>(e.born:Int)==n)with
   |some i=>K undef (fO h r (.map (es.modify i λe=>{e with val:=v}) c))
   |none=>False
  |_=>False
 |_,_=>False
def pP (kd:TypeDesc)(m k:Value):oV:=λh K=>
 match m with
 | .map none=>K (.tuple #[]) h
 | .map (some r)=>match h[r]? with
  |some (.map es c)=>match Instr.findNow kd k es.toList 0 with
   |some (some (i,_))=>K (.tuple #[]) (fO h r (.map (es.eraseIdxIfInBounds i) c))
   |some none=>K (.tuple #[]) (fO h r (.map es c))
   |none=>False
  |_=>False
 |_=>False
def KP (m:Value):oV:=λh K=>
 match m with
 | .map none=>K (.pointer (some ⟨h.size,0,none⟩)) (h.push (.mapIter none 0 #[] 0))
 | .map (some r)=>match h[r]? with
  |some (.map _ c)=>K (.pointer (some ⟨h.size,0,none⟩)) (h.push (.mapIter (some r) c #[] c))
  |_=>False
 |_=>False
def Ep (s:Value):oV:=λh K=>
 match s with
 | .string s=>K (.pointer (some ⟨h.size,0,none⟩)) (h.push (.stringIter s 0))
 |_=>False
def JA (it:Value):oV:=λh K=>
 match it with
 | .pointer (some ⟨r,0,_⟩)=>match h[r]? with
  |some (.stringIter s pos)=>
   if pos<s.size then K (.tuple #[.bool true,.int .i64 (pos:Nat),.int .i32 (Utf8.decode s pos).1]) (fO h r (.stringIter s (pos+(Utf8.decode s pos).2)))
   else K (.tuple #[.bool false]) h
  |_=>False
 |_=>False
def Pf (it:Value):oV:=λh K=>
 match it with
 | .pointer (some ⟨r,0,_⟩)=>match h[r]? with
  |some (.mapIter none _ _ _)=>K (.tuple #[.bool false]) h
  | some (.mapIter (some m) since seen last)=>match h[m]? with
   |some (.map es clock)=>
    (!seen.isEmpty&& !es.isEmpty&&es.all (·.born≥last))=false∧
    (∀e∈es,seen.contains e.born=false→K (.tuple #[.bool true,e.key,e.val]) (fO h r (.mapIter (some m) since (seen.push e.born) clock)))∧
    ((∀e∈es,seen.contains e.born=false→since≤e.born)→K (.tuple #[.bool false]) h)
   |_=>False
  |_=>False
 |_=>False
def Yg (it:Value):oV:=λh K=>
 match it with
 | .pointer (some ⟨r,0,_⟩)=>match h[r]? with
  | some (.mapIter (some m) _ seen stepped)=>match h[m]? with
   | some (.map es clock)=>if clock≠stepped then False else match seen.back? with
    |some stamp=>match es.find? (·.born==stamp)with
     |some e=>K (.tuple #[e.key,e.val]) h
     |none=>False
    |none=>False
   |_=>False
  |_=>False
 |_=>False
def xQ (size:Nat)(h:ai)(n:Nat)(x:Value):Option (List Value):=
 match x with
 | .slice (some a) _ _=>fu h a 0 (n*size)
 | .slice none _ _=>some []
 | .string s=>some ((s.extract 0 n).data.map λb=>Value.int .u8 b.toNat).toList
 |_=>none
def RL (x:Value):Option Nat:=
 match x with
 | .slice _ n _=>some n
 | .string s=>some s.size
 |_=>none
def cR (z:Value) (e:TypeId) (size bytes:Nat) (s x:Value):oV:=λh K=>
 match s,RL x with
 | .slice base sLen sCap,some n=>
  if sLen+n≤sCap then
   match xQ size h n x with
   | some news=>match base with
    |some a=>match kM h (a.add (sLen*size)) 0 news with
     |some h'=>K (.slice base (sLen+n) sCap) h'
     |none=>False
    |none=>K (.slice none (sLen+n) sCap) h
   |none=>False
  else
   ((sLen+n:Nat):Int)≤IntKind.i64.max∧Builtin.nextslicecap (sLen+n) sCap*bytes≤2^48∧
   match xQ size h sLen s,xQ size h n x with
   | some olds,some news=>∀newCap,sLen+n≤newCap→newCap≤2^63-1→
     K (.slice (some ⟨h.size,0,none⟩) (sLen+n) newCap) (h.push (.cells (olds.toArray++news.toArray++Builtin.zeroCells z.cells (newCap-(sLen+n))) e))
   |_,_=>False
 |_,_=>False
def HA (size:Nat) (d x:Value):oV:=λh K=>
 match d,RL x with
 | .slice base dLen _,some n=>
  match xQ size h (Nat.min n dLen) x with
  | some news=>match base with
   |some a=>match kM h a 0 news with
    |some h'=>K (.int .i64 (Nat.min n dLen:Nat)) h'
    |none=>False
   |none=>K (.int .i64 (Nat.min n dLen:Nat)) h
  |none=>False
 |_,_=>False
def tS (P:Program)(f:FuncId):Bool:=
 match P.funcs[f]? with
 |some fn=> !(fn.name== "runtime.NumGoroutine")&&fn.body.isSome
 |none=>false
def zfc (P:Program)(f:FuncId)(args:Array Value):oV:=λh K=>
 tS P f=true∧∀w:World,w.heap=h→Calls P f args w λe w'=>∃v,e=.returned v∧dT w w'∧K v w'.heap
def ag (P:Program)(f:FuncId)(args:Array Value):oV:=λh K=>
 zfc P f args h K∨∀w:World,w.heap=h→∃v w',(callFunc f args).run P w=.ok (.value v) w'∧dT w w'∧K v w'.heap
theorem ag.mono {P:Program}{f:FuncId}{args:Array Value}{h:ai}{K K':Value→ai→Prop}(hc:ag P f args h K)(hk:∀v h',K v h'→K' v h'):ag P f args h K':=
 hc.imp (λhc=>⟨hc.1,λw hw=>(hc.2 w hw).mono λ_ _ ⟨v,he,hs,hK⟩=>⟨v,he,hs,hk _ _ hK⟩⟩)
  λhc w hw=>let⟨v,w',a,b,c⟩:=hc w hw;⟨v,w',a,b,hk _ _ c⟩
theorem ag.ofCalls {P:Program}{f:FuncId}{args:Array Value}{h:ai}{K:Value→ai→Prop}(hc:tS P f=true)
  (H:∀w:World,w.heap=h→Calls P f args w λe w'=>∃v,e=.returned v∧dT w w'∧K v w'.heap):ag P f args h K:=.inl ⟨hc,H⟩
theorem ag.ofRun {P:Program}{f:FuncId}{args:Array Value}{h:ai}{K:Value→ai→Prop}
  (H:∀w:World,w.heap=h→∃v w',(callFunc f args).run P w=.ok (.value v) w'∧dT w w'∧K v w'.heap):ag P f args h K:=.inr H
def clK (P:Program)(f:Value)(args:Array Value)(h:ai)(K:Value→ai→Prop):Prop:=
 match f with
 | .func (.func f) first captured=>ag P f (first++args++captured) h K
 |_=>False
def zfF (P:Program) (b:Builtin) (args:List Value) (ts:List TypeId) (h:ai) (K:Value→ai→Prop):Prop:=
 match b with
 | .append=>match args,ts with
  | [s,x],[t,u]=>match P.underlying t,P.underlying u with
   |some (.slice e),some (.slice _)|some (.slice e),some .string=>match(P.info? e).bind λi=>i.zero.map λz=>(z,i.size,i.bytes)with
    |some (z,size,bytes)=>cR z e size bytes s x h K
    |none=>False
   |_,_=>False
  |_,_=>False
 | .copy=>match args,ts with
  | [d,x],t::_=>match P.underlying t with
   |some (.slice e)=>match fP P e with
    |some size=>HA size d x h K
    |none=>False
   |_=>False
  |_,_=>False
 | .delete=>match args,ts with
  | [m,k],t::_=>match P.underlying t with
   |some (.map kt _)=>match mD P kt with
    |some kd=>pP kd m k h K
    |none=>False
   |_=>False
  |_,_=>False
 |_=>False
def Qs:List Value→Option (List UInt8)
 | []=>some []
 | v::r=>match v with
  | .int .u8 n=>match Qs r with
   |some l=>some (UInt8.ofNat n.toNat::l)
   |none=>none
  |_=>none
def bsK (x:Value):oV:=λh K=>
 match x with
 | .slice none _ _=>K (.string ByteArray.empty) h
 | .slice (some a) n _=>match fu h a 0 n with
  |some l=>match Qs l with
   |some b=>K (.string ⟨⟨b⟩⟩) h
   |none=>False
  |none=>False
 |_=>False
def zej (P:Program) (ρ:Env) (op:Op) (h:ai) (K:Value→ai→Prop):Prop:=
 match op with
 | .alloc t=>match yM P t with
  |some z=>aT z.cells t h K
  |none=>False
 | .box t x=>aT (ev ρ x).cells t h K
 | .buildSlice t len parts=>match P.underlying t with
  | some (.slice e)=>match fP P e,yM P e with
   |some s,some z=>if len*s>2^24 then False else match C9 (λi=>some (i*s,s)) ρ parts.toList with
    |some l=>cO (jO z (len*s)) e len l h K
    |none=>False
   |_,_=>False
  |_=>False
 | .store t a x=>match fP P t with
  |some n=>stK n (ev ρ a) (ev ρ x) h K
  |none=>False
 | .makeSlice t l c=>match P.underlying t with
  |some (.slice e)=>match(P.info? e).bind λi=>i.zero.map λz=>(z,i.size,i.bytes)with
   |some (z,size,bytes)=>mkK z e size bytes (ev ρ l) (ev ρ c) h K
   |none=>False
  |_=>False
 | .makeMap _ none=>Zb h K
 | .mapUpdate t m k x| .insert t m k x=>match P.underlying t with
  |some (.map kt _)=>match mD P kt with
   |some kd=>vu kd (ev ρ m) (ev ρ k) (ev ρ x) h K
   |none=>False
  |_=>False
 | .mapEntry t m k=>match P.underlying t with
  |some (.map kt et)=>match mD P kt,yM P et with
   |some kd,some z=>K9 kd z (ev ρ m) (ev ρ k) h K
   |_,_=>False
  |_=>False
 | .entryStore _ m s x=>PQ (ev ρ m) (ev ρ s) (ev ρ x) h K
 | .range t x=>match P.underlying t with
  |some (.map _ _)=>KP (ev ρ x) h K
  |some .string=>Ep (ev ρ x) h K
  |_=>False
 | .next it s=>bif s then JA (ev ρ it) h K else Pf (ev ρ it) h K
 | .entry it=>Yg (ev ρ it) h K
 | .call c=>match c.callee with
  | .builtin b=>zfF P b (c.args.map (ev ρ)).toList c.argTypes.toList h K
  | .value (.func f)=>ag P f (c.args.map (ev ρ)) h K
  | .value x=>clK P (ev ρ x) (c.args.map (ev ρ)) h K
  |_=>False
 | .convert s d x=>match P.underlying s,P.underlying d with
  |some (.slice e),some .string=>match P.underlying e with
   |some (.int .u8)=>bsK (ev ρ x) h K
   |_=>False
  |_,_=>False
 |_=>False
def kS (P:Program)(K:Value→ai→Prop)(w:World):Result Next→Prop
 | .ok (.value v) w'=>dT w w'∧K v w'.heap
 | .ok .skip w'=>dT w w'∧K undef w'.heap
 | .ok (.enter f args) w'=>w'=w∧zfc P f args w.heap K
 |_=>False
section
variable {P:Program}{ρ:Env}{w:World}{K:Value→ai→Prop}
theorem XS (v:Value):aV v=v.oneCell':=by cases v<;>rfl
theorem vg (a:Addr):∀(l:List Value) (i:Nat) (w:World) (h':ai),kM w.heap a i l=some h'→
  ∃w',(storeCells a l i).run P w=.ok () w'∧dT w w'∧w'.heap=h'
 | [],i,w,h',h=>by simp[kM]at h;exact⟨w,by simp[storeCells],dT.refl w,h⟩
 | v ::l,i,w,h',h=>by
  unfold kM at h;cases hc:aE w.heap (a.add i)with
  |none=>simp[hc]at h
  | some old=>
   simp only[hc]at h;cases ho:(aV v&& !xq w.heap (a.add i))with
   |false=>rw[ho]at h;cases h
   | true=>
    rw[ho]at h;simp only[uB]at h;rw[dt]at ho;obtain⟨w',hr,hs,hh⟩:=vg a l (i+1) (w.setCell (a.add i) v) h' h;refine⟨w',?_,⟨hs.1,hs.2.1,hs.2.2⟩,hh⟩;have h1:w.cell? (a.add i)=some old:=hc;have h2:w.frozen? (a.add i)=false:=by
     show xq w.heap (a.add i)=false;simpa using ho.2
    simp only[storeCells,co];rw[run_store P w _ _ _ (by rw[←XS];exact ho.1)];simp[h1,h2,hr]
theorem Em {size n:Nat}{x:Value}{l:List Value}(h:xQ size w.heap n x=some l):(Builtin.firstCells size n x).run P w=.ok l.toArray w:=by
 unfold xQ at h;split at h
 ·rename_i a _ _;have:=yp (P:=P) a _ 0 #[] l h;simp[Builtin.firstCells,loadCells,this]
 ·simp at h;subst h;simp[Builtin.firstCells]
 ·simp only[cP]at h;subst h;simp only[Builtin.firstCells,EH];rfl
 ·cases h
theorem Vx {x:Value}{n:Nat}(h:RL x=some n):(Builtin.lenOf x).run P w=.ok n w:=by
 unfold RL at h;split at h<;>simp at h<;>subst h<;>simp[Builtin.lenOf]
theorem kS.value {s:Sem Value}{v:Value}{w':World}(hr:s.run P w=.ok v w')(hs:dT w w')(hK:K v w'.heap):
  kS P K w ((do pure (.value (←s)):Sem Next).run P w):=by
 simp only[co,hr,bU,cZ];exact⟨hs,hK⟩
theorem kS.unit {s:Sem Unit}{w':World}(hr:s.run P w=.ok () w')(hs:dT w w')(hK:K undef w'.heap):
  kS P K w ((do s;pure .skip:Sem Next).run P w):=by
 simp only[co,hr,bU,cZ];exact⟨hs,hK⟩
theorem gJ (o:Obj):(newObj o).run P w=.ok w.heap.size {w with heap:=w.heap.push o}:=rfl
theorem zav {t n:Nat}{x v:Value}(hn:fP P t=some n)(h:stK n x v w.heap K):∃w',(Instr.storeAt t x v).run P w=.ok () w'∧dT w w'∧K undef w'.heap:=by
 unfold stK at h;split at h
 ·rename_i a;split at h
  ·rename_i hv;cases hq:kM w.heap a 0 v.cells.toList with
   |none=>simp[hq]at h
   |some h'=>
    simp only[hq]at h;obtain⟨w',hr,hs,hh⟩:=vg (P:=P) a _ 0 w h' hq;refine⟨w',?_,hs,hh▸h⟩;simp[Instr.storeAt,Instr.sureAddr,storeVar,bJ hn,hv,hr]
  ·exact h.elim
 ·exact h.elim
theorem kr {r:Nat}{o o':Obj}(h:w.heap[r]? =some o)(hn:∀c e f,o≠ .cells c e f):(setObj r o').run P w=.ok () {w with heap:=fO w.heap r o'}:=by
 simp only[setObj,Sem.run,h];cases o<;>first|rfl|exact absurd rfl (hn _ _ _)
theorem zW {a b:Value}(h:Instr.sameBits 10000 a b=true):(Instr.keyThatStays a b).run P w=.ok b w:=by
 simp[Instr.keyThatStays,h]
theorem RH {t kt et:TypeId}{kd:TypeDesc}{m k v:Value}(ht:P.underlying t=some (.map kt et))(hk:mD P kt=some kd)(h:vu kd m k v w.heap K):
  ∃w',(Instr.mapUpdate t m k v).run P w=.ok () w'∧dT w w'∧K undef w'.heap:=by
 unfold vu at h;split at h
 ·rename_i r;split at h
  ·rename_i es c hm;simp only[Instr.mapUpdate,co,dm ht,bU,ks hm];rw[show(10000:Nat)=9999+1 from rfl,mA hk];simp only[bU];split at h
   ·rename_i i u hf;rw[km hk hf];simp only[bU,co];rw[zW h.1];simp only[bU];exact⟨_,kr hm (by simp),⟨rfl,rfl,rfl⟩,h.2⟩
   ·rename_i hf;rw[km hk hf];exact⟨_,kr hm (by simp),⟨rfl,rfl,rfl⟩,h⟩
   ·exact h.elim
  ·exact h.elim
 ·exact h.elim
theorem MP {t kt et:TypeId}{kd:TypeDesc}{z m k:Value}(ht:P.underlying t=some (.map kt et))(hk:mD P kt=some kd)(hz:yM P et=some z)(h:K9 kd z m k w.heap K):
  ∃v w',(Instr.mapEntry t m k).run P w=.ok v w'∧dT w w'∧K v w'.heap:=by
 unfold K9 at h;split at h
 ·rename_i r;split at h
  ·rename_i es c hm;simp only[Instr.mapEntry,co,dm ht,bU,ks hm];rw[show(10000:Nat)=9999+1 from rfl,mA hk];simp only[bU];split at h
   ·rename_i i u hf;rw[km hk hf];simp only[bU,co];rw[zW h.1];simp only[bU];rw[kr hm (by simp)];exact⟨_,_,rfl,⟨rfl,rfl,rfl⟩,h.2⟩
   ·rename_i hf;rw[km hk hf];simp only[bU,co,bD hz];rw[kr hm (by simp)];exact⟨_,_,rfl,⟨rfl,rfl,rfl⟩,h⟩
   ·exact h.elim
  ·exact h.elim
 ·exact h.elim
theorem PP {t:TypeId}{m s v:Value}(h:PQ m s v w.heap K):∃w',(Instr.entryStore t m s v).run P w=.ok () w'∧dT w w'∧K undef w'.heap:=by
 unfold PQ at h;split at h
 ·rename_i r k n;split at h
  ·rename_i es c hm;split at h
   ·rename_i i hf;simp only[Instr.entryStore,co,ks hm,bU,asInt,asIntOf,cZ];simp only[hf];exact⟨_,kr hm (by simp),⟨rfl,rfl,rfl⟩,h⟩
   ·exact h.elim
  ·exact h.elim
 ·exact h.elim
theorem RJ {t kt et:TypeId}{ty:TypeId}{kd:TypeDesc}{m k:Value}{ts:Array TypeId}(h0:ts[0]? =some t)(ht:P.underlying t=some (.map kt et))(hk:mD P kt=some kd)(h:pP kd m k w.heap K):
  ∃v w',(Builtin.delete_ ts ty #[m,k]).run P w=.ok v w'∧dT w w'∧K v w'.heap:=by
 have h10:(10000:Nat)=9999+1:=rfl;unfold pP at h;split at h
 ·refine⟨.tuple #[],w,?_,dT.refl w,h⟩;simp[Builtin.delete_,h0,dm ht];rw[h10,mA hk];rfl
 ·rename_i r;split at h
  ·rename_i es c hm;simp only[Builtin.delete_,h0];simp[dm ht,ks hm];rw[h10,mA hk];simp only[bU];split at h
   ·rename_i i u hf;rw[km hk hf];simp only[bU];rw[Nq,kr hm (by simp)];exact⟨_,_,rfl,⟨rfl,rfl,rfl⟩,h⟩
   ·rename_i hf;rw[km hk hf];simp only[bU];rw[Nq,kr hm (by simp)];exact⟨_,_,rfl,⟨rfl,rfl,rfl⟩,h⟩
   ·exact h.elim
  ·exact h.elim
 ·exact h.elim
theorem Mt {t kt et:TypeId}{m:Value}(ht:P.underlying t=some (.map kt et))(h:KP m w.heap K):∃v w',(Instr.range t m).run P w=.ok v w'∧dT w w'∧K v w'.heap:=by
 unfold KP at h;split at h
 ·simp only[Instr.range,co,dm ht,bU,cZ,gJ];exact⟨_,_,rfl,⟨rfl,rfl,rfl⟩,h⟩
 ·rename_i r;split at h
  ·rename_i es c hm;simp only[Instr.range,co,dm ht,bU,cZ,ks hm,gJ];exact⟨_,_,rfl,⟨rfl,rfl,rfl⟩,h⟩
  ·exact h.elim
 ·exact h.elim
theorem Ms {t:TypeId}{s:Value}(ht:P.underlying t=some .string)(h:Ep s w.heap K):∃v w',(Instr.range t s).run P w=.ok v w'∧dT w w'∧K v w'.heap:=by
 unfold Ep at h;split at h
 ·simp only[Instr.range,co,dm ht,bU,cZ,gJ];exact⟨_,_,rfl,⟨rfl,rfl,rfl⟩,h⟩
 ·exact h.elim
theorem A2 {r:Nat}{o:Obj}(h:w.heap[r]? =some o)(hn:∀c e f,o≠ .cells c e f):(getObj r).run P w=.ok o w:=by
 simp only[getObj,Sem.run,h]
theorem Pd {t:TypeId}{it:Value}(h:JA it w.heap K):∃v w',(Instr.next it true t).run P w=.ok v w'∧dT w w'∧K v w'.heap:=by
 unfold JA at h;split at h
 ·rename_i r sp;split at h
  ·rename_i s pos hm;simp only[Instr.next,co,A2 hm (by simp),bU];split at h
   ·rename_i hp;simp only[hp,cV,co,kr hm (by simp),bU,cZ];exact⟨_,_,rfl,⟨rfl,rfl,rfl⟩,h⟩
   ·rename_i hp;simp only[hp,cS,cZ];exact⟨_,_,rfl,dT.refl w,h⟩
  ·exact h.elim
 ·exact h.elim
theorem Pe {t:TypeId} {it:Value} (h:Pf it w.heap K):∃v w',(Instr.next it false t).run P w=.ok v w'∧dT w w'∧K v w'.heap:=by
 unfold Pf at h;split at h
 ·rename_i r sp;split at h
  ·rename_i hm;simp only[Instr.next,co,A2 hm (by simp),bU,cZ];exact⟨_,_,rfl,dT.refl w,h⟩
  ·rename_i m since seen last hm;split at h
   ·rename_i es clock hes;obtain⟨h0,h1,h2⟩:=h;simp only[Instr.next,co,A2 hm (by simp),ks hes,bU];rw[aA (by rw[h0];simp)];simp only[co,run_choose];generalize hL:(es.filter λe=> !seen.contains e.born)=left;generalize hO:left.filter (λe=>decide (e.born<since))=old;generalize hN:left.filter (λe=>decide (e.born≥since))=new;generalize hC:(if old.isEmpty=true then #[none]else #[])++(old++new).map some=cand;have key:∀(j:Nat) (w1:World),j<cand.size→dT w w1→w1.heap=w.heap→
      ∃ v w',(Sem.run P (match cand[j]? with
       |some (some e)=>do
        setObj r (.mapIter (some m) since (seen.push e.born) clock)
        pure (.tuple #[.bool true,e.key,e.val])
       |some none=>pure (.tuple #[.bool false])
       |none=>stuck "Next: no such candidate") w1)=.ok v w'∧dT w w'∧K v w'.heap:=by
     intro j w1 hj hs hh;rw[oG hj];have hmem:cand[j]∈cand:=Array.getElem_mem hj;generalize cand[j]=x at hmem ⊢;rw[←hC,Array.mem_append]at hmem;cases x with
     | none=>
      refine⟨_,_,rfl,hs,?_⟩;rw[hh];refine h2 λe he hns=>?_
      have hold:old=#[]:=by
       rcases hmem with hmem|hmem
       ·by_cases ho:old.isEmpty=true
        ·simpa using ho
        ·simp[ho]at hmem
       ·simp at hmem
      rcases pT e.born since with hlt|hge
      ·exfalso;have:e∈old:=by
        rw[←hO,←hL];simp only[Np];exact⟨⟨he,by simpa using hns⟩,by simpa using hlt⟩
       rw[hold]at this;simp at this
      ·exact hge
     | some e=>
      have hin:e∈es∧seen.contains e.born=false:=by
       have:e∈left:=by
        rcases hmem with hmem|hmem
        ·split at hmem<;>simp at hmem
        ·simp only[Array.mem_map,cP]at hmem;obtain⟨e',he',rfl⟩:=hmem;rw[Array.mem_append]at he';rcases he' with he'|he'
         ·rw[←hO]at he';exact(Np.1 he').1
         ·rw[←hN]at he';exact(Np.1 he').1
       rw[←hL]at this;have:=Np.1 this;exact⟨this.1,by simpa using this.2⟩
      simp only[co];rw[kr (w:=w1) (by rw[hh];exact hm) (by simp)];refine⟨_,_,rfl,hs,?_⟩;simp only[hh];exact h1 e hin.1 hin.2
    have hpos:0<cand.size:=by
     rw[←hC];by_cases ho:old.isEmpty=true
     ·simp[ho];omega
     ·have:0<old.size:=by
       rcases Dt old.size with h0|h0
       ·exact absurd (by simpa using h0) ho
       ·exact h0
      simp[ho];omega
    split
    ·exact key _ _ hpos (dT.refl w) rfl
    ·exact key _ _ (by simp only[Question.cut];exact iO _ hpos) ⟨rfl,rfl,rfl⟩ rfl
   ·exact h.elim
  ·exact h.elim
 ·exact h.elim
theorem UN {it:Value}(h:Yg it w.heap K):∃v w',(Instr.entry it).run P w=.ok v w'∧dT w w'∧K v w'.heap:=by
 unfold Yg at h;split at h
 ·rename_i r sp;split at h
  ·rename_i m _ seen stepped hm;split at h
   ·rename_i es clock hes;split at h
    ·exact h.elim
    ·rename_i hc;split at h
     ·rename_i stamp hb;split at h
      ·rename_i e he;simp only[Instr.entry,co,A2 hm (by simp),ks hes,bU,hb];rw[aA (by simpa using hc)];simp only[he,cZ];exact⟨_,_,rfl,dT.refl w,h⟩
      ·exact h.elim
     ·exact h.elim
   ·exact h.elim
  ·exact h.elim
 ·exact h.elim
theorem Md {e:TypeId}{z:Value}{size bytes:Nat}(h:(P.info? e).bind (λi=>i.zero.map λz=>(z,i.size,i.bytes))=some (z,size,bytes)):
  ∃i,P.info? e=some i∧i.zero=some z∧i.size=size∧i.bytes=bytes:=by
 cases hi:P.info? e with
 |none=>simp[hi]at h
 |some i=>
  cases hz:i.zero with
  |none=>simp[hi,hz]at h
  |some z'=>simp[hi,hz]at h;exact⟨i,rfl,by rw[hz,h.1],h.2.1,h.2.2⟩
theorem XJ (f:Nat→Value):(Array.range 0).map f=#[]:=by simp
theorem zaJ {t e:TypeId}{z:Value}{size bytes:Nat}{l c:Value}(ht:P.underlying t=some (.slice e))
  (hi:(P.info? e).bind (λi=>i.zero.map λz=>(z,i.size,i.bytes))=some (z,size,bytes)) (h:mkK z e size bytes l c w.heap K):
  ∃v w',(Instr.makeSlice t l c).run P w=.ok v w'∧dT w w'∧K v w'.heap:=by
 obtain⟨i,hj,hz,rfl,rfl⟩:=Md hi
 clear hi
 unfold mkK at h;split at h
 ·rename_i k l k' c;obtain⟨h1,h2,h3,hK⟩:=h;simp only[Instr.makeSlice,co,dm ht,bU,asInt,asIntOf,cZ,typeInfo,vL,hj];rw[aA (by simp;omega)];simp only[co,run_askRoom,bU,sizeOf,typeInfo,vL,hj,cZ];by_cases h0:(IntKind.i64.wrap c).toNat*i.size=0
  ·simp only[h0,cV,cZ,bU,newRow,co,gJ];refine⟨_,_,rfl,⟨rfl,rfl,rfl⟩,?_⟩;rw[jO,h0,XJ]at hK;rw[XJ];exact hK
  ·simp only[h0,cS,co,zeroValue,typeInfo,vL,hj,hz,cZ,bU,newRow,gJ];exact⟨_,_,rfl,⟨rfl,rfl,rfl⟩,hK⟩
 ·exact h.elim
theorem XF {t e:TypeId}{s len:Nat}{z:Value}{parts:Array (Nat×Operand)}{l:List (Nat×Nat×Value)}(ht:P.underlying t=some (.slice e))(hs:fP P e=some s)(hz:yM P e=some z)
  (hsmall:¬len*s>2^24) (hl:C9 (λi=>some (i*s,s)) ρ parts.toList=some l) (h:cO (jO z (len*s)) e len l w.heap K):
  ∃v w',(Instr.buildSlice t len (parts.map λ(i,x)=>(i,ev ρ x))).run P w=.ok v w'∧dT w w'∧K v w'.heap:=by
 unfold cO at h;cases hf:aR (jO z (len*s)) l with
 |none=>simp[hf]at h
 | some c=>
  simp only[hf]at h;have hfill:=UM _ _ _ _ hl hf;rw[←UE]at hfill;simp only[Instr.buildSlice,co,dm ht,bU,bJ hs,hsmall,cS];by_cases h0:len*s=0
  ·simp only[h0,cV,co,cZ,bU];have e:jO z (len*s)=#[]:=by simp[jO,h0]
   rw[e]at hfill;rw[XJ,hfill];simp only[newRow,co,gJ,bU,cZ];exact⟨_,_,rfl,⟨rfl,rfl,rfl⟩,h⟩
  ·simp only[h0,cS,co,bD hz,bU,cZ];unfold jO at hfill;rw[hfill];simp only[newRow,co,gJ,bU,cZ];exact⟨_,_,rfl,⟨rfl,rfl,rfl⟩,h⟩
theorem Qy {t u e ty:TypeId}{z:Value}{size bytes:Nat}{s x:Value}{ts:Array TypeId}(hts:ts.toList=[t,u])(ht:P.underlying t=some (.slice e))(hu:∃d,P.underlying u=some d∧∀k,d≠ .int k)
  (hi:(P.info? e).bind (λi=>i.zero.map λz=>(z,i.size,i.bytes))=some (z,size,bytes)) (h:cR z e size bytes s x w.heap K):
  ∃v w',(Builtin.append_ ts ty #[s,x]).run P w=.ok v w'∧dT w w'∧K v w'.heap:=by
 obtain⟨i,hj,hz,rfl,rfl⟩:=Md hi
 clear hi
 obtain⟨d,hu,hd⟩:=hu;obtain rfl:ts=#[t,u]:=by apply Kd;simpa using hts
 unfold cR at h;split at h
 ·rename_i base sLen sCap n hn;simp only[Builtin.append_,yX,EJ,yB,co,dm ht,dm hu,bU,cZ,sizeOf,typeInfo,vL,hj];rw[aA (by simp)];simp only[co,Vx hn,bU];simp only[Bool.not_false,cV];split at h
  ·rename_i hroom;simp only[hroom,cV];split at h
   ·rename_i news hsrc;simp only[co,Em hsrc,bU];split at h
    ·rename_i a;split at h
     ·rename_i h' hst;obtain⟨w',hr,hs,hh⟩:=vg (P:=P) _ _ 0 w h' hst;simp only[co,hr,bU,cZ];exact⟨_,_,rfl,hs,hh▸h⟩
     ·exact h.elim
    ·simp only[cZ];exact⟨_,_,rfl,dT.refl w,h⟩
   ·exact h.elim
  ·rename_i hroom;obtain⟨hlen,hcap,h⟩:=h;simp only[hroom,cS];split at h
   ·rename_i olds news ho hn';simp only[co,vL,bU,hj,cZ];rw[aA (by omega)];simp only[co,vL,bU,hj,cZ];rw[aA (by omega)];simp only[co,vL,bU,hj,cZ,run_choose,Question.forced,ig,cS,run_askRoom];have hH:∀m l,xQ i.size w.heap m l=xQ i.size ({w with drawn:=w.drawn+1}:World).heap m l:=λ_ _=>rfl
    rw[hH]at ho hn';rw[Em ho];simp only[co,bU];rw[Em hn'];simp only[co,bU,newRow,gJ,cZ,zeroValue,typeInfo,vL,hj,hz];refine⟨_,_,rfl,⟨rfl,rfl,rfl⟩,?_⟩;refine h _ ?_ ?_
    ·simp only[Question.cut];omega
    ·simp only[Question.cut];have h63:((sLen+n:Nat):Int)≤2^63-1:=by simpa[IntKind.max,IntKind.signed,IntKind.bits]using hlen
     have:=iO (w.tape w.drawn (.appendCap (sLen+n) sCap e)) (show 0<2^63-(sLen+n)by omega);omega
   ·exact h.elim
 ·exact h.elim
theorem Yn {t e ty:TypeId}{size:Nat}{d x:Value}{ts:Array TypeId}(h0:ts[0]? =some t)(ht:P.underlying t=some (.slice e))(hs:fP P e=some size)(h:HA size d x w.heap K):
  ∃v w',(Builtin.copy_ ts ty #[d,x]).run P w=.ok v w'∧dT w w'∧K v w'.heap:=by
 unfold HA at h;split at h
 ·rename_i base dLen dCap _ n hn;simp only[Builtin.copy_,h0];simp only[yX,EJ,yB,co,dm ht,bU,Vx hn,bJ hs];split at h
  ·rename_i news hsrc;rw[Em hsrc];simp only[bU];split at h
   ·rename_i a;split at h
    ·rename_i h' hst;obtain⟨w',hr,hs,hh⟩:=vg (P:=P) _ _ 0 w h' hst;simp only[co,hr,bU,cZ];exact⟨_,_,rfl,hs,hh▸h⟩
    ·exact h.elim
   ·simp only[cZ];exact⟨_,_,rfl,dT.refl w,h⟩
  ·exact h.elim
 ·exact h.elim
theorem kS.of {s:Sem Value}(h:∃v w',s.run P w=.ok v w'∧dT w w'∧K v w'.heap):kS P K w ((do pure (.value (←s)):Sem Next).run P w):=by
 obtain⟨v,w',h1,h2,h3⟩:=h;exact kS.value h1 h2 h3
theorem kS.ofU {s:Sem Unit}(h:∃w',s.run P w=.ok () w'∧dT w w'∧K undef w'.heap):kS P K w ((do s;pure .skip:Sem Next).run P w):=by
 obtain⟨w',h1,h2,h3⟩:=h;exact kS.unit h1 h2 h3
theorem Ax {f:FuncId}{args:Array Value}(h:tS P f=true):(callFunc f args).run P w=.ok (.enter f args) w:=by
 unfold tS at h;cases hf:P.funcs[f]? with
 |none=>simp[hf]at h
 |some fn=>
  simp only[hf,dt,Kc]at h;simp only[callFunc,co,vL,bU,hf];rw[aA (by rw[h.1];simp)];have hb:fn.body.isNone=false:=by cases hb:fn.body<;>simp_all
  rw[aA (by rw[hb];simp)];rfl
theorem ag.done {f:FuncId}{args:Array Value}(h:ag P f args w.heap K):kS P K w ((callFunc f args).run P w):=by
 rcases h with h|h
 ·rw[Ax h.1];exact⟨rfl,h⟩
 ·obtain⟨v,w',h1,h2,h3⟩:=h w rfl;rw[h1];exact⟨h2,h3⟩
theorem ag.calls {f:FuncId}{args:Array Value}{h:ai}(hok:tS P f=true)(H:ag P f args h K)(w:World)(hw:w.heap=h):Calls P f args w λe w'=>∃v,e=.returned v∧dT w w'∧K v w'.heap:=by
 rcases H with H|H
 ·exact H.2 w hw
 ·obtain⟨v,w',h1,_⟩:=H w hw;rw[Ax hok]at h1;cases h1
theorem za4 {x:Value}{args:Array Value}(h:clK P x args w.heap K):kS P K w ((do let d←Deferred.ofValue x args;invoke d.target d.args:Sem Next).run P w):=by
 unfold clK at h;split at h
 ·simp only[Deferred.ofValue,co,cZ,bU,invoke];exact h.done
 ·exact h.elim
theorem Yk {b:Builtin}{args:List Value}{ts:Array TypeId}{ty:TypeId}{cs:Array Bool}(h:zfF P b args ts.toList w.heap K):kS P K w ((builtin b ts ty cs args.toArray).run P w):=by
 unfold zfF at h;split at h
 ·split at h
  ·rename_i s x t u hts;split at h
   ·rename_i e d ht hu;split at h
    ·rename_i z size bytes hi;exact kS.of (Qy hts ht ⟨_,hu,by simp⟩ hi h)
    ·exact h.elim
   ·rename_i e ht hu;split at h
    ·rename_i z size bytes hi;exact kS.of (Qy hts ht ⟨_,hu,by simp⟩ hi h)
    ·exact h.elim
   ·exact h.elim
  ·exact h.elim
 ·split at h
  ·rename_i d x t rest hts;have h0:ts[0]? =some t:=by rw[←vJ,hts];rfl
   split at h
   ·rename_i e ht;split at h
    ·rename_i size hs;exact kS.of (Yn h0 ht hs h)
    ·exact h.elim
   ·exact h.elim
  ·exact h.elim
 ·split at h
  ·rename_i m k t rest hts;have h0:ts[0]? =some t:=by rw[←vJ,hts];rfl
   split at h
   ·rename_i kt et ht;split at h
    ·rename_i kd hk;exact kS.of (RJ h0 ht hk h)
    ·exact h.elim
   ·exact h.elim
  ·exact h.elim
 ·exact h.elim
theorem Qr (f:Value→ByteArray→Sem (ForInStep ByteArray))(hf:∀n s,f (.int .u8 n) s=pure (.yield (s.push (UInt8.ofNat n.toNat)))):
  ∀(l:List Value) (b:List UInt8) (s:ByteArray),Qs l=some b→(forIn l s f).run P w=.ok ⟨s.data++b.toArray⟩ w
 | [],b,s,h=>by
  simp only[Qs,cP]at h;subst h;simp
 | v::r,b,s,h=>by
  unfold Qs at h;split at h
  ·rename_i n;split at h
   ·rename_i l hl;simp only[cP]at h;subst h;have:=Qr f hf r l (s.push (UInt8.ofNat n.toNat)) hl;simp only[List.forIn_cons,hf,co,cZ,bU,this]
    congr 1
    apply ByteArray.ext;apply Kd;show(s.data.push (UInt8.ofNat n.toNat)++l.toArray).toList=_;simp
   ·cases h
  ·cases h
theorem zbA {x:Value}(h:bsK x w.heap K):∃v w',(Conv.bytesToString x).run P w=.ok v w'∧dT w w'∧K v w'.heap:=by
 unfold bsK at h;split at h
 ·exact⟨_,w,rfl,dT.refl w,h⟩
 ·rename_i a n c;split at h
  ·rename_i l hl;split at h
   ·rename_i b hb;refine⟨_,w,?_,dT.refl w,h⟩;have h1:=yp (P:=P) a _ 0 #[] l hl;simp only[Conv.bytesToString,loadCells,co,h1,bU,Array.empty_append,List.forIn_toArray];rw[Qr _ (λn s=>rfl) l b ByteArray.empty hb];simp
   ·exact h.elim
  ·exact h.elim
 ·exact h.elim
theorem PS {op:Op}(o:Oper)(ho:o.op=op)(h:zej P ρ op w.heap K):kS P K w ((execOp (ev ρ) o).run P w):=by
 unfold zej at h;split at h
 case h_1 t=>
  split at h
  ·rename_i z hz;simp only[execOp,ho];refine kS.of ⟨.pointer (some ⟨w.heap.size,0,none⟩),{w with heap:=w.heap.push (.cells z.cells t)},?_,⟨rfl,rfl,rfl⟩,h⟩;simp only[Instr.alloc,co,bD hz,bU,newVar,newRow,gJ,cZ]
  ·exact h.elim
 case h_2 t x=>
  simp only[execOp,ho];refine kS.of ⟨.pointer (some ⟨w.heap.size,0,none⟩),{w with heap:=w.heap.push (.cells (ev ρ x).cells t)},?_,⟨rfl,rfl,rfl⟩,h⟩;simp only[Instr.box,co,bU,newVar,newRow,gJ,cZ]
 case h_3 t len parts=>
  split at h
  ·rename_i e ht;split at h
   ·rename_i s z hs hz;split at h
    ·exact h.elim
    ·rename_i hsmall;split at h
     ·rename_i l hl;simp only[execOp,ho];exact kS.of (XF ht hs hz hsmall hl h)
     ·exact h.elim
   ·exact h.elim
  ·exact h.elim
 case h_4 t a x=>
  split at h
  ·rename_i n hn;simp only[execOp,ho];exact kS.ofU (zav hn h)
  ·exact h.elim
 case h_5 t l c=>
  split at h
  ·rename_i e ht;split at h
   ·rename_i z size bytes hi;simp only[execOp,ho];exact kS.of (zaJ ht hi h)
   ·exact h.elim
  ·exact h.elim
 case h_6 t=>
  simp only[execOp,ho];refine kS.of ⟨.map (some w.heap.size),{w with heap:=w.heap.push (.map #[] 0)},?_,⟨rfl,rfl,rfl⟩,h⟩;simp only[Instr.makeMap,No,co,gJ,bU,cZ]
 case h_7 t m k x|h_8 t m k x=>
  split at h
  ·rename_i kt et ht;split at h
   ·rename_i kd hk;simp only[execOp,ho];exact kS.ofU (RH ht hk h)
   ·exact h.elim
  ·exact h.elim
 case h_9 t m k=>
  split at h
  ·rename_i kt et ht;split at h
   ·rename_i kd z hk hz;simp only[execOp,ho];exact kS.of (MP ht hk hz h)
   ·exact h.elim
  ·exact h.elim
 case h_10 t m s x=>
  simp only[execOp,ho];exact kS.ofU (PP h)
 case h_11 t x=>
  split at h
  ·rename_i kt et ht;simp only[execOp,ho];exact kS.of (Mt ht h)
  ·rename_i ht;simp only[execOp,ho];exact kS.of (Ms ht h)
  ·exact h.elim
 case h_12 it s=>
  simp only[execOp,ho];cases s
  ·exact kS.of (Pe h)
  ·exact kS.of (Pd h)
 case h_13 it=>
  simp only[execOp,ho];exact kS.of (UN h)
 case h_14 c=>
  split at h
  ·rename_i b hb;have:=Yk (P:=P) (w:=w) (ty:=o.type) (cs:=c.args.map λ| .const _=>true|_=>false) h;rw[EH]at this;simp only[execOp,ho,resolve,hb,co,cZ,bU,invoke];exact this
  ·rename_i f hb;simp only[execOp,ho,resolve,hb,ev,Deferred.ofValue,co,cZ,bU,invoke];simp only[Array.empty_append,Array.append_empty];exact h.done
  ·rename_i x _ hb;simp only[execOp,ho,resolve,hb];exact za4 h
  ·exact h.elim
 case h_15 s d x=>
  split at h
  ·rename_i e h1 h2;split at h
   ·rename_i h3;simp only[execOp,ho];refine kS.of ?_;obtain⟨v,w',h4,h5,h6⟩:=zbA (P:=P) h;refine⟨v,w',?_,h5,h6⟩;simp only[convert,co,dm h1,dm h2,dm h3,bU];generalize ev ρ x=y at h h4 ⊢;cases y<;>first|exact h4|(simp only[co,dm h3,bU];exact h4)|exact h.elim
   ·exact h.elim
  ·exact h.elim
 case h_16=>exact h.elim
end
end
end Go.Crisp
namespace Go.Crisp
section
def gV (g:Value)(want:Bool)(r:Option Value):Option Value:=
 match g with
 | .bool b=>bif b==want then r else some undef
 |_=>some undef
def gK (g:Value)(want:Bool)(m:(Value→ai→Prop)→Prop)(h:ai)(K:Value→ai→Prop):Prop:=
 match g with
 | .bool b=>bif b==want then m K else K undef h
 |_=>K undef h
def gOf (all:Array Oper)(ρ:Env)(j:Nat):Value:=
 match(all[j]?).bind (·.dst)with
 |some t=>ρ t
 |none=>undef
def roG (P:Program)(all:Array Oper)(ρ:Env)(o:Oper)(h:ai):Option (Option Value):=
 match roV P ρ o.op h with
 |some r=>match o.guard with
  |none=>some r
  |some (j,want)=>some (gV (gOf all ρ j) want r)
 |none=>none
def effG (P:Program)(all:Array Oper)(ρ:Env)(o:Oper)(h:ai)(K:Value→ai→Prop):Prop:=
 match o.guard with
 |none=>zej P ρ o.op h K
 |some (j,want)=>gK (gOf all ρ j) want (λK=>zej P ρ o.op h K) h K
def zeS (P:Program)(all:Array Oper)(ρ:Env)(o:Oper)(h:ai)(K:Value→ai→Prop):Prop:=
 match roG P all ρ o h with
 |some r=>vK r λv=>K v h
 |none=>effG P all ρ o h K
def zdz (P:Program)(ρ:Env)(o:Oper):Option Value:=
 match o.guard with
 |some _=>none
 | none=>match o.op with
  | .move x=>some (ev ρ x)
  | .assign x=>some (ev ρ x)
  | .makeInterface t x=>match P.underlying t with
   |some (.interface _)=>none
   |some _=>some (.iface t (ev ρ x))
   |none=>none
  | .makeFunc fn first captured=>some (.func fn (first.map (ev ρ)) (captured.map (ev ρ)))
  |_=>none
theorem YR {P:Program}{all:Array Oper}{ρ:Env}{o:Oper}{v:Value}(h:zdz P ρ o=some v)(hp:ai):roG P all ρ o hp=some (some v):=by
 unfold zdz at h;split at h
 ·cases h
 ·rename_i hg;unfold roG;split at h
  ·rename_i x ho;simp only[ho,roV,hg,h]
  ·rename_i x ho;simp only[ho,roV,hg,h]
  ·rename_i t x ho;simp only[ho,roV,hg];cases hu:P.underlying t with
   |none=>simp[hu]at h
   |some d=>cases d<;>simp_all
  ·rename_i ho;simp only[ho,roV,hg,h]
  ·cases h
def cOp (P:Program)(all:Array Oper)(ρ:Env)(o:Oper)(h:ai)(K:Value→ai→Prop):Prop:=
 match zdz P ρ o with
 |some v=>K v h
 |none=>zeS P all ρ o h K
theorem zdj {P:Program}{all:Array Oper}{ρ:Env}{o:Oper}{h:ai}{K:Value→ai→Prop}(H:cOp P all ρ o h K):zeS P all ρ o h K:=by
 unfold cOp at H;split at H
 ·rename_i v hv;unfold zeS;rw[YR hv h];exact H
 ·exact H
def roK (P:Program)(all:Array Oper)(ρ:Env)(o:Oper)(h:ai)(K:Value→Prop):Prop:=
 match zdz P ρ o with
 |some v=>K v
 |none=>match roG P all ρ o h with
  |some r=>vK r K
  |none=>False
theorem zbS {P:Program}{all:Array Oper}{ρ:Env}{o:Oper}{h:ai}{K:Value→Prop}(H:roK P all ρ o h K):match roG P all ρ o h with|some r=>vK r K|none=>False:=by
 unfold roK at H;split at H
 ·rename_i v hv;rw[YR hv h];exact H
 ·exact H
noncomputable def zdi (P:Program)(all:Array Oper)(l:List Oper):Env→ai→(Env→ai→Prop)→Prop:=
 List.rec (motive:=λ_=>Env→ai→(Env→ai→Prop)→Prop) (λρ h Q=>Q ρ h)
  (λo _ ih ρ h Q=>cOp P all ρ o h λv h=>ih (up ρ o.dst v) h Q) l
theorem zby {P:Program}{all:Array Oper}{o:Oper}{l:List Oper}{ρ:Env}{h:ai}{Q:Env→ai→Prop}:zdi P all (o::l) ρ h Q=cOp P all ρ o h λv h=>zdi P all l (up ρ o.dst v) h Q:=rfl
noncomputable def zah (P:Program)(all:Array Oper)(l:List Oper):Env→ai→(Env→ai→Prop)→Prop:=
 List.rec (motive:=λ_=>Env→ai→(Env→ai→Prop)→Prop) (λρ h Q=>Q ρ h)
  (λo _ ih ρ h Q=>roK P all ρ o h λv=>ih (up ρ o.dst v) h Q) l
def qK (S:ai→Prop)(r:ai→Option Value)(K:Value→Prop):Prop:=∃v,(∀h,S h→r h=some v)∧K v
def bL (h:ai)(body:(ai→Prop)→Prop):Prop:=∃S:ai→Prop,S h∧body S
def Dy (P:Program):Op→Bool
 | .load .. | .lookup .. | .call _=>false
 | .binOp _ t x y _=>match PR P t with
  | .p=>V2 x||V2 y
  |_=>true
 |_=>true
inductive PK where
 |e|r|f|n
inductive PT where
 |nil
 |op (i:Nat) (q:PK) (t:PT)
 |alt (x y:PT)
noncomputable def DO (P:Program)(all:Array Oper)(plan:PT):(ai→Prop)→Env→ai→(Env→ai→Prop)→Prop:=
 PT.rec (motive:=λ_=>(ai→Prop)→Env→ai→(Env→ai→Prop)→Prop) (λ_ ρ h Q=>Q ρ h)
  (λi q _ ih S ρ h Q=>match all[i]? with
   |none=>False
   | some o=>match q with
    | .r=>match Dy P o.op with
     |true=>roK P all ρ o h (λv=>ih S (up ρ o.dst v) h Q)
     |false=>qK S (λh=>match roG P all ρ o h with|some r=>r|none=>none) (λv=>ih S (up ρ o.dst v) h Q)
    | .e=>cOp P all ρ o h λv h=>S h∧ih S (up ρ o.dst v) h Q
    | .f=>cOp P all ρ o h λv h=>bL h λS=>ih S (up ρ o.dst v) h Q
    | .n=>cOp P all ρ o h λv h=>ih (λ_=>True) (up ρ o.dst v) h Q)
  (λ_ _ ihx ihy S ρ h Q=>ihx S ρ h Q∧ihy S ρ h Q) plan
theorem zbz {P:Program}{all:Array Oper}{x y:PT}{S:ai→Prop}{ρ:Env}{h:ai}{Q:Env→ai→Prop}:DO P all (.alt x y) S ρ h Q=(DO P all x S ρ h Q∧DO P all y S ρ h Q):=rfl
theorem YK {P:Program}{all:Array Oper}{S:ai→Prop}{i:Nat}{q:PK}{l:PT}{ρ:Env}{h:ai}{Q:Env→ai→Prop}:DO P all (.op i q l) S ρ h Q=match all[i]? with
  |none=>False
  | some o=>match q with
   | .r=>match Dy P o.op with
    |true=>roK P all ρ o h (λv=>DO P all l S (up ρ o.dst v) h Q)
    |false=>qK S (λh=>match roG P all ρ o h with|some r=>r|none=>none) (λv=>DO P all l S (up ρ o.dst v) h Q)
   | .e=>cOp P all ρ o h λv h=>S h∧DO P all l S (up ρ o.dst v) h Q
   | .f=>cOp P all ρ o h λv h=>bL h λS=>DO P all l S (up ρ o.dst v) h Q
   | .n=>cOp P all ρ o h λv h=>DO P all l (λ_=>True) (up ρ o.dst v) h Q:=by cases q<;>rfl
inductive Ex where
 |nx|br (n:Nat)|rt
inductive Ann where
 |z
 |s (x y:Ann)
 |j (ws:Nat) (cs:List Nat) (x y:Ann)
 |m (ws:Nat) (cs:List Nat) (x:Ann)
 |l (ws:Nat) (cs:List Nat) (x:Ann)
 |d (plan:PT)
def ix (xs:List Value)(i:Nat):Value:=xs.getD i undef
def R8 (t:Nat):Nat→List Nat→Option Nat
 |_,[]=>none
 |k,c::cs=>bif Nat.beq t c then some k else R8 t (k+1) cs
def iA:Code→List Tmp
 | .region _ ops _=>ops.toList.filterMap (·.dst)
 | .seq x y=>iA x++iA y
 | .cond _ x y=>iA x++iA y
 | .block _ x=>iA x
 | .loop x=>iA x
 |_=>[]
def AF (t:Nat):List Nat→Bool
 | []=>false
 |c::cs=>bif Nat.beq t c then true else AF t cs
def rk (ws t:Nat):Bool:=Nat.beq (Nat.land (Nat.shiftRight ws t) 1) 1
def Ej (ws:Nat):List Nat→Bool
 | []=>true
 |c::cs=>rk ws c&&Ej ws cs
def PG (ρ ρj:Env)(ws:Nat)(cs:List Nat)(xs:List Value):Env:=λt=>
 match R8 t 0 cs with
 |some i=>ix xs i
 |none=>match rk ws t with
  |true=>ρj t
  |false=>ρ t
def eM (body:(List Value→ai→Prop)→Prop)(rest:List Value→Env→ai→Prop):Prop:=
 ∃J:List Value→ai→Prop,body J∧∀xs ρj h,J xs h→rest xs ρj h
def bC (init:List Value)(h:ai)(body:List Value→Env→ai→(List Value→ai→Prop)→Prop):Prop:=
 ∃(I:List Value→ai→Prop) (m:List Value→ai→Nat),I init h∧∀xs ρj h,I xs h→body xs ρj h λys h'=>I ys h'∧m ys h'<m xs h
def aG (c:Value)(x y:Prop):Prop:=
 match c with
 | .bool b=>bif b then x else y
 |_=>False
abbrev CK:=Ann→Env→ai→(Ex→Env→ai→Prop)→Prop
def seqC (x y:CK):CK:=λan ρ h Q=>match an with
 | .s a b=>x a ρ h λe ρ h=>match e with
  | .nx=>y b ρ h Q
  |e=>Q e ρ h
 | .j ws cs a b=>eM (λJ=>x a ρ h λe ρ h=>match e with
   | .nx=>J (cs.map ρ) h
   |e=>Q e ρ h) λxs ρj h=>y b (PG ρ ρj ws cs xs) h Q
 |_=>False
def condC (c:Operand)(x y:CK):CK:=λan ρ h Q=>match an with
 | .s a b=>aG (ev ρ c) (x a ρ h Q) (y b ρ h Q)
 |_=>False
def zf8 (id:Nat) (x:CK):CK:=λan ρ h Q=>match an with
 | .m ws cs a=>eM (λJ=>x a ρ h λe ρ h=>match e with
   | .nx=>J (cs.map ρ) h
   | .br n=>match Nat.beq n id with
    |true=>J (cs.map ρ) h
    |false=>Q (.br n) ρ h
   | .rt=>Q .rt ρ h) λxs ρj h=>Q .nx (PG ρ ρj ws cs xs) h
 | a=>x a ρ h λe ρ h=>match e with
  | .nx=>Q .nx ρ h
  | .br n=>match Nat.beq n id with
   |true=>Q .nx ρ h
   |false=>Q (.br n) ρ h
  | .rt=>Q .rt ρ h
def loopC (x:CK):CK:=λan ρ h Q=>match an with
 | .l ws cs a=>bC (cs.map ρ) h λxs ρj h again=>x a (PG ρ ρj ws cs xs) h λe ρ h=>match e with
  | .nx=>again (cs.map ρ) h
  |e=>Q e ρ h
 |_=>False
noncomputable def zdK (P:Program)(ops:Array Oper)(draw:Bool):CK:=λan ρ h Q=>match an with
 | .d plan=>bL h λS=>DO P ops plan S ρ h (Q .nx)
 |_=>match draw with
  |true=>zah P ops ops.toList ρ h (Q .nx)
  |false=>zdi P ops ops.toList ρ h (Q .nx)
noncomputable def SY (P:Program)(c:Code):CK:=
 Code.rec (motive:=λ_=>CK)
  (λ_ ρ h Q=>Q .nx ρ h)
  (λ_ ops draw=>zdK P ops draw)
  (λ_ _ ihx ihy=>seqC ihx ihy)
  (λc _ _ ihx ihy=>condC c ihx ihy)
  (λid _ ih=>zf8 id ih)
  (λ_ ih=>loopC ih)
  (λ_ _ _ _ _ _=>λ_ _ _ _=>False)
  (λid _ ρ h Q=>Q (.br id) ρ h)
  (λ_ _=>λ_ _ _ _=>False)
  (λ_=>λ_ _ _ _=>False)
  (λ_=>λ_ _ _ _=>False)
  (λ_ ρ h Q=>Q .rt ρ h)
  (λ_=>λ_ _ _ _=>False)
  c
def tO (ops:Array Oper):Nat→Nat→Nat→Bool
 |0,_,_=>false
 |n+1,k,i=>match ops[k]? with
  |some o=>o.after.any λe=>Region.binds .any e&&(e.on==i||tO ops n e.on i)
  |none=>false
def WI:List Edge→Nat→Nat
 | [],m=>m
 |e::l,m=>WI l (match Region.binds .any e with|true=>Nat.lor m (Nat.pow 2 e.on)|false=>m)
def zeV (ops:Array Oper):Nat→Nat→Nat
 |0,m=>m
 | j+1,m=>zeV ops j (match rk m j with
  |true=>match ops[j]? with
   |some o=>WI o.after.toList m
   |none=>m
  |false=>m)
def zb8 (ops:Array Oper)(k i:Nat):Bool:=rk (zeV ops ops.size (match ops[k]? with|some o=>WI o.after.toList 0|none=>0)) i
def iN:PT→List Nat
 | .nil=>[]
 | .op i q t=>match q with
  | .f=>[i]
  | .n=>[i]
  |_=>iN t
 | .alt x y=>iN x++iN y
def xp:PT→List Nat
 | .nil=>[]
 | .op i _ _=>[i]
 | .alt x y=>xp x++xp y
def yZ:PT→Nat
 | .nil=>0
 | .op _ _ t=>yZ t+1
 | .alt x y=>Nat.max (yZ x) (yZ y)
def XN (P:Program)(ops:Array Oper)(i:Nat):Bool:=
 match ops[i]? with
 |some o=>Dy P o.op
 |none=>false
def pH (P:Program)(ops:Array Oper):PT→Bool→List Nat→Array Bool→Bool
 | .nil,root,_,listed=>root&&(Region.ready .any ops listed).isEmpty
 | .op i q t,root,fs,listed=>(match q with
   | .r=>root&&(Region.free .any ops listed i&&(Region.ready .any ops listed).contains i&&(iN t).all λk=> !(k==i)&&(XN P ops i||zb8 ops k i))
   | .e=>(bif root then Region.ready .any ops listed==[i]else(Region.ready .any ops listed).contains i)&& !((bif root then iN t else fs).contains i)
   |_=>bif root then Region.ready .any ops listed==[i]else(Region.ready .any ops listed).contains i)&&pH P ops t true [] (listed.setIfInBounds i true)
 | .alt x y,root,fs,listed=>(bif root then(Region.ready .any ops listed).all λi=>(xp x++xp y).contains i else true)&&
   (pH P ops x false (bif root then iN x++iN y else fs) listed&&pH P ops y false (bif root then iN x++iN y else fs) listed)
def Gt (n:Nat):List Oper→Bool
 | []=>true
 |o::l=>(match o.dst with|some d=>Nat.blt d n|none=>true)&&Gt n l
def hG (P:Program)(n:Nat):Code→Ann→Bool
 | .skip,_=>true
 | .region _ ops draw,an=>Gt n ops.toList&&match an with
  | .d plan=>draw&&Region.noSelect ops&&Nat.ble (yZ plan) ops.size&&pH P ops plan true [] (Array.replicate ops.size false)
  |_=>bif draw then Region.lexB .any ops else true
 | .seq x y,an=>match an with
  | .s a b=>hG P n x a&&hG P n y b
  | .j ws _ a b=>Ej ws (iA x)&&(hG P n x a&&hG P n y b)
  |_=>false
 | .cond _ x y,an=>match an with
  | .s a b=>hG P n x a&&hG P n y b
  |_=>false
 | .block _ x,an=>match an with
  | .m ws _ a=>Ej ws (iA x)&&hG P n x a
  |a=>hG P n x a
 | .loop x,an=>match an with
  | .l ws _ a=>Ej ws (iA x)&&hG P n x a
  |_=>false
 | .exit _,_=>true
 | .ret,_=>true
 |_,_=>false
def Rel (n:Nat)(a:Act)(ρ:Env):Prop:=a.tmps.size=n∧a.defers=[]∧∀t,a.tmps.getD t undef=ρ t
theorem Rel.eval {n:Nat}{a:Act}{ρ:Env}(h:Rel n a ρ):a.eval=ev ρ:=by
 funext x
 cases x<;>simp only[Act.eval,ev]
 exact h.2.2 _
theorem Rel.put {n:Nat}{a:Act}{ρ:Env}(h:Rel n a ρ){d:Option Tmp}(hd:(match d with|some d=>Nat.blt d n|none=>true)=true)(v:Value):Rel n (a.put d v) (up ρ d v):=by
 cases d with
 |none=>exact h
 | some d=>
  refine⟨by simp[Act.put,h.1],h.2.1,λt=>?_⟩;have hd':d<a.tmps.size:=by rw[h.1];simpa[Nat.blt_eq]using hd
  simp only[Act.put,up];have:=h.2.2 t;by_cases ht:t=d
  ·subst ht;simp[hd']
  ·have hb:Nat.beq t d=false:=by rw[J0];intro hb;exact ht (AY hb)
   simp only[hb];rw[←this];simp only[UD];rw[ZF (ie ht)]
def KB (n:Nat)(ρ:Env)(ws:List Tmp)(w0:World)(Q:Ex→Env→ai→Prop):Exit→Act→World→Prop:=λe a w=>
 ∃ρ2,Rel n a ρ2∧(∀t,AF t ws=false→ρ2 t=ρ t)∧dT w0 w∧match e with
  | .normal=>Q .nx ρ2 w.heap
  | .exit id=>Q (.br id) ρ2 w.heap
  | .ret=>Q .rt ρ2 w.heap
  |_=>False
theorem tZ (t:Nat):∀a b:List Nat,AF t (a++b)=(AF t a||AF t b)
 | [],b=>by simp[AF]
 |c::a,b=>by
  simp only[oF,AF,tZ t a b];cases Nat.beq t c<;>simp
theorem Il {n:Nat}{a:Act}{ρ:Env}(hr:Rel n a ρ){all:Array Oper}{j:Nat}{want:Bool}{o:Oper}(hg:o.guard=some (j,want)):
  Region.wanted o (yielded all a.tmps)=(match gOf all ρ j with| .bool b=>b==want|_=>false):=by
 unfold Region.wanted;rw[hg];simp only;unfold yielded gOf;cases hd:(all[j]?).bind (·.dst)with
 |none=>rfl
 |some t=>
  have h2:=hr.2.2 t;simp only[Option.bind_some];rw[←h2];simp only[UD];cases h3:a.tmps[t]? with
  |none=>rfl
  |some v=>cases v<;>simp
section
variable {P:Program}{ρ:Env}{w:World}{n:Nat}{a:Act}
theorem Ap {o:Oper}{K:Value→ai→Prop}{next:Act→World→Prop}{Q:Exit→Act→World→Prop}(h:kS P K w ((execOp a.eval o).run P w))
  (hn:∀v w',dT w w'→K v w'.heap→next (a.put o.dst v) w'):o.wp P a w next Q:=by
 unfold Oper.wp;generalize(execOp a.eval o).run P w=r at h;unfold kS at h;split at h
 ·exact hn _ _ h.1 h.2
 ·exact hn _ _ h.1 h.2
 ·obtain⟨rfl,hc⟩:=h;refine(hc.2 _ rfl).mono ?_;rintro e w' ⟨v,rfl,hs,hk⟩;exact hn v w' hs hk
 ·exact h.elim
theorem SX [mh P]{all:Array Oper}{o:Oper}{K:Value→ai→Prop}{next:Act→World→Prop}{Q:Exit→Act→World→Prop}(hr:Rel n a ρ)(h:cOp P all ρ o w.heap K)
  (hn:∀v w',dT w w'→K v w'.heap→next (a.put o.dst v) w'):
  if Region.wanted o (yielded all a.tmps)then o.wp P a w next Q∨(o.asks P a w∧LetsOut Q)else next (a.put o.dst undef) w:=by
 have h:=zdj h;unfold zeS at h;cases hro:roV P ρ o.op w.heap with
 | some r=>
  simp only[roG,hro]at h;cases hg:o.guard with
  | none=>
   simp only[hg]at h;have hw:Region.wanted o (yielded all a.tmps)=true:=by simp[Region.wanted,hg]
   rw[aB hw];refine .inl ?_;unfold vK at h;split at h
   ·rename_i v;refine Ap (K:=K) ?_ hn;rw[hr.eval,zX o rfl hro rfl];exact⟨dT.refl w,h⟩
   ·exact h.elim
  | some p=>
   obtain⟨j,want⟩:=p;simp only[hg]at h;rw[Il hr hg];unfold gV at h;split at h
   ·rename_i b hb;by_cases hbw:(b==want)=true
    ·rw[hbw]at h;simp only[uB]at h;rw[aB hbw];refine .inl ?_;unfold vK at h;split at h
     ·rename_i v;refine Ap (K:=K) ?_ hn;rw[hr.eval,zX o rfl hro rfl];exact⟨dT.refl w,h⟩
     ·exact h.elim
    ·have hbw':(b==want)=false:=by simpa using hbw
     rw[hbw']at h;simp only[yW,vK]at h;rw[aA hbw];exact hn _ _ (dT.refl w) h
   ·rename_i hb;simp only[vK]at h;rw[aA (by simp)];exact hn _ _ (dT.refl w) h
 | none=>
  simp only[roG,hro,effG]at h;cases hg:o.guard with
  |none=>
   simp only[hg]at h;have hw:Region.wanted o (yielded all a.tmps)=true:=by simp[Region.wanted,hg]
   rw[aB hw];refine .inl (Ap (K:=K) ?_ hn);rw[hr.eval];exact PS o rfl h
  | some p=>
   obtain⟨j,want⟩:=p;simp only[hg]at h;rw[Il hr hg];unfold gK at h;split at h
   ·rename_i b hb;by_cases hbw:(b==want)=true
    ·rw[hbw]at h;simp only[uB]at h;rw[aB hbw];refine .inl (Ap (K:=K) ?_ hn);rw[hr.eval];exact PS o rfl h
    ·have hbw':(b==want)=false:=by simpa using hbw
     rw[hbw']at h;simp only[yW]at h;rw[aA hbw];exact hn _ _ (dT.refl w) h
   ·rename_i hb;rw[aA (by simp)];exact hn _ _ (dT.refl w) h
theorem GJ {o:Oper}{l:List Oper}(h:Gt n (o::l)=true):(match o.dst with|some d=>Nat.blt d n|none=>true)=true∧Gt n l=true:=by
 simpa[Gt]using h
theorem Vc {d:Option Tmp}{v:Value}{t:Nat}{rest:List Tmp}(ht:AF t (match d with|some d=>d::rest|none=>rest)=false):up ρ d v t=ρ t∧AF t rest=false:=by
 cases d with
 |none=>exact⟨rfl,ht⟩
 |some d=>
  simp only[AF]at ht;simp only[up];cases hb:Nat.beq t d with
  |true=>rw[hb]at ht;cases ht
  |false=>rw[hb]at ht;exact⟨rfl,ht⟩
theorem Qq [mh P]{all:Array Oper}{Q:Ex→Env→ai→Prop}{Q':Exit→Act→World→Prop}:∀(l:List Oper) (k:Nat) (ρ:Env) (a:Act) (w:World),all.toList.drop k=l→Gt n l=true→Rel n a ρ→
  zdi P all l ρ w.heap (Q .nx)→(∀e a' w',KB n ρ (l.filterMap (·.dst)) w Q e a' w'→Q' e a' w')→wpOps P all Q' (List.range' k l.length) a w
 | [],k,ρ,a,w,_,_,hr,h,hQ=>by
  simp only[lX,List.range'_zero,wpOps];exact hQ _ _ _ ⟨ρ,hr,λ_ _=>rfl,dT.refl w,h⟩
 | o::l,k,ρ,a,w,hd,hok,hr,h,hQ=>by
  have hk:all[k]? =some o:=by
   rw[←vJ];have:(all.toList.drop k)[0]? =some o:=by rw[hd];rfl
   simpa using this
  have hd':all.toList.drop (k+1)=l:=by
   have:(all.toList.drop k).drop 1=l:=by rw[hd];rfl
   simpa[EF]using this
  obtain⟨h1,h2⟩:=GJ hok;simp only[pS,List.range'_succ,wpOps,hk];rw[zby]at h;refine SX (n:=n) hr h λv w' hs hK=>?_
  refine Qq l (k+1) (up ρ o.dst v) _ w' hd' h2 (hr.put h1 v) hK λe a' w'' ⟨ρ2,g1,g2,g3,g4⟩=>hQ e a' w'' ⟨ρ2,g1,λt ht=>?_,hs.trans g3,g4⟩
  have:=Vc (ρ:=ρ) (d:=o.dst) (v:=v) (t:=t) (rest:=l.filterMap (·.dst)) (by cases hdst:o.dst<;>simp[hdst]at ht ⊢ <;>exact ht);rw[g2 t this.2,this.1]
theorem Ta [mh P]{all:Array Oper}{o:Oper}{C:World→Prop}{K:Act→Prop}{h:ai}{K0:Value→Prop}(hr:Rel n a ρ)(hC:∀w,C w→w.heap=h)
  (hv:roK P all ρ o h K0) (hn:∀v,K0 v→K (a.put o.dst v)):
  if Region.wanted o (yielded all a.tmps)then o.quiet P a C K else K (a.put o.dst undef):=by
 have hv:=zbS hv;unfold roG at hv;cases hro:roV P ρ o.op h with
 |none=>simp[hro]at hv
 | some r=>
  simp only[hro]at hv;have hq:∀v,r=some v→∀w,C w→o.quietAt P a C w v:=by
   intro v hrv w hw;unfold Oper.quietAt;rw[hr.eval,zX (w:=w) o rfl (by rw[hC w hw];exact hro) hrv];exact⟨rfl,rfl⟩
  cases hg:o.guard with
  | none=>
   simp only[hg]at hv;rw[aB (by simp[Region.wanted,hg])];unfold vK at hv;split at hv
   ·rename_i v;exact⟨v,hq v rfl,hn v hv⟩
   ·exact hv.elim
  | some p=>
   obtain⟨j,want⟩:=p;simp only[hg]at hv;rw[Il hr hg];unfold gV at hv;split at hv
   ·rename_i b hb;by_cases hbw:(b==want)=true
    ·rw[hbw]at hv;simp only[uB]at hv;rw[aB hbw];unfold vK at hv;split at hv
     ·rename_i v;exact⟨v,hq v rfl,hn v hv⟩
     ·exact hv.elim
    ·have hbw':(b==want)=false:=by simpa using hbw
     rw[hbw']at hv;simp only[yW,vK]at hv;rw[aA hbw];exact hn _ hv
   ·rename_i hb;simp only[vK]at hv;rw[aA (by simp)];exact hn _ hv
theorem Mn [mh P]{all:Array Oper}{Q:Ex→Env→ai→Prop}{C:World→Prop}{h:ai}{Q':Act→Prop}(hC:∀w,C w→w.heap=h):∀(l:List Oper) (ρ:Env) (a:Act),Gt n l=true→Rel n a ρ→
  zah P all l ρ h (Q .nx)→(∀a' ρ2,Rel n a' ρ2→(∀t,AF t (l.filterMap (·.dst))=false→ρ2 t=ρ t)→Q .nx ρ2 h→Q' a')→wpQuiet P all C Q' l a
 | [],ρ,a,_,hr,hh,hQ=>hQ _ ρ hr (λ_ _=>rfl) hh
 |o::l,ρ,a,hok,hr,hh,hQ=>by
  obtain⟨h1,h2⟩:=GJ hok;simp only[wpQuiet];refine Ta (n:=n) (h:=h) hr hC (K0:=λv=>zah P all l (up ρ o.dst v) h (Q .nx)) hh λv hK=>?_
  refine Mn hC l (up ρ o.dst v) _ h2 (hr.put h1 v) hK λa' ρ2 g1 g2 g3=>hQ a' ρ2 g1 (λt ht=>?_) g3
  have:=Vc (ρ:=ρ) (d:=o.dst) (v:=v) (t:=t) (rest:=l.filterMap (·.dst)) (by cases hdst:o.dst<;>simp[hdst]at ht ⊢ <;>exact ht);rw[g2 t this.2,this.1]
theorem NZ (w:World):dT w {w with drawn:=w.drawn+1}:=⟨rfl,rfl,rfl⟩
theorem Region.wanted_eq {all:Array Oper}{o:Oper}(hr:Rel n a ρ):Region.wanted o (yielded all a.tmps)=match o.guard with
  |none=>true
  |some (j,want)=>match gOf all ρ j with| .bool b=>b==want|_=>false:=by
 cases hg:o.guard with
 |none=>simp[Region.wanted,hg]
 |some p=>obtain⟨j,want⟩:=p;exact Il hr hg
theorem LD [mh P]{all:Array Oper}{o:Oper}{S:ai→Prop}{v:Value}{h0:ai}(hr:Rel n a ρ)(h0S:S h0)
  (hv:∀h,S h→(match roG P all ρ o h with|some r=>r|none=>none)=some v):YieldsIf P all (λw=>S w.heap) o v a:=by
 unfold YieldsIf;rw[Region.wanted_eq hr];have key:∀h,S h→∃r,roV P ρ o.op h=some r∧(match o.guard with|none=>r|some (j,want)=>gV (gOf all ρ j) want r)=some v:=by
  intro h hh;have:=hv h hh;unfold roG at this;cases hro:roV P ρ o.op h with
  |none=>simp[hro]at this
  |some r=>
   simp only[hro]at this;refine⟨r,rfl,?_⟩;cases hg:o.guard with
   |none=>simpa[hg]using this
   |some p=>simpa[hg]using this
 cases hg:o.guard with
 |none=>
  refine .inl ⟨rfl,λw hw=>?_⟩;obtain⟨r,h1,h2⟩:=key _ hw;simp only[hg]at h2;rw[hr.eval];exact zX o rfl h1 h2
 | some p=>
  obtain⟨j,want⟩:=p;simp only[hg]at key;cases hgo:gOf all ρ j with
  | bool b=>
   simp only[hgo,gV]at key;cases hbw:(b==want)with
   |true=>
    refine .inl ⟨by simp only[hgo];exact hbw,λw hw=>?_⟩;obtain⟨r,h1,h2⟩:=key _ hw;rw[hbw,uB]at h2;rw[hr.eval];exact zX o rfl h1 h2
   |false=>
    obtain⟨r,h1,h2⟩:=key _ h0S;rw[hbw,yW]at h2;exact .inr ⟨by simp only[hgo];exact hbw,(oE h2).symm⟩
  |_=>
   obtain⟨r,h1,h2⟩:=key _ h0S;simp only[hgo,gV]at h2;exact .inr ⟨by simp only[hgo],(oE h2).symm⟩
theorem Cg [mh P]{all:Array Oper}{i:Nat}{o:Oper}{K:Value→ai→Prop}{next:Act→World→Prop}{Q:Exit→Act→World→Prop}(hi:all[i]? =some o)(hr:Rel n a ρ)(h:cOp P all ρ o w.heap K)
  (hn:∀v w',dT w w'→K v w'.heap→next (a.put o.dst v) w'):wpOp P all Q i next a w:=by
 unfold wpOp;simp only[hi];exact SX hr h hn
theorem zaF {o:Oper}:∀(l:List Oper) (i:Nat),Gt n l=true→l[i]? =some o→(match o.dst with|some d=>Nat.blt d n|none=>true)=true:=by
 intro l;induction l with
 |nil=>intro i _ h;simp at h
 | cons o' l ih=>
  intro i h hi;obtain⟨h1,h2⟩:=GJ h;cases i with
  |zero=>
   simp only[EJ,cP]at hi;subst hi;exact h1
  |succ i=>
   simp only[yB]at hi;exact ih i h2 hi
theorem L3:∀{t:Nat} {l:List Nat},t∈l→AF t l=true
 | t,c::l,h=>by
  simp only[AF];cases hb:Nat.beq t c with
  |true=>rfl
  |false=>
   rcases kC.1 h with rfl|h
   ·simp at hb
   ·exact L3 h
theorem Th {all:Array Oper}{o:Oper}(h:Dy P o.op=true)(h1 h2:ai):roG P all ρ o h1=roG P all ρ o h2:=by
 have:roV P ρ o.op h1=roV P ρ o.op h2:=by
  cases ho:o.op with
  | binOp op t x y z=>
   rw[ho]at h;have h:(match PR P t with| .p=>V2 x||V2 y|_=>true)=true:=h;unfold roV;cases he:PR P t with
   |p=>
    rw[he]at h;have h:(V2 x||V2 y)=true:=h;simp only[h]
   |_=>simp only[he]
  |_=>first|rfl|(rename_i m;cases m<;>rfl)|(exfalso;rw[ho]at h;cases h)
 unfold roG;rw[this]
def Ih (ops:Array Oper)(listed:Array Bool):Prop:=
 ∀k o,ops[k]? =some o→listed.getD k false=true→∀e∈o.after,Region.binds .any e=true→listed.getD e.on false=true
theorem Ih.step {ops:Array Oper}{listed:Array Bool}{j:Nat}(h:Ih ops listed)(hj:j∈Region.ready .any ops listed):Ih ops (listed.setIfInBounds j true):=by
 intro k o hk hl e he hb;refine getD_set_true ?_;by_cases hkj:k=j
 ·subst hkj;obtain⟨_,o',ho',hall⟩:=AX.1 hj;rw[hk]at ho';cases ho';exact hall e he hb
 ·exact h k o hk (by rw[←getD_set_ne false (ie hkj)];exact hl) e he hb
theorem L2 {ops:Array Oper}{listed:Array Bool}(h:Ih ops listed){i:Nat}:∀(n k:Nat),tO ops n k i=true→(∀o,ops[k]? =some o→∀e∈o.after,Region.binds .any e=true→listed.getD e.on false=true)→listed.getD i false=true
 |0,k,hp,_=>by simp[tO]at hp
 | n+1,k,hp,hk=>by
  unfold tO at hp;cases ho:ops[k]? with
  |none=>simp[ho]at hp
  |some o=>
   simp only[ho,JZ,dt,sK,ED]at hp;obtain⟨e,he,hb,hp⟩:=hp;have hl:=hk o ho e he hb;rcases hp with rfl|hp
   ·exact hl
   ·exact L2 h n e.on hp λo' ho' e' he' hb'=>h e.on o' ho' hl e' he' hb'
theorem zdk (m e i:Nat):rk (Nat.lor m (Nat.pow 2 e)) i=true→rk m i=true∨i=e:=by
 have hb:∀m t,rk m t=m.testBit t:=by
  intro m t;unfold rk;have h1:Nat.land (Nat.shiftRight m t) 1=(m>>>t)%2:=JY _;rw[h1,UC,Nat.testBit_eq_decide_div_mod_eq];cases h:Nat.beq (m/2^t%2) 1 with
  |true=>simp[AY h]
  |false=>have:¬m/2^t%2=1:=Nat.ne_of_beq_eq_false h;simp[this]
 rw[hb,hb];intro h;have h:(m|||2^e).testBit i=true:=h;rw[Nat.testBit_or,Nat.testBit_two_pow,sK,dH]at h;rcases h with h|h
 ·exact .inl h
 ·exact .inr h.symm
theorem On {ops:Array Oper}{j i:Nat}{o:Oper}(ho:ops[j]? =some o){e:Edge}(he:e∈o.after)(hb:Region.binds .any e=true)(hi:e.on=i):∀(n k:Nat),tO ops n k j=true→∃n,tO ops n k i=true
 |0,k,h=>by simp[tO]at h
 | n+1,k,h=>by
  unfold tO at h;cases hk:ops[k]? with
  |none=>simp[hk]at h
  | some o'=>
   simp only[hk,JZ,dt,sK,ED]at h;obtain⟨e',he',hb',h⟩:=h;have fin:∀m,tO ops m e'.on i=true→∃n,tO ops n k i=true:=λm hm=>⟨m+1,by
    unfold tO;simp only[hk,JZ,dt,sK,ED];exact⟨e',he',hb',.inr hm⟩⟩
   rcases h with h|h
   ·refine fin 1 ?_;unfold tO;rw[h];simp only[ho,JZ,dt,sK,ED];exact⟨e,he,hb,.inl hi⟩
   ·obtain⟨m,hm⟩:=On ho he hb hi n e'.on h;exact fin m hm
theorem Li {i:Nat}:∀(l:List Edge) (m:Nat),rk (WI l m) i=true→rk m i=true∨∃e∈l,Region.binds .any e=true∧e.on=i
 | [],m,h=>.inl h
 | e::l,m,h=>by
  unfold WI at h;rcases Li l _ h with h1|⟨e',h1,h2⟩
  ·cases hb:Region.binds .any e with
   |true=>
    simp only[hb]at h1;rcases zdk _ _ _ h1 with h1|h1
    ·exact .inl h1
    ·exact .inr ⟨e,by simp,hb,h1.symm⟩
   |false=>
    simp only[hb]at h1;exact .inl h1
  ·exact .inr ⟨e',by simp[h1],h2⟩
theorem Xn {ops:Array Oper}{k:Nat}:∀(j m:Nat),(∀i,rk m i=true→∃n,tO ops n k i=true)→∀i,rk (zeV ops j m) i=true→∃n,tO ops n k i=true
 |0,m,H,i,h=>H i h
 | j +1,m,H,i,h=>by
  unfold zeV at h;refine Xn j _ ?_ i h;intro i h;cases hb:rk m j with
  |false=>simp only[hb]at h;exact H i h
  | true=>
   simp only[hb]at h;cases ho:ops[j]? with
   |none=>simp only[ho]at h;exact H i h
   | some o=>
    simp only[ho]at h;rcases Li _ _ h with h|⟨e,h1,h2,h3⟩
    ·exact H i h
    ·obtain⟨n,hn⟩:=H j hb;exact On ho (by simpa using h1) h2 h3 n k hn
theorem VH {ops:Array Oper}{k i:Nat}(h:zb8 ops k i=true):∃n,tO ops n k i=true:=by
 refine Xn ops.size _ ?_ i h;intro i h;cases ho:ops[k]? with
 |none=>
  simp only[ho]at h;simp[rk,UC]at h
 | some o=>
  simp only[ho]at h;rcases Li _ _ h with h|⟨e,h1,h2,h3⟩
  ·have:Nat.land (Nat.shiftRight 0 i) 1=0:=by
    have h1:Nat.land (Nat.shiftRight 0 i) 1=(0>>>i)%2:=JY _;rw[h1,UC];simp
   unfold rk at h;rw[this]at h;cases h
  ·refine⟨1,?_⟩;unfold tO;simp only[ho,JZ,dt,sK,ED];exact⟨e,by simpa using h1,h2,.inl h3⟩
def rB (P:Program)(ops:Array Oper)(Q:Exit→Act→World→Prop)(S:World→Prop)(F:Nat→Bool):Nat→Array Bool→Act→World→Prop
 |0,listed,a,w=>Region.ready .any ops listed=[]∧Q .normal a w
 |fuel+1,listed,a,w=>
  (Region.ready .any ops listed=[]→Q .normal a w)∧
  ∀i∈Region.ready .any ops listed,wpOp P ops Q i (λa' w'=>if F i=true then wpAny P .any ops Q fuel (listed.setIfInBounds i true) a' w' else S w'∧rB P ops Q S F fuel (listed.setIfInBounds i true) a' w') a w
theorem wC {P:Program}{ops:Array Oper}{Q:Exit→Act→World→Prop}{S:World→Prop}{F:Nat→Bool}:∀(fuel:Nat) (listed:Array Bool) (a:Act) (w:World),rB P ops Q S F fuel listed a w→wpAny P .any ops Q fuel listed a w
 |0,_,_,_,h=>h
 | fuel+1,_,_,_,h=>⟨h.1,λi hi=>yx (λa' w' h'=>by
   split at h'
   ·exact h'
   ·exact wC fuel _ a' w' h'.2) (h.2 i hi)⟩
theorem S9 {P:Program}{ops:Array Oper}{Q:Exit→Act→World→Prop}{S:World→Prop}{F:Nat→Bool}{i:Nat}{oi:Oper}{v:Value}(hi:ops[i]? =some oi)(hsel:∀(j:Nat) (o:Oper) cs b,ops[j]? =some o→o.op≠ .select cs b)
  (hQ:∀c a w,Q (.panic c) (a.put oi.dst v) w→Q (.panic c) a w) (hFi:F i=false) (hF:∀k,F k=true→∃n,tO ops n k i=true):
  ∀(fuel:Nat) (listed:Array Bool) (a:Act) (w:World),
   (∀j oj,ops[j]? =some oj→j≠i→listed.getD j true=false→(∀e∈oj.after,Region.binds .any e=true→e.on≠i)→oi.apart ops oj=true)→
   Ih ops listed→i∈Region.ready .any ops listed→YieldsIf P ops S oi v a→S w→
   rB P ops Q S F fuel (listed.setIfInBounds i true) (a.put oi.dst v) w→rB P ops Q S F (fuel+1) listed a w:=by
 have notF:∀{listed:Array Bool} {j:Nat},Ih ops listed→i∈Region.ready .any ops listed→j∈Region.ready .any ops listed→¬F j=true:=by
  intro listed j hc hr hj hfj;obtain⟨n,hn⟩:=hF j hfj;obtain⟨_,oj,hoj,hall⟩:=AX.1 hj;have h1:=L2 hc n j hn λo ho e he hb=>by rw[hoj]at ho;cases ho;exact hall e he hb
  have h0:=(AX.1 hr).1;rcases pT i listed.size with h'|h'
  ·simp[h']at h0 h1;rw[h0]at h1;cases h1
  ·simp[AW h']at h1
 have hnF:¬F i=true:=by rw[hFi];simp
 intro fuel;induction fuel with
 | zero=>
  intro listed a w _ hc hr hy hS H;refine⟨λh=>(by rw[h]at hr;cases hr),λj hj=>?_⟩;by_cases hji:j=i
  ·subst hji;exact hy.wpOp hi hS (by rw[aA hnF];exact⟨hS,H⟩)
  ·have:=AV hj hji;rw[H.1]at this;cases this
 | succ fuel ih=>
  intro listed a w hfree hc hr hy hS H;refine⟨λh=>(by rw[h]at hr;cases hr),λj hj=>?_⟩;by_cases hji:j=i
  ·subst hji;exact hy.wpOp hi hS (by rw[aA hnF];exact⟨hS,H⟩)
  ·have h1:=H.2 j (AV hj hji);have hnFj:=notF hc hr hj;simp only[aA hnFj]at h1 ⊢;obtain⟨hjun,oj,hoj,hall⟩:=AX.1 hj;have hnot:∀e∈oj.after,Region.binds .any e=true→e.on≠i:=λe he hb heq=>by
    have h1:=hall e he hb;have h0:=(AX.1 hr).1;rw[heq]at h1;rcases pT i listed.size with h'|h'
    ·simp[h']at h0 h1;rw[h0]at h1;cases h1
    ·simp[AW h']at h1
   have h2:=wpOp_putIf hoj (hfree j oj hoj hji hjun hnot) (λcs b=>hsel i oi cs b hi) (λcs b=>hsel j oj cs b hoj) hQ hy h1;have hfree':∀k ok,ops[k]? =some ok→k≠i→(listed.setIfInBounds j true).getD k true=false→
     (∀e∈ok.after,Region.binds .any e=true→e.on≠i)→oi.apart ops ok=true:=λk ok hk hki hun hno=>by
    refine hfree k ok hk hki ?_ hno;by_cases hjk:j=k
    ·subst hjk;exact hjun
    ·rw[getD_set_ne true hjk]at hun;exact hun
   refine yx (λa' w' h3=>⟨h3.2.1,ih (listed.setIfInBounds j true) a' w' hfree' (hc.step hj) (AV hr (ie hji)) h3.1 h3.2.1 ?_⟩) h2;rw[UB _ _ hji];exact h3.2.2
theorem QG {P:Program}{ops:Array Oper}{Q:Exit→Act→World→Prop}{S:World→Prop}{F:Nat→Bool}{i:Nat}{oi:Oper}{v:Value}(hi:ops[i]? =some oi)(hsel:∀(j:Nat) (o:Oper) cs b,ops[j]? =some o→o.op≠ .select cs b)
  (hQ:∀c a w,Q (.panic c) (a.put oi.dst v) w→Q (.panic c) a w) (hFi:F i=false):
  ∀(fuel:Nat) (listed:Array Bool) (a:Act) (w:World),
   (∀j oj,ops[j]? =some oj→j≠i→listed.getD j true=false→(∀e∈oj.after,Region.binds .any e=true→e.on≠i)→oi.apart ops oj=true)→
   i∈Region.ready .any ops listed→Yields P ops oi v a→S w→
   rB P ops Q S F fuel (listed.setIfInBounds i true) (a.put oi.dst v) w→rB P ops Q S F (fuel+1) listed a w:=by
 have hnF:¬F i=true:=by rw[hFi];simp
 intro fuel;induction fuel with
 | zero=>
  intro listed a w _ hr hy hS H;refine⟨λh=>(by rw[h]at hr;cases hr),λj hj=>?_⟩;by_cases hji:j=i
  ·subst hji;exact hy.wpOp hi (by rw[aA hnF];exact⟨hS,H⟩)
  ·have:=AV hj hji;rw[H.1]at this;cases this
 | succ fuel ih=>
  intro listed a w hfree hr hy hS H;refine⟨λh=>(by rw[h]at hr;cases hr),λj hj=>?_⟩;by_cases hji:j=i
  ·subst hji;exact hy.wpOp hi (by rw[aA hnF];exact⟨hS,H⟩)
  ·have h1:=H.2 j (AV hj hji);obtain⟨hjun,oj,hoj,hall⟩:=AX.1 hj;have hnot:∀e∈oj.after,Region.binds .any e=true→e.on≠i:=λe he hb heq=>by
    have h1:=hall e he hb;have h0:=(AX.1 hr).1;rw[heq]at h1;rcases pT i listed.size with h'|h'
    ·simp[h']at h0 h1;rw[h0]at h1;cases h1
    ·simp[AW h']at h1
   have h2:=wpOp_put hoj (hfree j oj hoj hji hjun hnot) (λcs b=>hsel i oi cs b hi) (λcs b=>hsel j oj cs b hoj) hQ hy h1;have hfree':∀k ok,ops[k]? =some ok→k≠i→(listed.setIfInBounds j true).getD k true=false→
     (∀e∈ok.after,Region.binds .any e=true→e.on≠i)→oi.apart ops ok=true:=λk ok hk hki hun hno=>by
    refine hfree k ok hk hki ?_ hno;by_cases hjk:j=k
    ·subst hjk;exact hjun
    ·rw[getD_set_ne true hjk]at hun;exact hun
   refine yx (λa' w' h3=>?_) h2;obtain⟨hy',h3⟩:=h3;by_cases hF:F j=true
   ·rw[aB hF]at h3 ⊢;rw[UB _ _ (ie hji)]at h3;exact wpAny_first hi hsel hQ fuel (listed.setIfInBounds j true) a' w' hfree' (AV hr (ie hji)) hy' h3
   ·rw[aA hF]at h3 ⊢;refine⟨h3.1,ih (listed.setIfInBounds j true) a' w' hfree' (AV hr (ie hji)) hy' h3.1 ?_⟩;rw[UB _ _ hji];exact h3.2
theorem LF {P:Program}{ops:Array Oper}{Q:Exit→Act→World→Prop}{S:World→Prop}{F F':Nat→Bool}(hF:∀k,F k=true→F' k=true):∀(fuel:Nat) (listed:Array Bool) (a:Act) (w:World),rB P ops Q S F fuel listed a w→rB P ops Q S F' fuel listed a w
 |0,_,_,_,h=>h
 | fuel+1,_,_,_,h=>⟨h.1,λi hi=>yx (λa' w' h'=>by
   by_cases h1:F i=true
   ·rw[aB h1]at h';rw[aB (hF i h1)];exact h'
   ·rw[aA h1]at h';by_cases h2:F' i=true
    ·rw[aB h2];exact wC fuel _ a' w' h'.2
    ·rw[aA h2];exact⟨h'.1,LF hF fuel _ a' w' h'.2⟩) (h.2 i hi)⟩
theorem U8 {P:Program}{ops:Array Oper}{Q:Exit→Act→World→Prop}{S:World→Prop}{F:Nat→Bool}{listed:Array Bool}{a:Act}{w:World}(h0:Region.ready .any ops listed=[])(hQ:Q .normal a w):∀fuel,rB P ops Q S F fuel listed a w
 |0=>⟨h0,hQ⟩
 |fuel+1=>⟨λ_=>hQ,λi hi=>by rw[h0]at hi;cases hi⟩
theorem Gs {ops:Array Oper}{listed:Array Bool}:∀(t:PT) (gs:List Nat),pH P ops t false gs listed=true→Region.ready .any ops listed≠[]
 | .nil,gs,h=>by simp[pH]at h
 | .op i q t,gs,h=>by
  intro h0;cases q<;>simp[pH,h0]at h
 | .alt x y,gs,h=>by
  simp only[pH,dt,yW]at h;exact Gs x gs h.2.1
theorem kp [mh P]{all:Array Oper}{Q:Ex→Env→ai→Prop}{Q':Exit→Act→World→Prop}{ρ0:Env}{w0:World}(hns:Region.noSelect all=true)(hok:Gt n all.toList=true)
  (hQp:∀c a w,¬Q' (.panic c) a w):∀(plan:PT) (root:Bool) (fs:List Nat) (S:ai→Prop) (listed:Array Bool) (ρ:Env) (a:Act) (w:World) (fuel:Nat),pH P all plan root fs listed=true→yZ plan≤fuel→Ih all listed→Rel n a ρ→(∀t,AF t (all.toList.filterMap (·.dst))=false→ρ t=ρ0 t)→dT w0 w→S w.heap→
  DO P all plan S ρ w.heap (Q .nx)→(∀e a' w',KB n ρ0 (all.toList.filterMap (·.dst)) w0 Q e a' w'→Q' e a' w')→
  (root=true→rB P all Q' (λw=>S w.heap) (λj=>(iN plan).contains j) fuel listed a w)∧
  (root=false→(∀k,(iN plan).contains k=true→fs.contains k=true)→∀i∈Region.ready .any all listed,i∈xp plan→∃fuel',fuel=fuel'+1∧
   wpOp P all Q' i (λa' w'=>if fs.contains i=true then wpAny P .any all Q' fuel' (listed.setIfInBounds i true) a' w' else S w'.heap∧rB P all Q' (λw=>S w.heap) (λj=>fs.contains j) fuel' (listed.setIfInBounds i true) a' w') a w)
 | .nil,root,fs,S,listed,ρ,a,w,fuel,hp,hf,hcl,hr,hρ,hs,hS,h,hQ=>by
  simp only[pH,dt]at hp;refine⟨λ_=>U8 (by simpa using hp.2) (hQ _ _ _ ⟨ρ,hr,hρ,hs,h⟩) fuel,λh0=>?_⟩;rw[h0]at hp;cases hp.1
 | .alt x y,root,fs,S,listed,ρ,a,w,fuel,hp,hf,hcl,hr,hρ,hs,hS,h,hQ=>by
  simp only[pH,dt]at hp;obtain⟨hp0,hp1,hp2⟩:=hp;rw[zbz]at h;have hfx:yZ x≤fuel:=bA (Nat.le_max_left _ _) hf;have hfy:yZ y≤fuel:=bA (Nat.le_max_right _ _) hf;have key:∀gs:List Nat,pH P all x false gs listed=true→pH P all y false gs listed=true→(∀k,(iN x++iN y).contains k=true→gs.contains k=true)→∀i∈Region.ready .any all listed,i∈xp (.alt x y)→∃fuel',fuel=fuel'+1∧
    wpOp P all Q' i (λa' w'=>if gs.contains i=true then wpAny P .any all Q' fuel' (listed.setIfInBounds i true) a' w' else S w'.heap∧rB P all Q' (λw=>S w.heap) (λj=>gs.contains j) fuel' (listed.setIfInBounds i true) a' w') a w:=by
   intro gs g1 g2 g3 i hi hih;rcases gP.1 hih with hih|hih
   ·exact(kp hns hok hQp x false gs S listed ρ a w fuel g1 hfx hcl hr hρ hs hS h.1 hQ).2 rfl (λk hk=>g3 k (by simp at hk ⊢;exact .inl hk)) i hi hih
   ·exact(kp hns hok hQp y false gs S listed ρ a w fuel g2 hfy hcl hr hρ hs hS h.2 hQ).2 rfl (λk hk=>g3 k (by simp at hk ⊢;exact .inr hk)) i hi hih
  refine⟨λh0=>?_,λh0 hk=>?_⟩
  ·subst h0;simp only[uB]at hp0 hp1 hp2;have k2:=key _ hp1 hp2 (λk hk=>hk);have hne:=Gs x _ hp1;cases fuel with
   |zero=>
    obtain⟨i,hi⟩:=List.exists_mem_of_ne_nil _ hne;have:=EI.1 hp0 i hi;obtain⟨fuel',h1,_⟩:=k2 i hi (by simpa[xp]using this);cases h1
   | succ fuel=>
    refine⟨λhnone=>absurd hnone hne,λi hi=>?_⟩
    ·have hih:=EI.1 hp0 i hi;obtain⟨fuel',h1,h2⟩:=k2 i hi (by simpa[xp]using hih);cases h1;exact h2
  ·subst h0;simp only[yW]at hp1 hp2;exact key fs hp1 hp2 (λk hk'=>hk k hk')
 | .op i q plan,root,fs,S,listed,ρ,a,w,fuel,hp,hf,hcl,hr,hρ,hs,hS,h,hQ=>by
  obtain⟨fuel,rfl⟩:∃f,fuel=f+1:=⟨fuel-1,by simp only[yZ]at hf;omega⟩
  have hf':yZ plan≤fuel:=by simp only[yZ]at hf;omega
  simp only[pH,dt]at hp;obtain⟨hp1,hp2⟩:=hp;rw[YK]at h;cases hi:all[i]? with
  |none=>simp[hi]at h
  | some o=>
   simp only[hi]at h;have hd:=zaF (o:=o) all.toList i hok (by simpa using hi);have hρ':∀v t,AF t (all.toList.filterMap (·.dst))=false→up ρ o.dst v t=ρ0 t:=by
    intro v t ht;rw[←hρ t ht];cases hdst:o.dst with
    |none=>rfl
    | some d=>
     simp only[up];cases hb:Nat.beq t d with
     |false=>rfl
     |true=>
      have htd:=AY hb;subst htd;rw[L3 (List.mem_filterMap.2 ⟨o,vI (i:=i) (by simpa using hi),hdst⟩)]at ht;cases ht
   cases q with
   | r =>
    simp only[dt]at hp1;obtain⟨hroot,⟨hfree,hready⟩,hnext⟩:=hp1;refine⟨λ_=>?_,λh0=>by rw[hroot]at h0;cases h0⟩;have hin:i∈Region.ready .any all listed:=by simpa using hready
    simp only at h;have hall:∀k,(iN plan).contains k=true→¬k=i∧(XN P all i=true∨zb8 all k i=true):=by
     intro k hk;have:=EI.1 hnext k (by simpa using hk);simpa using this
    have hFi:(iN plan).contains i=false:=by
     rw[J0];intro hc;exact(hall i hc).1 rfl
    cases hl:Dy P o.op with
    |false=>
     simp only[hl]at h;obtain⟨v,hv,hK⟩:=h;have ih:=(kp hns hok hQp plan true [] S _ _ _ w fuel hp2 hf' (hcl.step hin) (hr.put hd v) (hρ' v) hs hS hK hQ).1 rfl;refine S9 (F:=λj=>(iN plan).contains j) hi (Region.noSelect_spec hns) (λc a w hq=>absurd hq (hQp _ _ _)) hFi ?_ fuel listed a w (Region.free_spec hi hfree) hcl hin (LD hr hS hv) hS ih;intro k hk;rcases(hall k hk).2 with h1|h1
     ·simp[XN,hi,hl]at h1
     ·exact VH h1
    | true=>
     simp only[hl]at h;have h:=zbS h;cases hg:roG P all ρ o w.heap with
     |none=>rw[hg]at h;exact h.elim
     | some r=>
      rw[hg]at h;simp only[vK]at h;split at h
      ·rename_i v;have ih:=(kp hns hok hQp plan true [] S _ _ _ w fuel hp2 hf' (hcl.step hin) (hr.put hd v) (hρ' v) hs hS h hQ).1 rfl;have hyI:=LD (all:=all) (S:=λ_=>True) (v:=v) (h0:=w.heap) hr trivial (λh' _=>by rw[Th hl h' w.heap,hg]);have hy:Yields P all o v a:=hyI.imp (λ⟨g1,g2⟩=>⟨g1,λw=>g2 w trivial⟩) id;exact QG (F:=λj=>(iN plan).contains j) hi (Region.noSelect_spec hns) (λc a w hq=>absurd hq (hQp _ _ _)) hFi fuel listed a w (Region.free_spec hi hfree) hin hy hS ih
      ·exact h.elim
   | e=>
    simp only[dt,Kc]at hp1;obtain⟨hready,hnext⟩:=hp1;have step:∀gs:List Nat,gs.contains i=false→(∀k,(iN plan).contains k=true→gs.contains k=true)→i∈Region.ready .any all listed→
      wpOp P all Q' i (λa' w'=>if gs.contains i=true then wpAny P .any all Q' fuel (listed.setIfInBounds i true) a' w' else S w'.heap∧rB P all Q' (λw=>S w.heap) (λj=>gs.contains j) fuel (listed.setIfInBounds i true) a' w') a w:=by
     intro gs hg hsub hin;refine Cg hi hr h λv w' hs' hK=>?_
     refine Eq.mpr (aA (by rw[hg];exact Bool.false_ne_true)) ?_;exact⟨hK.1,LF hsub _ _ _ _ ((kp hns hok hQp plan true [] S _ _ _ w' fuel hp2 hf' (hcl.step hin) (hr.put hd v) (hρ' v) (hs.trans hs') hK.1 hK.2 hQ).1 rfl)⟩
    refine⟨λh0=>?_,λh0 hsub j hj hjh=>?_⟩
    ·subst h0;simp only[uB]at hready hnext;have hready:Region.ready .any all listed=[i]:=by simpa using hready
     refine⟨λh0=>(by rw[h0]at hready;cases hready),λj hj=>?_⟩;obtain rfl:j=i:=by rw[hready]at hj;simpa using hj
     exact step (iN plan) hnext (λk hk=>hk) hj
    ·subst h0;obtain rfl:j=i:=by simpa[xp]using hjh
     simp only[yW]at hnext;exact⟨fuel,rfl,step fs hnext hsub hj⟩
   | f=>
    have step:i∈Region.ready .any all listed→wpOp P all Q' i (λa' w'=>wpAny P .any all Q' fuel (listed.setIfInBounds i true) a' w') a w:=by
     intro hin;refine Cg hi hr h λv w' hs' hK=>?_
     obtain⟨S',hS',hK⟩:=hK;exact wC _ _ _ _ ((kp hns hok hQp plan true [] S' _ _ _ w' fuel hp2 hf' (hcl.step hin) (hr.put hd v) (hρ' v) (hs.trans hs') hS' hK hQ).1 rfl)
    refine⟨λh0=>?_,λh0 hsub j hj hjh=>?_⟩
    ·subst h0;have hready:Region.ready .any all listed=[i]:=by simpa using hp1
     refine⟨λh0=>(by rw[h0]at hready;cases hready),λj hj=>?_⟩;obtain rfl:j=i:=by rw[hready]at hj;simpa using hj
     exact yx (λa' w' h'=>Eq.mpr (aB (by simp[iN])) h') (step hj)
    ·obtain rfl:j=i:=by simpa[xp]using hjh
     exact⟨fuel,rfl,yx (λa' w' h'=>Eq.mpr (aB (hsub j (by simp[iN]))) h') (step hj)⟩
   | n=>
    have step:i∈Region.ready .any all listed→wpOp P all Q' i (λa' w'=>wpAny P .any all Q' fuel (listed.setIfInBounds i true) a' w') a w:=by
     intro hin;refine Cg hi hr h λv w' hs' hK=>?_
     exact wC _ _ _ _ ((kp hns hok hQp plan true [] (λ_=>True) _ _ _ w' fuel hp2 hf' (hcl.step hin) (hr.put hd v) (hρ' v) (hs.trans hs') trivial hK hQ).1 rfl)
    refine⟨λh0=>?_,λh0 hsub j hj hjh=>?_⟩
    ·subst h0;have hready:Region.ready .any all listed=[i]:=by simpa using hp1
     refine⟨λh0=>(by rw[h0]at hready;cases hready),λj hj=>?_⟩;obtain rfl:j=i:=by rw[hready]at hj;simpa using hj
     exact yx (λa' w' h'=>Eq.mpr (aB (by simp[iN])) h') (step hj)
    ·obtain rfl:j=i:=by simpa[xp]using hjh
     exact⟨fuel,rfl,yx (λa' w' h'=>Eq.mpr (aB (hsub j (by simp[iN]))) h') (step hj)⟩
theorem xP {ws:Nat}:∀{l:List Nat},Ej ws l=true→∀{t:Nat},rk ws t=false→AF t l=false
 | [],_,_,_=>rfl
 | c::l,h,t,ht=>by
  simp only[Ej,dt]at h;simp only[AF];cases hb:Nat.beq t c with
  |true=>
   have:=AY hb;subst this;rw[h.1]at ht;cases ht
  |false=>exact xP h.2 ht
theorem Hm {ρ ρ':Env}{ws:Nat}{cs:List Nat}(h:∀t,rk ws t=false→ρ' t=ρ t):PG ρ ρ' ws cs (cs.map ρ')=ρ':=by
 funext t
 have key:∀(cs:List Nat) (k:Nat),match R8 t k cs with|some i=>k≤i∧cs[i-k]? =some t|none=>True:=by
  intro cs;induction cs with
  |nil=>intro k;simp[R8]
  | cons c cs ih=>
   intro k;simp only[R8];cases hb:Nat.beq t c with
   |true=>have:=AY hb;subst this;simp
   | false=>
    simp only[yW];have:=ih (k+1);split
    ·rename_i i hi;rw[hi]at this;refine⟨by omega,?_⟩;rw[show i-k=(i-(k+1))+1 from by omega];simpa using this.2
    ·trivial
 have k0:=key cs 0;unfold PG;cases hp:R8 t 0 cs with
 |some i=>
  rw[hp]at k0;simp only;have:cs[i]? =some t:=by simpa using k0.2
  unfold ix;rw[dr,vH,this];rfl
 |none=>
  simp only;cases hm:rk ws t with
  |true=>rfl
  |false=>exact(h t hm).symm
theorem Xj [mh P](hm:P.follows .mixedOrders=true):∀(c:Code) (an:Ann) (ρ:Env) (a:Act) (w:World) (Q:Ex→Env→ai→Prop),hG P n c an=true→Rel n a ρ→SY P c an ρ w.heap Q→
  c.wp P (KB n ρ (iA c) w Q) a w:=by
 intro c;induction c with
 |skip=>intro an ρ a w Q _ hr h;exact wp_skip ⟨ρ,hr,λ_ _=>rfl,dT.refl w,h⟩
 |exit id=>intro an ρ a w Q _ hr h;exact wp_exit ⟨ρ,hr,λ_ _=>rfl,dT.refl w,h⟩
 |ret=>intro an ρ a w Q _ hr h;exact wp_ret ⟨ρ,hr,λ_ _=>rfl,dT.refl w,h⟩
 | region id ops draw=>
  intro an ρ a w Q hok hr h;have hops:Gt n ops.toList=true:=by simp only[hG,dt]at hok;exact hok.1
  have seqCase:zdi P ops ops.toList ρ w.heap (Q .nx)→(Code.region id ops false).wp P (KB n ρ (iA (.region id ops false)) w Q) a w:=by
   intro h;refine wp_region ?_;have:=Qq (Q:=Q) (Q':=KB n ρ (ops.toList.filterMap (·.dst)) w Q) ops.toList 0 ρ a w (by simp) hops hr h (λ_ _ _ h=>h);rw[UA];have e:wpOps P ops (KB n ρ (ops.toList.filterMap (·.dst)) w Q) (List.range' 0 ops.size) a w:=by simpa using this
   exact e
  have roCase:Region.lexB .any ops=true→zah P ops ops.toList ρ w.heap (Q .nx)→(Code.region id ops true).wp P (KB n ρ (iA (.region id ops true)) w Q) a w:=by
   intro hl h;refine wp_region_quiet (C:=λw'=>dT w w'∧w'.heap=w.heap) hm hl ⟨NZ w,rfl⟩ ?_;refine Mn (C:=λw'=>dT w w'∧w'.heap=w.heap) (λw' h=>h.2) ops.toList ρ a hops hr h λa' ρ2 g1 g2 g3 w' hw'=>?_
   exact⟨ρ2,g1,g2,hw'.1,by simp only[hw'.2];exact g3⟩
  have other:(∀plan,an≠ .d plan)→(Code.region id ops draw).wp P (KB n ρ (iA (.region id ops draw)) w Q) a w:=by
   intro hne;cases draw with
   |false=>cases an<;>first|exact absurd rfl (hne _)|exact seqCase h
   |true=>cases an<;>first|exact absurd rfl (hne _)|exact roCase (by simp only[hG,dt]at hok;exact hok.2) h
  by_cases hd:∃plan,an=.d plan
  ·obtain⟨plan,rfl⟩:=hd;simp only[hG,dt]at hok;obtain⟨_,⟨⟨h1,h2⟩,h3⟩,h4⟩:=hok;subst h1;obtain⟨S,hS,h⟩:=h;refine wp_region_any hm ?_;have:=kp (P:=P) (Q:=Q) (Q':=KB n ρ (ops.toList.filterMap (·.dst)) w Q) (ρ0:=ρ) (w0:=w) h2 hops (λc a w hq=>by obtain⟨_,_,_,_,hf⟩:=hq;exact hf)
    plan true [] S (Array.replicate ops.size false) ρ a {w with drawn:=w.drawn+1} ops.size h4 (Nat.le_of_ble_eq_true h3) (λk o hk hl=>by simp[ZE]at hl;split at hl<;>simp at hl) hr (λ_ _=>rfl) (NZ w) hS h (λ_ _ _ h=>h)
   exact wC _ _ _ _ (this.1 rfl)
  ·exact other (λplan he=>hd ⟨plan,he⟩)
 | seq x y ihx ihy=>
  intro an ρ a w Q hok hr h;have lift:∀{ρ1:Env} {w1:World} (_:∀t,AF t (iA x)=false→ρ1 t=ρ t) (_:dT w w1) (e:Exit) (a2:Act) (w2:World),KB n ρ1 (iA y) w1 Q e a2 w2→KB n ρ (iA (.seq x y)) w Q e a2 w2:=by
   intro ρ1 w1 h1 h2 e a2 w2 ⟨ρ2,g1,g2,g3,g4⟩;refine⟨ρ2,g1,λt ht=>?_,h2.trans g3,g4⟩;simp only[iA,tZ,Nn]at ht;rw[g2 t ht.2,h1 t ht.1]
  have liftx:∀(e:Exit) (a2:Act) (w2:World),KB n ρ (iA x) w Q e a2 w2→KB n ρ (iA (.seq x y)) w Q e a2 w2:=by
   intro e a2 w2 ⟨ρ2,g1,g2,g3,g4⟩;refine⟨ρ2,g1,λt ht=>?_,g3,g4⟩;simp only[iA,tZ,Nn]at ht;exact g2 t ht.1
  cases an with
  |s p q=>
   simp only[hG,dt]at hok;refine wp_seq (sJ (ihx p ρ a w _ hok.1 hr h) ?_);intro e a1 w1 ⟨ρ1,g1,g2,g3,g4⟩;cases e with
   |normal=>exact sJ (ihy q ρ1 a1 w1 Q hok.2 g1 g4) (lift g2 g3)
   |exit id=>exact liftx (.exit id) a1 w1 ⟨ρ1,g1,g2,g3,g4⟩
   |ret=>exact liftx .ret a1 w1 ⟨ρ1,g1,g2,g3,g4⟩
   |_=>exact g4.elim
  | j ws cs p q=>
   simp only[hG,dt]at hok;obtain⟨hws,hok⟩:=hok;obtain⟨J,h1,h2⟩:=h;refine wp_seq (sJ (ihx p ρ a w _ hok.1 hr h1) ?_);intro e a1 w1 ⟨ρ1,g1,g2,g3,g4⟩;cases e with
   |normal=>
    have this:SY P y q (PG ρ ρ1 ws cs (cs.map ρ1)) w1.heap Q:=h2 (cs.map ρ1) ρ1 w1.heap g4;rw[Hm (λt ht=>g2 t (xP hws ht))]at this;exact sJ (ihy q ρ1 a1 w1 Q hok.2 g1 this) (lift g2 g3)
   |exit id=>exact liftx (.exit id) a1 w1 ⟨ρ1,g1,g2,g3,g4⟩
   |ret=>exact liftx .ret a1 w1 ⟨ρ1,g1,g2,g3,g4⟩
   |_=>exact g4.elim
  |_=>simp[hG]at hok
 | cond c x y ihx ihy=>
  intro an ρ a w Q hok hr h;cases an with
  | s p q=>
   simp only[hG,dt]at hok;have h:aG (ev ρ c) (SY P x p ρ w.heap Q) (SY P y q ρ w.heap Q):=h;unfold aG at h;split at h
   ·rename_i b hb;refine wp_cond (t:=b) (by rw[hr.eval];exact hb) ?_;cases b with
    |true=>
     refine sJ (ihx p ρ a w Q hok.1 hr h) ?_;intro e a2 w2 ⟨ρ2,g1,g2,g3,g4⟩;refine⟨ρ2,g1,λt ht=>?_,g3,g4⟩;simp only[iA,tZ,Nn]at ht;exact g2 t ht.1
    |false=>
     refine sJ (ihy q ρ a w Q hok.2 hr h) ?_;intro e a2 w2 ⟨ρ2,g1,g2,g3,g4⟩;refine⟨ρ2,g1,λt ht=>?_,g3,g4⟩;simp only[iA,tZ,Nn]at ht;exact g2 t ht.2
   ·exact h.elim
  |_=>simp[hG]at hok
 | block id x ih=>
  intro an ρ a w Q hok hr h;have plain:∀an',hG P n x an'=true→SY P x an' ρ w.heap (λe ρ h=>match e with
   | .nx=>Q .nx ρ h
   | .br n=>bif Nat.beq n id then Q .nx ρ h else Q (.br n) ρ h
   | .rt=>Q .rt ρ h)→(Code.block id x).wp P (KB n ρ (iA (.block id x)) w Q) a w:=by
   intro an' hok h;refine wp_block (sJ (ih an' ρ a w _ hok hr h) ?_);intro e a1 w1 ⟨ρ1,g1,g2,g3,g4⟩;cases e with
   |normal=>exact⟨ρ1,g1,g2,g3,g4⟩
   | exit id'=>
    simp only[Exit.inBlock];simp only at g4;by_cases hid:id'=id
    ·subst hid;rw[aB rfl];simp only[Nat.beq_refl]at g4;exact⟨ρ1,g1,g2,g3,g4⟩
    ·rw[aA hid];have hb:Nat.beq id' id=false:=by rw[J0];intro hb;exact hid (AY hb)
     simp only[hb]at g4;exact⟨ρ1,g1,g2,g3,g4⟩
   |ret=>exact⟨ρ1,g1,g2,g3,g4⟩
   |_=>exact g4.elim
  cases an with
  | m ws cs p=>
   simp only[hG,dt]at hok;obtain⟨hws,hok⟩:=hok;obtain⟨J,h1,h2⟩:=h;refine wp_block (sJ (ih p ρ a w _ hok hr h1) ?_);intro e a1 w1 ⟨ρ1,g1,g2,g3,g4⟩;have meet:J (cs.map ρ1) w1.heap→Q .nx ρ1 w1.heap:=by
    intro hJ;have this:Q .nx (PG ρ ρ1 ws cs (cs.map ρ1)) w1.heap:=h2 (cs.map ρ1) ρ1 w1.heap hJ
    rwa [Hm (λt ht=>g2 t (xP hws ht))]at this
   cases e with
   |normal=>exact⟨ρ1,g1,g2,g3,meet g4⟩
   | exit id'=>
    simp only[Exit.inBlock];simp only at g4;by_cases hid:id'=id
    ·subst hid;rw[aB rfl];simp only[Nat.beq_refl]at g4;exact⟨ρ1,g1,g2,g3,meet g4⟩
    ·rw[aA hid];have hb:Nat.beq id' id=false:=by rw[J0];intro hb;exact hid (AY hb)
     simp only[hb]at g4;exact⟨ρ1,g1,g2,g3,g4⟩
   |ret=>exact⟨ρ1,g1,g2,g3,g4⟩
   |_=>exact g4.elim
  |_=>exact plain _ hok h
 | loop x ih=>
  intro an ρ a w Q hok hr h;cases an with
  | l ws cs p=>
   simp only[hG,dt]at hok;obtain⟨hws,hok⟩:=hok;obtain⟨I,m,h0,h1⟩:=h
   let val:Act→Nat→Value:=λa t=>a.tmps.getD t undef
   refine wp_loop (λa' w'=>Rel n a' (val a')∧(∀t,AF t (iA x)=false→val a' t=ρ t)∧dT w w'∧I (cs.map (val a')) w'.heap) (λa' w'=>m (cs.map (val a')) w'.heap) ?_ ?_
   ·have e:val a=ρ:=funext hr.2.2;rw[e];exact⟨hr,λ_ _=>rfl,dT.refl w,h0⟩
   ·intro a' w' ⟨i1,i2,i3,i4⟩;have hb:=h1 (cs.map (val a')) (val a') w'.heap i4;simp only at hb;rw[Hm (λt ht=>i2 t (xP hws ht))]at hb;refine sJ (ih p (val a') a' w' _ hok i1 hb) ?_;intro e a2 w2 ⟨ρ2,g1,g2,g3,g4⟩;have e2:val a2=ρ2:=funext g1.2.2;cases e with
    |normal=>
     simp only[Exit.then];rw[e2];exact⟨⟨g1,λt ht=>by rw[g2 t ht,i2 t ht],i3.trans g3,g4.1⟩,g4.2⟩
    |exit id=>exact⟨ρ2,g1,λt ht=>by rw[g2 t ht,i2 t ht],i3.trans g3,g4⟩
    |ret=>exact⟨ρ2,g1,λt ht=>by rw[g2 t ht,i2 t ht],i3.trans g3,g4⟩
    |_=>exact g4.elim
  |_=>simp[hG]at hok
 |_=>intro an ρ a w Q hok hr h;simp[hG]at hok
end
noncomputable def Mr (P:Program)(rs:List ResultVar):List Value→Env→ai→(Value→ai→Prop)→Prop:=
 List.rec (motive:=λ_=>List Value→Env→ai→(Value→ai→Prop)→Prop)
  (λacc _ h R=>R (match acc with| [v]=>v|l=>.tuple l.reverse.toArray) h)
  (λr _ ih acc ρ h R=>match r with
   | .tmp t=>ih (ρ t::acc) ρ h R
   | .cell a t=>match Bz P t with
    |some false=>vK (ldV h (ρ a)) λv=>ih (v::acc) ρ h R
    |some true=>match fP P t with
     |some n=>vK (aM n h (ρ a)) λv=>ih (v::acc) ρ h R
     |none=>False
    |none=>False) rs
theorem zbU {P:Program}{acc:List Value}{ρ:Env}{h:ai}{R:Value→ai→Prop}:Mr P [] acc ρ h R=R (match acc with| [v]=>v|l=>.tuple l.reverse.toArray) h:=rfl
theorem zbT {P:Program}{t:Tmp}{rs:List ResultVar}{acc:List Value}{ρ:Env}{h:ai}{R:Value→ai→Prop}:Mr P (.tmp t::rs) acc ρ h R=Mr P rs (ρ t::acc) ρ h R:=rfl
theorem zaB {P:Program}{a:Tmp}{t:TypeId}{rs:List ResultVar}{acc:List Value}{ρ:Env}{h:ai}{R:Value→ai→Prop}:Mr P (.cell a t::rs) acc ρ h R=match Bz P t with
  |some false=>vK (ldV h (ρ a)) λv=>Mr P rs (v::acc) ρ h R
  |some true=>match fP P t with
   |some n=>vK (aM n h (ρ a)) λv=>Mr P rs (v::acc) ρ h R
   |none=>False
  |none=>False:=rfl
def zcH (args:List Value):Env:=λt=>args.getD t undef
noncomputable def ze7 (P:Program)(c:Code)(an:Ann)(rs:List ResultVar)(args:List Value)(h:ai)(R:Value→ai→Prop):Prop:=
 SY P c an (zcH args) h λe ρ h=>match e with
  | .nx=>Mr P rs [] ρ h R
  | .rt=>Mr P rs [] ρ h R
  | .br _=>False
theorem C4 {P:Program} {w:World} {R:Value→ai→Prop} {tmps:Array Value}:∀(rs:List ResultVar) (acc:List Value),Mr P rs acc (λt=>tmps.getD t undef) w.heap R→
  ∃l,(rs.mapM (λ| .tmp t=>pure (tmps.getD t undef)| .cell a t=>do loadVar t (←asAddr (tmps.getD a undef)):ResultVar→Sem Value)).run P w=.ok l w∧R (match l.reverse++acc with| [v]=>v|l=>.tuple l.reverse.toArray) w.heap
 | [],acc,h=>⟨[],rfl,by rw[zbU]at h;simpa using h⟩
 | .tmp t::rs,acc,h=>by
  rw[zbT]at h;obtain⟨l,h1,h2⟩:=C4 rs (tmps.getD t undef::acc) h;refine⟨tmps.getD t undef::l,?_,by simpa using h2⟩;simp only[Ka,co,cZ,bU,h1]
 | .cell a t::rs,acc,h=>by
  rw[zaB]at h;cases hta:Bz P t with
  |none=>simp[hta]at h
  | some b=>
   simp only[hta]at h;have key:∀v,(∃ad,tmps.getD a undef=.pointer (some ad)∧(loadVar t ad).run P w=.ok v w)→Mr P rs (v::acc) (λt=>tmps.getD t undef) w.heap R→∃l,((ResultVar.cell a t::rs).mapM (λ| .tmp t=>pure (tmps.getD t undef)| .cell a t=>do loadVar t (←asAddr (tmps.getD a undef)):ResultVar→Sem Value)).run P w=.ok l w∧R (match l.reverse++acc with| [v]=>v|l=>.tuple l.reverse.toArray) w.heap:=by
    intro v ⟨ad,hp,hl⟩ h;obtain⟨l,h1,h2⟩:=C4 rs (v::acc) h;refine⟨v::l,?_,by simpa using h2⟩;have has:(asAddr (tmps.getD a undef)).run P w=.ok ad w:=by rw[hp];rfl
    simp only[Ka,co,cZ,bU,has,hl,h1]
   cases b with
   | false=>
    simp only at h;unfold vK at h;split at h
    ·rename_i v hv;refine key v ?_ h;unfold ldV at hv;split at hv
     ·rename_i ad hp;exact⟨ad,hp,BU hta hv⟩
     ·cases hv
    ·exact h.elim
   | true=>
    simp only at h;cases hs:fP P t with
    |none=>simp[hs]at h
    | some n=>
     simp only[hs]at h;unfold vK at h;split at h
     ·rename_i v hv;refine key v ?_ h;unfold aM at hv;split at hv
      ·rename_i ad hp;cases hl:fu w.heap ad 0 n with
       |none=>simp[hl]at hv
       |some l=>
        simp only[hl,cU,cP]at hv;subst hv;exact⟨ad,hp,BV hta hs hl⟩
      ·cases hv
     ·exact h.elim
theorem XH {P:Program}{ρ:Env}{w:World}{R:Value→ai→Prop}{fn:Func}{tmps:Array Value}(ht:∀t,tmps.getD t undef=ρ t)(h:Mr P fn.results.toList [] ρ w.heap R):
  ∃v,(results fn tmps).run P w=.ok v w∧R v w.heap:=by
 obtain rfl:ρ=λt=>tmps.getD t undef:=funext λt=>(ht t).symm
 obtain⟨l,h1,h2⟩:=C4 _ [] h;have e:(fn.results.mapM (λ| .tmp t=>pure (tmps.getD t undef)| .cell a t=>do loadVar t (←asAddr (tmps.getD a undef)):ResultVar→Sem Value)).run P w=.ok l.toArray w:=by
  rw[ZG,Nq,h1];rfl
 have hres:results fn tmps=(do
  let vs←fn.results.mapM (λ| .tmp t=>pure (tmps.getD t undef)| .cell a t=>do loadVar t (←asAddr (tmps.getD a undef)):ResultVar→Sem Value)
  pure (if h:vs.size=1 then vs[0]else .tuple vs)):=rfl
 rw[hres];simp only[co];rw[e];simp only[bU,cZ];refine⟨_,rfl,?_⟩;cases l with
 |nil=>simpa using h2
 | cons v l=>
  cases l with
  |nil=>simpa using h2
  | cons u l=>
   have:¬((v::u::l).toArray.size=1):=by simp
   rw[dif_neg this];simp only[iC]at h2;split at h2
   ·rename_i hh;have:=congrArg List.length hh;simp at this
   ·simpa using h2
theorem zcG {P:Program}[mh P](hm:P.follows .mixedOrders=true){f:FuncId}{fn:Func}{c:Code}{an:Ann}(hf:P.funcs[f]? =some fn)(hb:fn.body=some c)(hc:tS P f=true)
  (hok:hG P fn.ntmps c an=true) {args:Array Value} (ha:Nat.ble args.size fn.ntmps=true) {h:ai} {R:Value→ai→Prop} (H:ze7 P c an fn.results.toList args.toList h R):ag P f args h R:=by
 refine ag.ofCalls hc λw hw=>?_
 subst hw;have ha':args.size≤fn.ntmps:=by simpa using ha
 have hr:Rel fn.ntmps {tmps:=args++Array.replicate (fn.ntmps-args.size) undef,defers:=[]} (zcH args.toList):=by
  refine⟨by simp;omega,rfl,λt=>?_⟩;simp only[zcH,UD,dr,Array.getElem?_append,vJ];split
  ·rfl
  ·rw[ZE,AW (by omega)];split<;>rfl
 refine calls_of_wp hf hb (sJ (Xj hm c an _ _ w _ hok hr H) ?_);intro e a' w' ⟨ρ2,g1,_,g3,g4⟩;have fin:Mr P fn.results.toList [] ρ2 w'.heap R→a'.defers=[]∧∃v,(results fn a'.tmps).run P w'=.ok v w'∧∃u,Ending.returned v=.returned u∧dT w w'∧R u w'.heap:=by
  intro hret;obtain⟨v,h1,h2⟩:=XH g1.2.2 hret;exact⟨g1.2.1,v,h1,v,rfl,g3,h2⟩
 cases e with
 |normal=>exact fin g4
 |ret=>exact fin g4
 |exit id=>exact g4.elim
 |_=>exact g4.elim
def fkB (P:Program)(f:FuncId)(fn:Func)(an:Ann)(n:Nat):Bool:=P.follows .mixedOrders&&(fn.body.isSome&&(tS P f&&(hG P fn.ntmps (fn.body.getD .skip) an&&Nat.ble n fn.ntmps)))
theorem fk {P:Program}[mh P](fn:Func)(an:Ann){f:FuncId}{args:Array Value}{h:ai}{R:Value→ai→Prop}{X:Prop}(H:X)
  (hf:P.funcs[f]? =some fn:=by kernel_rfl) (hb:fkB P f fn an args.size=true:=by kernel_rfl) (e:X=ze7 P (fn.body.getD .skip) an fn.results.toList args.toList h R:=by kernel_rfl):ag P f args h R:=by
 unfold fkB at hb;simp only[dt]at hb;obtain⟨h1,h2,h3,h4,h5⟩:=hb;obtain⟨c,hc⟩:=Option.isSome_iff_exists.1 h2;rw[hc,Option.getD_some]at h4 e;exact zcG h1 hf hc h3 h4 h5 (e.mp H)
end
end Go.Crisp
namespace Go.Crisp
open Go
theorem ah (v:Value)(K:Value→Prop):vK (some v) K=K v:=de rfl rfl
theorem KF (r:Option (Array Value))(c:Array Value)(h:r=some c)(K:Value→Prop):vK (r.map .agg) K=K (.agg c):=by rw[h];rfl
theorem fK (x y:Prop):aG (.bool true) x y=x:=de rfl rfl
theorem cg (x y:Prop):aG (.bool false) x y=y:=de rfl rfl
theorem iQ {b:Bool}{x y:Prop}(h1:b=true→x)(A:b=false→y):aG (.bool b) x y:=by
 cases b
 ·exact A rfl
 ·exact h1 rfl
theorem aq {p:Prop}[Decidable p]{x y:Prop}(h1:p→x)(A:¬p→y):aG (.bool (decide p)) x y:=
 iQ (λh=>h1 (AU h)) (λh=>A (of_decide_eq_false h))
theorem EP (r:Option Value):gV (.bool true) true r=r:=de rfl rfl
theorem db (r:Option Value):gV (.bool false) false r=r:=de rfl rfl
theorem gV_tf (r:Option Value):gV (.bool true) false r=some undef:=de rfl rfl
theorem ze3 (r:Option Value):gV (.bool false) true r=some undef:=de rfl rfl
theorem zfs (w:Bool)(r:Option Value):gV undef w r=some undef:=de rfl rfl
theorem zef (m:(Value→ai→Prop)→Prop)(h:ai)(K:Value→ai→Prop):gK (.bool true) true m h K=m K:=de rfl rfl
theorem mc (m:(Value→ai→Prop)→Prop)(h:ai)(K:Value→ai→Prop):gK (.bool false) false m h K=m K:=de rfl rfl
theorem gK_tf (m:(Value→ai→Prop)→Prop)(h:ai)(K:Value→ai→Prop):gK (.bool true) false m h K=K undef h:=de rfl rfl
theorem gK_ft (m:(Value→ai→Prop)→Prop)(h:ai)(K:Value→ai→Prop):gK (.bool false) true m h K=K undef h:=de rfl rfl
theorem zfy (w:Bool)(m:(Value→ai→Prop)→Prop)(h:ai)(K:Value→ai→Prop):gK undef w m h K=K undef h:=de rfl rfl
theorem Ol (x y:Value):aH (.bool true) x y=some x:=de rfl rfl
theorem ji (x y:Value):aH (.bool false) x y=some y:=de rfl rfl
theorem iq (a:Value)(l:List Value):ix (a::l) 0=a:=de rfl rfl
theorem vN (a b:Value)(l:List Value):ix (a::b::l) 1=b:=de rfl rfl
theorem zck (a b c:Value)(l:List Value):ix (a::b::c::l) 2=c:=de rfl rfl
theorem zfp (a b c d:Value)(l:List Value):ix (a::b::c::d::l) 3=d:=de rfl rfl
theorem ix_4 (a b c d e:Value)(l:List Value):ix (a::b::c::d::e::l) 4=e:=de rfl rfl
theorem ix_5 (a b c d e f:Value)(l:List Value):ix (a::b::c::d::e::f::l) 5=f:=de rfl rfl
theorem dD (e:EK)(k:IntKind)(a b:Int):ak e .add (.int k a) (.int k b)=some (.int k (k.wrap (a+b))):=by simp[ak,Kk]
theorem iR (e:EK)(k:IntKind)(a b:Int):ak e .sub (.int k a) (.int k b)=some (.int k (k.wrap (a-b))):=by simp[ak,Kk]
theorem nE (e:EK)(k:IntKind)(a b:Int):ak e .mul (.int k a) (.int k b)=some (.int k (k.wrap (a*b))):=by simp[ak,Kk]
theorem nD (e:EK)(k:IntKind)(a b:Int)(h:b≠0):ak e .quo (.int k a) (.int k b)=some (.int k (k.wrap (a.tdiv b))):=by simp[ak,Kk,h]
theorem dS (e:EK)(k:IntKind)(a b:Int)(h:b≠0):ak e .rem (.int k a) (.int k b)=some (.int k (a.tmod b)):=by simp[ak,Kk,h]
theorem cI (e:EK)(k:IntKind)(a b:Int):ak e .lss (.int k a) (.int k b)=some (.bool (decide (a<b))):=by simp[ak,Kk]
theorem Ky (e:EK)(k:IntKind)(a b:Int):ak e .leq (.int k a) (.int k b)=some (.bool (decide (a≤b))):=by simp[ak,Kk]
theorem xv (e:EK)(k:IntKind)(a b:Int):ak e .gtr (.int k a) (.int k b)=some (.bool (decide (b<a))):=by simp[ak,Kk]
theorem Qt (e:EK)(k:IntKind)(a b:Int):ak e .geq (.int k a) (.int k b)=some (.bool (decide (b≤a))):=by simp[ak,Kk]
theorem mf (e:EK)(k:IntKind)(a b:Int):ak e .eql (.int k a) (.int k b)=some (.bool (decide (a=b))):=by
 simp[ak,Kk];rw[Bool.eq_iff_iff];simp
theorem me (e:EK)(k:IntKind)(a b:Int):ak e .neq (.int k a) (.int k b)=some (.bool (!decide (a=b))):=by
 simp[ak,Kk];rw[Bool.eq_iff_iff];simp
theorem zdm (a b:Bool):ak .b .eql (.bool a) (.bool b)=some (.bool (a==b)):=de rfl rfl
theorem zdl (a b:Bool):ak .b .neq (.bool a) (.bool b)=some (.bool !(a==b)):=de rfl rfl
theorem YS (b:Bool):unV .not (.bool b)=some (.bool !b):=de rfl rfl
theorem zdA (k:IntKind)(a:Int):unV .neg (.int k a)=some (.int k (k.wrap (0-a))):=de rfl rfl
theorem DF (k k':IntKind)(a:Int):gS k (.int k' a)=some (.int k (k.wrap a)):=de rfl rfl
theorem Pk (k:IntKind)(a b:Int):kA (.int k a) (.int k b)=some (.int k (max a b)):=by
 simp only[kA,cP,Value.int.injEq,EC];split<;>omega
theorem Ph (k:IntKind)(a b:Int):tW (.int k a) (.int k b)=some (.int k (min a b)):=by
 simp only[tW,cP,Value.int.injEq,EC];split<;>omega
theorem w64 {n:Int}(h1: -9223372036854775808≤n)(A:n≤9223372036854775807):IntKind.i64.wrap n=n:=by
 show(if(true&&decide (n%(2^64:Int)≥(2^63:Int)))=true then n%(2^64:Int)-(2^64:Int)else n%(2^64:Int))=n;split
 ·rename_i hh;simp only[JX,dH]at hh;omega
 ·rename_i hh;simp only[JX,dH]at hh;omega
theorem wu16 {n:Int}(h1:0≤n)(A:n≤65535):IntKind.u16.wrap n=n:=by
 simp only[IntKind.wrap,IntKind.bits,IntKind.signed];simp;omega
theorem wu64 {n:Int}(h1:0≤n)(A:n≤18446744073709551615):IntKind.u64.wrap n=n:=by
 simp only[IntKind.wrap,IntKind.bits,IntKind.signed];simp;omega
theorem EM (a:Option Addr)(n c:Nat):aD (.slice a n c)=some (af n):=de rfl rfl
theorem zaP (s:ByteArray):Ld (.string s)=some (af s.size):=de rfl rfl
theorem zfE (a:Value)(l:List Value):aP (.tuple ⟨a::l⟩) 0=some a:=de rfl rfl
theorem zfD (a b:Value)(l:List Value):aP (.tuple ⟨a::b::l⟩) 1=some b:=de rfl rfl
theorem zfC (a b c:Value)(l:List Value):aP (.tuple ⟨a::b::c::l⟩) 2=some c:=de rfl rfl
theorem zfB (a b c d:Value)(l:List Value):aP (.tuple ⟨a::b::c::d::l⟩) 3=some d:=de rfl rfl
theorem zcd (a:Addr):aX (.pointer (some a))=some (.pointer (some a)):=de rfl rfl
theorem zfz (b o:Nat):aC 0 (.pointer (some ⟨b,o,none⟩))=some (.pointer (some ⟨b,o,none⟩)):=de rfl rfl
theorem nO (b o n:Nat):(⟨b,o,none⟩:Addr).add n=⟨b,o+n,none⟩:=by
 unfold Addr.add;split<;>simp_all
theorem Wy (n b o:Nat):aC n (.pointer (some ⟨b,o,none⟩))=some (.pointer (some ⟨b,o+n,none⟩)):=by
 show some (Value.pointer (some ((⟨b,o,none⟩:Addr).add n)))=_;rw[nO]
theorem dn (h:ai)(a:Addr):ldV h (.pointer (some a))=aE h a:=de rfl rfl
theorem ma {s b o len cap:Nat}{k:IntKind}{i:Nat}(hi:i<len):bh s (.slice (some ⟨b,o,none⟩) len cap) (.int k (i:Int))=some (.pointer (some ⟨b,o+i*s,none⟩)):=by
 show(if 0≤(i:Int)∧(i:Int)<(len:Int)then some (Value.pointer (some ((⟨b,o,none⟩:Addr).add ((i:Int).toNat*s))))else none)=_;rw[aB ae,nO,dJ]
theorem ao {h:ai}{b o:Nat}{c:Array Value}{t:TypeId}{f:Nat×Nat}(A:h[b]? =some (.cells c t f)):aE h ⟨b,o,none⟩=c[o]? :=by
 unfold aE;simp[A]
theorem zb2 {h:ai}{o:Obj}{b:Nat}(A:b<h.size):(h.push o)[b]? =h[b]? :=by
 rw[Array.getElem?_push,aA ae]
theorem tN {h:ai}{o:Obj}:(h.push o)[h.size]? =some o:=by simp
def Ext (h h':ai):Prop:=h.size≤h'.size∧∀b,b<h.size→h'[b]? =h[b]?
theorem Ext.refl (h:ai):Ext h h:=⟨ck _,λ_ _=>rfl⟩
theorem Ext.trans {a b c:ai}(h:Ext a b)(k:Ext b c):Ext a c:=⟨bA h.1 k.1,λi hi=>(k.2 i (ce hi h.1)).trans (h.2 i hi)⟩
theorem Ext.push (h:ai)(o:Obj):Ext h (h.push o):=⟨by simp,λb A=>zb2 A⟩
theorem Ext.cell {h h':ai}(e:Ext h h'){a:Addr}{v:Value}(hc:aE h a=some v):aE h' a=some v:=by
 unfold aE at*;rcases pT a.block h.size with A|A
 ·rw[e.2 _ A];exact hc
 ·rw[AW A]at hc;cases hc
theorem zbI {r A:Option Value}{K:Value→Prop}(h:r=A):vK r K=vK A K:=by rw[h]
theorem X9 {c c':Value}{x y:Prop}(h:c=c'):aG c x y=aG c' x y:=by rw[h]
theorem Xt {P:Program}{f:FuncId}{args A:Array Value}{h h':ai}{K:Value→ai→Prop}(D:args=A)(hh:h=h'):ag P f args h K=ag P f A h' K:=by rw[D,hh]
theorem Wh {a A:List Value}{h h':ai}{body:List Value→Env→ai→(List Value→ai→Prop)→Prop}(D:a=A)(hh:h=h'):bC a h body=bC A h' body:=by rw[D,hh]
theorem zcA {g A:Value}{w:Bool}{m:(Value→ai→Prop)→Prop}{h:ai}{K:Value→ai→Prop}(D:g=A):gK g w m h K=gK A w m h K:=by rw[D]
theorem XY {c c':Array Value}{t:TypeId}{h:ai}{K:Value→ai→Prop}(hc:c=c'):aT c t h K=aT c' t h K:=by rw[hc]
theorem zaw {n:Nat}{x D v A:Value}{h:ai}{K:Value→ai→Prop}(G:x=D)(F:v=A):stK n x v h K=stK n D A h K:=by rw[G,F]
theorem XG {c:Array Value}{e:TypeId}{n:Nat}{l A:List (Nat×Nat×Value)}{h:ai}{K:Value→ai→Prop}(D:l=A):cO c e n l h K=cO c e n A h K:=by rw[D]
theorem zaK {z:Value}{e:TypeId}{s b:Nat}{l A c c':Value}{h:ai}{K:Value→ai→Prop}(D:l=A)(hc:c=c'):mkK z e s b l c h K=mkK z e s b A c' h K:=by rw[D,hc]
theorem YM {z:Value}{e:TypeId}{s b:Nat}{l A c c':Value}{h:ai}{K:Value→ai→Prop}(D:l=A)(hc:c=c'):cR z e s b l c h K=cR z e s b A c' h K:=by rw[D,hc]
theorem Yo {s:Nat}{l A c c':Value}{h:ai}{K:Value→ai→Prop}(D:l=A)(hc:c=c'):HA s l c h K=HA s A c' h K:=by rw[D,hc]
theorem WN {h h':ai}{b:(ai→Prop)→Prop}(hh:h=h'):bL h b=bL h' b:=by rw[hh]
theorem zbZ {S:ai→Prop}{r A:ai→Option Value}{K:Value→Prop}(D:r=A):qK S r K=qK S A K:=by rw[D]
theorem RI {d:TypeDesc}{m D k k' v A:Value}{h:ai}{K:Value→ai→Prop}(h1:m=D)(F:k=k')(G:v=A):vu d m k v h K=vu d D k' A h K:=by rw[h1,F,G]
theorem RK {d:TypeDesc}{m A k k':Value}{h:ai}{K:Value→ai→Prop}(h1:m=A)(D:k=k'):pP d m k h K=pP d A k' h K:=by rw[h1,D]
attribute [congr] zbI X9 Xt Wh zcA XY zaw XG zaK YM Yo WN zbZ RI RK
theorem aI {c:Array Value}{t:TypeId}{h:ai}{K:Value→ai→Prop}(H:∀b h',h'[b]? =some (.cells c t (0,0))→Ext h h'→h.size≤b→K (.pointer (some ⟨b,0,none⟩)) h'):aT c t h K:=
 H h.size (h.push (.cells c t)) tN (Ext.push h _) (ck _)
theorem Ext.row {h h':ai}(e:Ext h h'){b:Nat}{o:Obj}(A:h[b]? =some o):h'[b]? =some o:=by
 rw[e.2 b (mT.1 A).1];exact A
theorem bF (c:Array Value):Value.cells (.agg c)=c:=de rfl rfl
theorem X5 (h:ai)(b o i n:Nat):fu h ⟨b,o,none⟩ i (n+1)=match aE h ⟨b,o+i,none⟩with
  |some v=>match fu h ⟨b,o,none⟩ (i+1) n with
   |some l=>some (v::l)
   |none=>none
  |none=>none:=by
 have e:fu h ⟨b,o,none⟩ i (n+1)=match aE h ((⟨b,o,none⟩:Addr).add i)with
  |some v=>match fu h ⟨b,o,none⟩ (i+1) n with
   |some l=>some (v::l)
   |none=>none
  |none=>none:=rfl
 rw[e,nO]
theorem zcj (n:Nat)(h:ai)(a:Addr):aM n h (.pointer (some a))=(fu h a 0 n).map λl=>.agg l.toArray:=de rfl rfl
theorem Et {h:ai}{b o:Nat}:∀(l:List Value) (i:Nat),(∀j (A:j<l.length),aE h ⟨b,o+i+j,none⟩=some l[j])→fu h ⟨b,o,none⟩ i l.length=some l
 | [],_,_=>rfl
 | v::l,i,H=>by
  rw[pS,X5];have h0:=H 0 (by simp);simp only[ic,EB]at h0;rw[h0];have:=Et l (i+1) λj A=>by
   have:=H (j+1) (by simpa using A);simpa[vG,EA 1 j]using this
  simp only[this]
theorem Kg {h:ai}{b o:Nat}(l:List Value)(n:Nat)(A:l.length=n)(H:∀j (D:j<l.length),aE h ⟨b,o+j,none⟩=some l[j]):aM n h (.pointer (some ⟨b,o,none⟩))=some (.agg l.toArray):=by
 subst A;rw[zcj,Et l 0 (by simpa using H)];rfl
theorem aL {h:ai}{b:Nat}{l:List Value}{t:TypeId}{f:Nat×Nat}(D:h[b]? =some (.cells l.toArray t f))(n:Nat)(A:l.length=n):aM n h (.pointer (some ⟨b,0,none⟩))=some (.agg l.toArray):=
 Kg l n A λj F=>by rw[aO,ao D];simp
theorem Ext.loads {h h':ai}(e:Ext h h'){a:Addr}:∀{n i:Nat} {l:List Value},fu h a i n=some l→fu h' a i n=some l
 |0,_,_,H=>H
 | n+1,i,l,H=>by
  unfold fu at H ⊢;cases hc:aE h (a.add i)with
  |none=>simp[hc]at H
  | some v=>
   simp only[hc]at H;rw[e.cell hc];cases A:fu h a (i+1) n with
   |none=>simp[A]at H
   |some D=>
    simp only[A]at H;simp only[e.loads A];exact H
theorem Ext.lds {h h':ai}(e:Ext h h'){n:Nat}{x v:Value}(H:aM n h x=some v):aM n h' x=some v:=by
 unfold aM at*;split at H
 ·rename_i a;cases A:fu h a 0 n with
  |none=>simp[A]at H
  |some l=>
   simp only[A]at H;simp only[e.loads A];exact H
 ·cases H
theorem w6 (h:ai)(b k:Nat)(o:Obj):(fO h b o)[k]? =if k=b then(if b<h.size then some o else none)else h[k]? :=by
 unfold fO;rw[ZD];by_cases A:k=b
 ·subst A;simp
 ·rw[aA (ie A),aA A]
theorem yn (h:ai)(b:Nat)(o:Obj):(fO h b o).size=h.size:=by simp[fO]
theorem Vs (h:ai)(x y:Obj):fO (h.push x) h.size y=h.push y:=by
 unfold fO;apply Kd;simp
theorem Vt {h:ai}{b o:Nat}{cur:Array Value}{t:TypeId}{f:Nat×Nat}{v:Value}(D:h[b]? =some (.cells cur t f)):NU h ⟨b,o,none⟩ v=fO h b (.cells (cur.setIfInBounds o v) t f):=by
 have A:b<h.size:=(mT.1 D).1;unfold NU;apply JW
 ·simp[yn]
 ·intro i h1 F;apply oE;rw[←oG,←oG,w6,Nm];by_cases hi:i=b
  ·subst hi;have e:h[i]=.cells cur t f:=by rw[oG A]at D;exact oE D
   simp[A,e]
  ·rw[aA (ie hi),aA hi]
def wrL (cur:Array Value):Nat→List Value→Array Value
 |_,[]=>cur
 |o,v::l=>wrL (cur.setIfInBounds o v) (o+1) l
theorem cN:∀(l:List Value) (cur:Array Value) (o:Nat),(wrL cur o l).size=cur.size
 | [],_,_=>rfl
 |v::l,cur,o=>by simp[wrL,cN l]
theorem S6:∀(l:List Value) (cur:Array Value) (o k:Nat),o+l.length≤cur.size→(wrL cur o l)[k]? =if o≤k∧k<o+l.length then l[k-o]? else cur[k]?
 | [],cur,o,k,_=>by simp only[wrL,lX];rw[aA ae]
 | v::l,cur,o,k,h=>by
  simp only[pS]at h;simp only[wrL];rw[S6 l _ (o+1) k (by simp;omega)];by_cases D:k=o
  ·subst D;rw[aA ae,aB (by simp)];rw[ZD];simp;omega
  ·by_cases A:o+1≤k∧k<o+1+l.length
   ·rw[aB A,aB (by simp only[pS];omega)];rw[show k-o=(k-(o+1))+1 from ae];simp
   ·rw[aA A,aA (by simp only[pS];omega)];rw[ZF (ie D)]
theorem S7 (l:List Value)(cur:Array Value)(h:l.length=cur.size):wrL cur 0 l=l.toArray:=by
 apply JW
 ·simp[cN,h]
 ·intro i h1 A;apply oE;rw[←oG,←oG,S6 l cur 0 i ae];simp only[cN]at h1;rw[aB ae];simp
theorem nZ {t:TypeId}{b o:Nat}:∀(l:List Value) (i:Nat) (h:ai) (cur:Array Value),h[b]? =some (.cells cur t (0,0))→o+i+l.length≤cur.size→(∀v∈l,aV v=true)→
  kM h ⟨b,o,none⟩ i l=some (fO h b (.cells (wrL cur (o+i) l) t (0,0)))
 | [],i,h,cur,hb,_,_=>by
  simp only[kM,wrL,cP];have A:b<h.size:=(mT.1 hb).1;apply JW
  ·simp[yn]
  ·intro k h1 G;apply oE;rw[←oG,←oG,w6];split
   ·rename_i F;subst F;first|rw[aB A,hb]|exact hb
   ·rfl
 |v::l,i,h,cur,hb,hs,h1=>by
  simp only[pS]at hs;have A:b<h.size:=(mT.1 hb).1;have hc:aE h ⟨b,o+i,none⟩=some cur[o+i]:=by rw[ao hb,oG ae]
  have D:xq h ⟨b,o+i,none⟩=false:=by unfold xq;simp[hb]
  unfold kM;rw[nO];simp only[hc,D,h1 v (by simp),Bool.not_false,Bool.and_self,uB];rw[Vt hb];rw[nZ l (i+1) _ (cur.setIfInBounds (o+i) v) (by rw[w6,aB rfl,aB A]) (by simp;omega) (λu hu=>h1 u (by simp[hu]))];simp only[wrL,vG,cP];unfold fO;simp
theorem stN {t:TypeId}{b o n:Nat}{h:ai}{cur:Array Value}{l:List Value}{K:Value→ai→Prop}(G:h[b]? =some (.cells cur t (0,0)))(D:o+l.length≤cur.size)(h1:∀v∈l,aV v=true)(F:l.length=n)
  (A:K undef (fO h b (.cells (wrL cur o l) t (0,0)))):stK n (.pointer (some ⟨b,o,none⟩)) (.agg l.toArray) h K:=by
 unfold stK;have:=nZ (t:=t) (b:=b) (o:=o) l 0 h cur G (by simpa using D) h1;simp only[Value.cells,Uz,F,cV,this];exact A
theorem cJ {v:Value}(h:aV v=true):v.cells=#[v]:=by cases v<;>first|rfl|cases h
theorem st1 {t:TypeId}{b o:Nat}{h:ai}{cur:Array Value}{v:Value}{K:Value→ai→Prop}(D:h[b]? =some (.cells cur t (0,0)))(F:o<cur.size)(h1:aV v=true)
  (A:K undef (fO h b (.cells (cur.setIfInBounds o v) t (0,0)))):stK 1 (.pointer (some ⟨b,o,none⟩)) v h K:=by
 unfold stK;have:=nZ (t:=t) (b:=b) (o:=o) [v] 0 h cur D (by simp;omega) (by simpa using h1);simp only[cJ h1,Uz,pS,lX,cV,this];exact A
theorem st_new {t:TypeId}{n:Nat}{h:ai}{A:Array Value}{l:List Value}{K:Value→ai→Prop}(F:l.length=A.size)(h1:∀v∈l,aV v=true)(G:l.length=n)
  (D:K undef (h.push (.cells l.toArray t))):stK n (.pointer (some ⟨h.size,0,none⟩)) (.agg l.toArray) (h.push (.cells A t)) K:=by
 refine stN (cur:=A) (t:=t) (by simp) ae h1 G ?_;rw[Vs,S7 l A F];exact D
def Upd (b:Nat)(h h':ai):Prop:=h'.size=h.size∧∀k,k≠b→h'[k]? =h[k]?
theorem Upd.row {b k:Nat}{h h':ai}(u:Upd b h h')(A:k≠b){o:Obj}(r:h[k]? =some o):h'[k]? =some o:=by rw[u.2 k A];exact r
theorem Upd.set {b:Nat}{h:ai}{o:Obj}:Upd b h (fO h b o):=⟨yn h b o,λk A=>by rw[w6,aA A]⟩
theorem Ext.upd {h h1 A:ai}{b:Nat}(e:Ext h h1)(F:h.size≤b)(u:Upd b h1 A):Ext h A:=
 ⟨by rw[u.1];exact e.1,λk D=>by rw[u.2 k ae];exact e.2 k D⟩
theorem lD {h:ai}{b:Nat}{o o':Obj}(r:h[b]? =some o):(fO h b o')[b]? =some o':=by
 rw[w6,aB rfl,aB (mT.1 r).1]
theorem bI {t:TypeId}{b n:Nat}{h:ai}{A:Array Value}{l:List Value}{K:Value→ai→Prop}(r:h[b]? =some (.cells A t (0,0)))(F:l.length=A.size)(h1:∀v∈l,aV v=true)(G:l.length=n)
  (D:∀h',h'[b]? =some (.cells l.toArray t (0,0))→Upd b h h'→K undef h'):stK n (.pointer (some ⟨b,0,none⟩)) (.agg l.toArray) h K:=by
 refine stN r ae h1 G ?_;rw[S7 l A F];exact D _ (lD r) Upd.set
theorem bG {t:TypeId}{b o:Nat}{h:ai}{cur:Array Value}{v:Value}{K:Value→ai→Prop}(r:h[b]? =some (.cells cur t (0,0)))(D:o<cur.size)(h1:aV v=true)
  (A:∀h',h'[b]? =some (.cells (cur.setIfInBounds o v) t (0,0))→Upd b h h'→K undef h'):stK 1 (.pointer (some ⟨b,o,none⟩)) v h K:=
 st1 r D h1 (A _ (lD r) Upd.set)
theorem cT {c c':Array Value}{e:TypeId}{n:Nat}{l:List (Nat×Nat×Value)}{h:ai}{K:Value→ai→Prop}(A:aR c l=some c')
  (H:∀b h',h'[b]? =some (.cells c' e (0,0))→Ext h h'→h.size≤b→K (.slice (some ⟨b,0,none⟩) n n) h'):cO c e n l h K:=by
 unfold cO;rw[A];exact H h.size (h.push (.cells c' e)) tN (Ext.push h _) (ck _)
theorem least {p:Nat→Prop}:∀(n:Nat),p n→∃m,p m∧∀k,p k→m≤k:=by
 intro n;induction n using Nat.strongRecOn with
 | _ n H=>
  intro I;by_cases F:∃k,k<n∧p k
  ·obtain⟨k,A,G⟩:=F;exact H k A G
  ·exact⟨n,I,λk A=>JV λD=>F ⟨k,D,A⟩⟩
theorem dy {init:List Value}{h:ai}{body:List Value→Env→ai→(List Value→ai→Prop)→Prop}(I:Nat→List Value→ai→Prop)(d0:Nat)(h0:I d0 init h)
  (step:∀d A ρj h again,I d A h→(∀H h' F,F<d→I F H h'→again H h')→body A ρj h again):bC init h body:=by
 have G:∀A h,∃m:Nat,(∃d,I d A h)→I m A h∧∀k,I k A h→m≤k:=by
  intro A h;by_cases U:∃d,I d A h
  ·obtain⟨d,hd⟩:=U;obtain⟨m,L,hl⟩:=least (p:=λd=>I d A h) d hd;exact⟨m,λ_=>⟨L,hl⟩⟩
  ·exact⟨0,λh=>absurd h U⟩
 let m:List Value→ai→Nat:=λA h=>Classical.choose (G A h)
 have L:∀A h,(∃d,I d A h)→I (m A h) A h∧∀k,I k A h→m A h≤k:=λA h=>ZC (G A h)
 refine⟨λA h=>∃d,I d A h,m,⟨d0,h0⟩,?_⟩;intro A ρj h W;refine step (m A h) A ρj h _ (L A h W).1 ?_;intro H h' F hd D;exact⟨⟨F,D⟩,uz ((L H h' ⟨F,D⟩).2 F D) hd⟩
theorem bB {body:(List Value→ai→Prop)→Prop}{rest:List Value→Env→ai→Prop}(J:List Value→ai→Prop)(h1:body J)(D:∀A ρj h,J A h→rest A ρj h):eM body rest:=⟨J,h1,D⟩
theorem SA {h:ai}{body:(ai→Prop)→Prop}(H:body (Ext h)):bL h body:=⟨Ext h,Ext.refl h,H⟩
theorem aF {S:ai→Prop}{r:ai→Option Value}{K:Value→Prop}(v:Value)(h:∀h,S h→r h=some v)(A:K v):qK S r K:=⟨v,h,A⟩
attribute [go_sem] zfs zfy ah fK cg EP db gV_tf ze3 zef mc gK_tf gK_ft Ol ji iq vN zck zfp ix_4 ix_5 dD iR nE cI Ky xv Qt mf me zdm zdl YS zdA DF Pk Ph bF EM zaP List.getElem?_toArray List.getElem?_cons_zero List.getElem?_cons_succ Nat.zero_add decide_true decide_false Bool.not_true Bool.not_false Bool.and_true Bool.and_false Bool.or_true Bool.or_false Bool.true_and Bool.false_and Bool.true_or Bool.false_or not_true_eq_false not_false_eq_true zfE zfD zfC zfB zcd zfz Wy dn
def Fr (M:Nat→Prop)(h h':ai):Prop:=h.size≤h'.size∧∀b,b<h.size→¬M b→h'[b]? =h[b]?
theorem Fr.refl (M:Nat→Prop)(h:ai):Fr M h h:=⟨ck _,λ_ _ _=>rfl⟩
theorem Fr.trans {M:Nat→Prop}{a b c:ai}(h:Fr M a b)(k:Fr M b c):Fr M a c:=
 ⟨bA h.1 k.1,λi hi A=>(k.2 i (ce hi h.1) A).trans (h.2 i hi A)⟩
theorem Fr.mono {M M':Nat→Prop}{a b:ai}(h:Fr M a b)(k:∀i,i<a.size→M i→M' i):Fr M' a b:=⟨h.1,λi hi A=>h.2 i hi λx=>A (k i hi x)⟩
theorem Ext.fr {M:Nat→Prop}{a b:ai}(h:Ext a b):Fr M a b:=⟨h.1,λi hi _=>h.2 i hi⟩
theorem Ext.then_fr {M:Nat→Prop}{a b c:ai}(h:Ext a b)(k:Fr M b c)(n:∀i,M i→a.size≤i):Ext a c:=
 ⟨bA h.1 k.1,λi hi=>(k.2 i (ce hi h.1) λm=>Nat.not_le.2 hi (n i m)).trans (h.2 i hi)⟩
theorem Fr.row {M:Nat→Prop}{h h':ai}(e:Fr M h h'){b:Nat}{o:Obj}(A:h[b]? =some o)(D:¬M b):h'[b]? =some o:=by
 rw[e.2 b (mT.1 A).1 D];exact A
theorem Fr.cell {M:Nat→Prop}{h h':ai}(e:Fr M h h'){a:Addr}{v:Value}(hc:aE h a=some v)(D:¬M a.block):aE h' a=some v:=by
 unfold aE at*;rcases pT a.block h.size with A|A
 ·rw[e.2 _ A D];exact hc
 ·rw[AW A]at hc;cases hc
theorem ZV {h:ai}{a:Addr}{v:Value}(hc:aE h a=some v):a.block<h.size:=by
 unfold aE at hc;rcases pT a.block h.size with A|A
 ·exact A
 ·rw[AW A]at hc;cases hc
def blk:Value→Nat→Prop
 | .slice (some a) _ _,b=>b=a.block
 | .pointer (some a),b=>b=a.block
 |_,_=>False
def SlC (w:Nat)(h:ai)(v:Value)(n:Nat)(cs:List Value):Prop:=
 cs.length=n*w∧∃a cap,v=.slice a n cap∧(cs=[]∨∃b o,a=some ⟨b,o,none⟩∧∀j (hj:j<cs.length),aE h ⟨b,o+j,none⟩=some cs[j])
def Own (w:Nat)(h:ai)(v:Value)(n:Nat)(cs:List Value):Prop:=
 (v=.slice none 0 0∧n=0∧cs=[])∨∃b cap r e,v=.slice (some ⟨b,0,none⟩) n cap∧n≤cap∧cs.length=n*w∧(cs++r).length=cap*w∧h[b]? =some (.cells (cs++r).toArray e (0,0))
theorem SlC.fr {w:Nat}{M:Nat→Prop}{h h':ai}{v:Value}{n:Nat}{cs:List Value}(H:SlC w h v n cs)(e:Fr M h h')(F:∀b,b<h.size→blk v b→¬M b):SlC w h' v n cs:=by
 obtain⟨D,a,cap,rfl,H⟩:=H;refine⟨D,a,cap,rfl,?_⟩;rcases H with H|⟨b,o,rfl,H⟩
 ·exact .inl H
 ·exact .inr ⟨b,o,rfl,λj A=>e.cell (H j A) (F b (ZV (H j A)) rfl)⟩
theorem SlC.ext {w:Nat}{h h':ai}{v:Value}{n:Nat}{cs:List Value}(H:SlC w h v n cs)(e:Ext h h'):SlC w h' v n cs:=H.fr (M:=λ_=>False) e.fr λ_ _ _=>id
theorem Own.sl {w:Nat}{h:ai}{v:Value}{n:Nat}{cs:List Value}(H:Own w h v n cs):SlC w h v n cs:=by
 rcases H with⟨rfl,rfl,rfl⟩|⟨b,cap,r,e,rfl,hc,F,_,D⟩
 ·exact⟨by simp,none,0,rfl,.inl rfl⟩
 ·refine⟨F,_,cap,rfl,.inr ⟨b,0,rfl,λj A=>?_⟩⟩;rw[aO,ao D];simp[pR A,A]
theorem Own.fr {w:Nat}{M:Nat→Prop}{h h':ai}{v:Value}{n:Nat}{cs:List Value}(H:Own w h v n cs)(f:Fr M h h')(F:∀b,blk v b→¬M b):Own w h' v n cs:=by
 rcases H with⟨rfl,rfl,rfl⟩|⟨b,cap,r,e,rfl,hc,D,A,G⟩
 ·exact .inl ⟨rfl,rfl,rfl⟩
 ·exact .inr ⟨b,cap,r,e,rfl,hc,D,A,f.row G (F b rfl)⟩
theorem Own.lt {w:Nat}{h:ai}{v:Value}{n:Nat}{cs:List Value}(H:Own w h v n cs){b:Nat}(A:blk v b):b<h.size:=by
 rcases H with⟨rfl,rfl,rfl⟩|⟨D,cap,r,e,rfl,hc,G,F,h'⟩
 ·cases A
 ·rw[show b=D from A];exact(mT.1 h').1
theorem SlC.loads {w:Nat}{h:ai}{v:Value}{n:Nat}{cs:List Value}(H:SlC w h v n cs):xQ w h n v=some cs:=by
 obtain⟨A,a,cap,rfl,H⟩:=H;cases a with
 |none=>
  rcases H with rfl|⟨b,o,h1,_⟩
  ·rfl
  ·cases h1
 | some a=>
  show fu h a 0 (n*w)=_;rcases H with rfl|⟨b,o,h1,H⟩
  ·rw[←A];rfl
  ·cases h1;rw[←A];exact Et cs 0 (by simpa using H)
theorem Ii:∀(ds cs r:List Value),ds.length≤r.length→wrL (cs++r).toArray cs.length ds=(cs++ds++r.drop ds.length).toArray
 | [],cs,r,_=>by simp[wrL]
 | v::ds,cs,r,h=>by
  cases r with
  |nil=>simp at h
  |cons x r=>
   have e:((cs++x::r).toArray).setIfInBounds cs.length v=((cs++[v])++r).toArray:=by simp
   rw[wrL,e];have:=Ii ds (cs++[v]) r (by simpa using h);rw[cF,ZB]at this;rw[this];simp
theorem Upd.fr {b:Nat}{h h':ai}(u:Upd b h h'):Fr (λk=>k=b) h h':=⟨Nat.le_of_eq u.1.symm,λk _ A=>u.2 k A⟩
theorem Tc (z:Array Value)(n:Nat):(Builtin.zeroCells z n).size=n*z.size:=by simp[Builtin.zeroCells]
theorem ui {z:Value}{e:TypeId}{w bytes n m:Nat}{s x:Value}{h:ai}{cs ds:List Value}{K:Value→ai→Prop}
  (hs:Own w h s n cs) (hx:SlC w h x m ds) (ho:∀v∈ds,aV v=true) (hz:z.cells.size=w) (G:(n+m)*bytes≤140737488355328) (hn:n+m≤9223372036854775807)
  (H:∀s' h',Own w h' s' (n+m) (cs++ds)→Fr (blk s) h h'→(∀b,blk s' b→blk s b∨h.size≤b)→K s' h'):cR z e w bytes s x h K:=by
 have I:=hs.sl.loads;have F:=hx.loads;obtain⟨D,a',ad,rfl,al⟩:=hx;rcases hs with⟨rfl,rfl,rfl⟩|⟨b,cap,r,e0,rfl,hc,U,hr,L⟩
 ·unfold cR;simp only[RL];split
  ·rename_i h0;have:m=0:=ae;subst this;rw[F];have:ds=[]:=lg (by simpa using D);subst this;exact H _ _ (.inl ⟨rfl,rfl,rfl⟩) (Fr.refl _ _) (λb G=>G.elim)
  ·rename_i h0;rw[I,F];refine⟨by simp only[IntKind.max];simp only[IntKind.signed,IntKind.bits];omega,bA (Uy ae G) (by decide),λA h1 h2=>?_⟩;refine H _ _ (.inr ⟨h.size,A,(Builtin.zeroCells z.cells (A-(0+m))).toList,e,rfl,h1,?_,?_,?_⟩) (Ext.push h _).fr (λb G=>.inr (by rw[show b=h.size from G];exact ck _))
   ·simp[D]
   ·simp[D,Tc,hz];rw[←fb];congr 1;omega
   ·rw[tN];simp
 ·unfold cR;simp only[RL];split
  ·rename_i h0;rw[F];have W:ds.length≤r.length:=by
    rw[cF]at hr;rw[D];have:(n+m)*w≤cap*w:=gO w h0;rw[fb]at this;omega
   have aa:=nZ (o:=n*w) ds 0 h _ L (by simp;omega) ho;simp only[nO,aO,aa];rw[ic,←U,Ii ds cs r W];refine H _ _ (.inr ⟨b,cap,r.drop ds.length,e0,rfl,h0,?_,?_,lD L⟩) (Upd.set.fr) (λk hk=>.inl hk)
   ·simp[U,D,fb]
   ·rw[←hr];simp;omega
  ·rename_i h0;rw[I,F];refine⟨by simp only[IntKind.max];simp only[IntKind.signed,IntKind.bits];omega,bA (Uy ae G) (by decide),λA h1 h2=>?_⟩;refine H _ _ (.inr ⟨h.size,A,(Builtin.zeroCells z.cells (A-(n+m))).toList,e,rfl,h1,?_,?_,?_⟩) (Ext.push h _).fr (λb G=>.inr (by rw[show b=h.size from G];exact ck _))
   ·simp[U,D,fb]
   ·simp[U,D,Tc,hz];rw[←fb,←fb];congr 1;omega
   ·rw[tN];simp
theorem SlC.at1 {h:ai}{v:Value}{n:Nat}{cs:List Value}(H:SlC 1 h v n cs){k:IntKind}{i:Nat}(hi:i<n):∃p,bh 1 v (.int k (i:Int))=some p∧ldV h p=some (cs[i]'(by rw[H.1];omega)):=by
 have A:=H.1;obtain⟨_,a,cap,rfl,H⟩:=H;rcases H with rfl|⟨b,o,rfl,H⟩
 ·simp at A;omega
 ·refine⟨_,ma hi,?_⟩;rw[dn,lW];exact H i ae
theorem SlC.atw {w:Nat}{h:ai}{v:Value}{n:Nat}{cs:List Value}(H:SlC w h v n cs)(G:0<w){k:IntKind}{i:Nat}(hi:i<n):
  ∃p,bh w v (.int k (i:Int))=some p∧aM w h p=some (.agg ((cs.drop (i*w)).take w).toArray):=by
 have D:=H.1;obtain⟨_,a,cap,rfl,H⟩:=H;have A:i*w+w≤cs.length:=by rw[D,←sI];exact gO w hi
 rcases H with rfl|⟨b,o,rfl,H⟩
 ·simp at A;omega
 ·refine⟨_,ma hi,?_⟩;refine Kg _ w (by simp;omega) λj F=>?_
  simp at F;have:=H (i*w+j) ae;rw[←vG]at this;rw[this];simp
theorem Own.at1 {h:ai}{v:Value}{n:Nat}{cs:List Value}(H:Own 1 h v n cs){k:IntKind}{i:Nat}(hi:i<n):
  ∃p,bh 1 v (.int k (i:Int))=some p∧ldV h p=some (cs[i]'(by rw[H.sl.1];omega))∧∀(x:Value) (K:Value→ai→Prop),aV x=true→
   (∀h',Own 1 h' v n (cs.set i x)→Fr (blk v) h h'→h'.size=h.size→K undef h')→stK 1 p x h K:=by
 have G:=H.sl.1;rcases H with⟨rfl,rfl,rfl⟩|⟨b,cap,r,e,rfl,hc,_,F,D⟩
 ·omega
 ·refine⟨_,ma hi,?_,λx K L W=>?_⟩
  ·rw[dn,lW,ao D];have A:i<cs.length:=ae;simp only[aO,yX];rw[pR A,gN A]
  ·refine bG D (by simp;omega) L λh' U u=>?_
   refine W h' (.inr ⟨b,cap,r,e,rfl,hc,by simpa using G,by simpa using F,?_⟩) (u.fr.mono λk _ I=>I) u.1;rw[U]
   congr 2
   simp[List.set_append_left,show i<cs.length by omega]
theorem zao {z:Value}(A:z.cells=#[z])(n:Nat):jO z n=(List.replicate n z).toArray:=by
 unfold jO;rw[A];apply JW
 ·simp
 ·intro i h1 D;simp[Nat.mod_one]
theorem pN {z:Value}{e:TypeId}{bytes n:Nat}{k k':IntKind}{h:ai}{K:Value→ai→Prop}(D:z.cells=#[z])(A:bytes*n≤281474976710656)(G:n≤9223372036854775807)
  (H:∀v h',Own 1 h' v n (List.replicate n z)→Ext h h'→(∀b,blk v b→h.size≤b)→K v h'):mkK z e 1 bytes (.int k n) (.int k' n) h K:=by
 unfold mkK;have F:IntKind.i64.wrap (n:Int)=n:=w64 ae ae;simp only[F];refine⟨ae,ae,by exact_mod_cast A,?_⟩;rw[dJ,lW,zao D];refine H _ _ (.inr ⟨h.size,n,[],e,rfl,ck _,by simp,by simp,?_⟩) (Ext.push h _) (λb A=>by rw[show b=h.size from A];exact ck _);rw[tN];simp
theorem SlC.load_some {w:Nat}{h:ai}{v:Value}{n:Nat}{cs:List Value}(H:SlC w h v n cs){k:Nat}(F:k≤n):xQ w h k v=some (cs.take (k*w)):=by
 obtain⟨L,a,cap,rfl,H⟩:=H;have I:k*w≤n*w:=gO w F;have A:(cs.take (k*w)).length=k*w:=by rw[di];omega
 cases a with
 |none=>
  rcases H with rfl|⟨b,o,h1,_⟩
  ·simp[xQ]
  ·cases h1
 | some a=>
  show fu h a 0 (k*w)=_;rcases H with rfl|⟨b,o,h1,H⟩
  ·simp at A;rw[←A];simp[fu]
  ·cases h1;have:=Et (h:=h) (b:=b) (o:=o) (cs.take (k*w)) 0 (λj G=>by
    have D:j<cs.length:=by rw[di]at G;omega
    simpa using H j D)
   rw[A]at this;exact this
theorem Ku {n m:Nat}{d x:Value}{h:ai}{cs ds:List Value}{K:Value→ai→Prop}(hd:Own 1 h d n cs)(L:SlC 1 h x m ds)(ho:∀v∈ds,aV v=true)
  (H:∀h',Own 1 h' d n (ds.take n++cs.drop m)→Fr (blk d) h h'→h'.size=h.size→K (af (Nat.min m n:Nat)) h'):HA 1 d x h K:=by
 have A:=L.load_some (k:=Nat.min m n) (Nat.min_le_left ..);obtain⟨aa,a',W,rfl,ad⟩:=L;unfold HA;rcases hd with⟨rfl,rfl,rfl⟩|⟨b,cap,r,e,rfl,hc,hl,hr,U⟩
 ·simp only[RL];rw[A];refine H _ (.inl ⟨rfl,rfl,by simp⟩) (Fr.refl _ _) rfl
 ·simp only[RL];rw[A];have D:ds.take (Nat.min m n*1)=ds.take n:=by
   rw[lW];rcases Nl m n with h1|h1
   ·rw[show Nat.min m n=m from vF h1,fg ae,fg ae]
   ·rw[show Nat.min m n=n from Nat.min_eq_right h1]
  rw[D];have F:(ds.take n).length≤(cs++r).length:=by simp;omega
  have G:=nZ (o:=0) (ds.take n) 0 h _ U (by simp;omega) (λv hv=>ho v (AT hv));simp only[G];have I:=Ii (ds.take n) [] (cs++r) F;simp only[eZ,lX]at I;rw[show(0+0:Nat)=0 from rfl,I];refine H _ (.inr ⟨b,cap,r,e,rfl,hc,?_,?_,?_⟩) Upd.set.fr (yn ..)
  ·simp;omega
  ·simp at hr ⊢;omega
  ·rw[lD U]
   congr 3
   rw[cL]
   congr 1
   rcases Nl m n with h1|h1
   ·rw[di,Nk ae]
    congr 2;omega
   ·rw[di,vF ae, @List.drop_eq_nil_of_le _ cs _ ae,eZ];rw[show n=cs.length by omega,List.drop_left]
theorem Sg {h:ai}{body:List Value→Env→ai→(List Value→ai→Prop)→Prop}(n A:Nat)(I:Nat→ai→Prop)(h0:I A h)
  (step:∀k h again ρj,A≤k→I k h→(∀h',k<n→I (k+1) h'→again [af ((k:Int)+1)] h')→body [af (k:Int)] ρj h again):bC [af (A:Int)] h body:=by
 refine dy (λd H h=>∃k,A≤k∧d=n-k∧H=[af (k:Int)]∧I k h) (n-A) ⟨A,ck _,rfl,rfl,h0⟩ ?_;rintro d _ ρj h1 again ⟨k,F,hd,rfl,L⟩ G;exact step k h1 again ρj F L λh' U D=>G _ _ (n-(k+1)) ae ⟨k+1,ae,rfl,by simp,D⟩
theorem Hk {h:ai}{body:List Value→Env→ai→(List Value→ai→Prop)→Prop}(n:Nat)(I:Nat→ai→Prop)(h0:I 0 h)
  (step:∀k h again ρj,I k h→(∀h',k<n→I (k+1) h'→again [af ((k:Int)+1)] h')→body [af (k:Int)] ρj h again):bC [aj] h body:=
 Sg n 0 I h0 λk h again ρj _=>step k h again ρj
structure Rp (α:Type) where
 w:Nat
 R:(Nat→Prop)→ai→List Value→α→Prop
 len:∀{Z:Nat→Prop} {h:ai} {cs:List Value} {x:α},R Z h cs x→cs.length=w
 one:∀{Z:Nat→Prop} {h:ai} {cs:List Value} {x:α},R Z h cs x→∀v∈cs,aV v=true
 fr:∀{Z M:Nat→Prop} {h h':ai} {cs:List Value} {x:α},R Z h cs x→Fr M h h'→(∀b,b<h.size→Z b→¬M b)→R Z h' cs x
 mono:∀{Z Z':Nat→Prop} {h:ai} {cs:List Value} {x:α},R Z h cs x→(∀b,b<h.size→Z b→Z' b)→R Z' h cs x
theorem Rp.ext {α:Type}(e:Rp α){Z:Nat→Prop}{h h':ai}{cs:List Value}{x:α}(H:e.R Z h cs x)(k:Ext h h'):e.R Z h' cs x:=e.fr (M:=λ_=>False) H k.fr λ_ _ _=>id
theorem SlC.nil {w:Nat}{h h':ai}{v:Value}{n:Nat}(H:SlC w h v n []):SlC w h' v n []:=by
 obtain⟨A,a,cap,rfl,H⟩:=H;exact⟨A,a,cap,rfl,.inl rfl⟩
theorem SlC.isSl {w:Nat}{h:ai}{v:Value}{n:Nat}{cs:List Value}(H:SlC w h v n cs):∃a cap,v=.slice a n cap:=by
 obtain⟨_,a,cap,rfl,_⟩:=H;exact⟨a,cap,rfl⟩
theorem Own.isSl {w:Nat}{h:ai}{v:Value}{n:Nat}{cs:List Value}(H:Own w h v n cs):∃a cap,v=.slice a n cap:=H.sl.isSl
theorem SlC.lt {w:Nat}{h:ai}{v:Value}{n:Nat}{cs:List Value}(H:SlC w h v n cs)(h0:cs≠[]){b:Nat}(D:blk v b):b<h.size:=by
 obtain⟨F,a,cap,rfl,H⟩:=H;rcases H with rfl|⟨A,o,rfl,H⟩
 ·exact absurd rfl h0
 ·have:=ZV (H 0 (vE.2 h0));rw[show b=A from D];exact this
namespace Rp
def int (k:IntKind):Rp Int where
 w:=1
 R:=λ_ _ cs n=>cs=[.int k n]
 len:=by rintro _ _ _ _ rfl;rfl
 one:=by rintro _ _ _ _ rfl;simp[aV]
 fr:=λH _ _=>H
 mono:=λH _=>H
def bool:Rp Bool where
 w:=1
 R:=λ_ _ cs n=>cs=[.bool n]
 len:=by rintro _ _ _ _ rfl;rfl
 one:=by rintro _ _ _ _ rfl;simp[aV]
 fr:=λH _ _=>H
 mono:=λH _=>H
def str:Rp ByteArray where
 w:=1
 R:=λ_ _ cs n=>cs=[.string n]
 len:=by rintro _ _ _ _ rfl;rfl
 one:=by rintro _ _ _ _ rfl;simp[aV]
 fr:=λH _ _=>H
 mono:=λH _=>H
abbrev el (w:Nat)(ds:List Value)(i:Nat):List Value:=(ds.drop (i*w)).take w
def Sl {α:Type}(e:Rp α)(Z:Nat→Prop)(h:ai)(v:Value)(l:List α):Prop:=
 ∃ds,SlC e.w h v l.length ds∧(ds≠[]→∀b,blk v b→Z b)∧∀i (hi:i<l.length),e.R Z h (el e.w ds i) l[i]
theorem Sl.fr {α:Type}{e:Rp α}{Z M:Nat→Prop}{h h':ai}{v:Value}{l:List α}(H:Sl e Z h v l)(f:Fr M h h')(q:∀b,b<h.size→Z b→¬M b):Sl e Z h' v l:=by
 obtain⟨ds,F,D,I⟩:=H;refine⟨ds,?_,D,λi hi=>e.fr (I i hi) f q⟩;by_cases h0:ds=[]
 ·subst h0;exact F.nil
 ·exact F.fr f λb G A=>q b G (D h0 b A)
theorem Sl.ext {α:Type}{e:Rp α}{Z:Nat→Prop}{h h':ai}{v:Value}{l:List α}(H:Sl e Z h v l)(k:Ext h h'):Sl e Z h' v l:=H.fr (M:=λ_=>False) k.fr λ_ _ _=>id
theorem Sl.mono {α:Type}{e:Rp α}{Z Z':Nat→Prop}{h:ai}{v:Value}{l:List α}(H:Sl e Z h v l)(q:∀b,b<h.size→Z b→Z' b):Sl e Z' h v l:=by
 obtain⟨ds,A,G,F⟩:=H;exact⟨ds,A,λh0 b D=>q b (A.lt h0 D) (G h0 b D),λi hi=>e.mono (F i hi) q⟩
theorem Sl.isSl {α:Type}{e:Rp α}{Z:Nat→Prop}{h:ai}{v:Value}{l:List α}(H:Sl e Z h v l):∃a cap,v=.slice a l.length cap:=by
 obtain⟨ds,A,_⟩:=H;exact A.isSl
theorem Sl.one {α:Type}{e:Rp α}{Z:Nat→Prop}{h:ai}{v:Value}{l:List α}(H:Sl e Z h v l):aV v=true:=by
 obtain⟨a,cap,rfl⟩:=H.isSl;rfl
theorem Sl.nil {α:Type}{e:Rp α}{Z:Nat→Prop}{h:ai}:Sl e Z h (.slice none 0 0) []:=⟨[],⟨by simp,none,0,rfl,.inl rfl⟩,λh=>absurd rfl h,λi hi=>absurd hi (by simp)⟩
def sl {α:Type}(e:Rp α):Rp (List α) where
 w:=1
 R:=λZ h cs l=>∃v,cs=[v]∧Sl e Z h v l
 len:=by rintro _ _ _ _ ⟨v,rfl,_⟩;rfl
 one:=by
  rintro _ _ _ _ ⟨v,rfl,H⟩ u hu;rw[List.mem_singleton.1 hu];exact H.one
 fr:=by rintro _ _ _ _ _ _ ⟨v,rfl,H⟩ f q;exact⟨v,rfl,H.fr f q⟩
 mono:=by rintro _ _ _ _ _ ⟨v,rfl,H⟩ q;exact⟨v,rfl,H.mono q⟩
def Pt {α:Type}(e:Rp α)(Z:Nat→Prop)(h:ai)(v:Value)(x:α):Prop:=
 ∃b ds t,v=.pointer (some ⟨b,0,none⟩)∧h[b]? =some (.cells (List.toArray ds) t (0,0))∧Z b∧e.R Z h ds x
theorem Pt.fr {α:Type}{e:Rp α}{Z M:Nat→Prop}{h h':ai}{v:Value}{x:α}(H:Pt e Z h v x)(f:Fr M h h')(q:∀b,b<h.size→Z b→¬M b):Pt e Z h' v x:=by
 obtain⟨b,ds,t,rfl,r,A,D⟩:=H;exact⟨b,ds,t,rfl,f.row r (q b (mT.1 r).1 A),A,e.fr D f q⟩
theorem Pt.ext {α:Type}{e:Rp α}{Z:Nat→Prop}{h h':ai}{v:Value}{x:α}(H:Pt e Z h v x)(k:Ext h h'):Pt e Z h' v x:=H.fr (M:=λ_=>False) k.fr λ_ _ _=>id
theorem Pt.mono {α:Type}{e:Rp α}{Z Z':Nat→Prop}{h:ai}{v:Value}{x:α}(H:Pt e Z h v x)(q:∀b,b<h.size→Z b→Z' b):Pt e Z' h v x:=by
 obtain⟨b,ds,t,rfl,r,D,A⟩:=H;exact⟨b,ds,t,rfl,r,q b (mT.1 r).1 D,e.mono A q⟩
def pt {α:Type}(e:Rp α):Rp α where
 w:=1
 R:=λZ h cs x=>∃v,cs=[v]∧Pt e Z h v x
 len:=by rintro _ _ _ _ ⟨v,rfl,_⟩;rfl
 one:=by
  rintro _ _ _ _ ⟨v,rfl,b,ds,t,rfl,_⟩ u hu;rw[List.mem_singleton.1 hu];rfl
 fr:=by rintro _ _ _ _ _ _ ⟨v,rfl,H⟩ f q;exact⟨v,rfl,H.fr f q⟩
 mono:=by rintro _ _ _ _ _ ⟨v,rfl,H⟩ q;exact⟨v,rfl,H.mono q⟩
theorem Yh {w:Nat}{ds:List Value}{n i:Nat}(A:ds.length=n*w)(hi:i<n):(el w ds i).length=w:=by
 have:i*w+w≤n*w:=by rw[←sI];exact gO w hi
 show((ds.drop (i*w)).take w).length=w;rw[di,ib];omega
theorem el_one {ds:List Value}{i:Nat}(hi:i<ds.length):el 1 ds i=[ds[i]]:=by
 show(ds.drop (i*1)).take 1=[ds[i]];rw[lW,AS hi];rfl
theorem Yi {w:Nat}{ds cs:List Value}{n i:Nat}(A:ds.length=n*w)(hi:i<n):el w (ds++cs) i=el w ds i:=by
 have:i*w+w≤n*w:=by rw[←sI];exact gO w hi
 show((ds++cs).drop (i*w)).take w=(ds.drop (i*w)).take w;rw[Nk ae,JU (by rw[ib];omega)]
theorem Yj {w:Nat}{ds cs:List Value}{n i:Nat}(A:ds.length=n*w)(hi:n≤i):el w (ds++cs) i=el w cs (i-n):=by
 have:n*w≤i*w:=gO w hi;show((ds++cs).drop (i*w)).take w=(cs.drop ((i-n)*w)).take w;rw[Nj, @List.drop_eq_nil_of_le _ ds _ ae,eZ,A,Nat.sub_mul]
theorem el_self {w:Nat}{cs:List Value}(A:cs.length=w):el w cs 0=cs:=by
 show(cs.drop (0*w)).take w=cs;rw[AR,Ni];exact fg ae
theorem Sl.atw {α:Type}{e:Rp α}{Z:Nat→Prop}{h:ai}{v:Value}{l:List α}(H:Sl e Z h v l)(F:0<e.w){k:IntKind}{i:Nat}(hi:i<l.length):
  ∃p cs,bh e.w v (.int k (i:Int))=some p∧aM e.w h p=some (.agg (List.toArray cs))∧e.R Z h cs l[i]:=by
 obtain⟨ds,G,I,A⟩:=H;obtain⟨p,D,hq⟩:=G.atw F (k:=k) hi;exact⟨p,_,D,hq,A i hi⟩
theorem Sl.atp {α:Type}{e:Rp α}{Z:Nat→Prop}{h:ai}{v:Value}{l:List α}(H:Sl e Z h v l)(hw:0<e.w){k:IntKind}{i:Nat}(hi:i<l.length):
  ∃b o cs,bh e.w v (.int k (i:Int))=some (.pointer (some ⟨b,o,none⟩))∧cs.length=e.w∧(∀j (F:j<cs.length),aE h ⟨b,o+j,none⟩=some cs[j])∧e.R Z h cs l[i]∧Z b:=by
 obtain⟨ds,⟨G,a,cap,rfl,I⟩,U,W⟩:=H;have A:i*e.w+e.w≤ds.length:=by rw[G,←sI];exact gO e.w hi
 have D:ds≠[]:=λh0=>by rw[h0]at A;simp at A;omega
 rcases I with h0|⟨b,o,rfl,I⟩
 ·exact absurd h0 D
 ·refine⟨b,o+i*e.w,el e.w ds i,ma hi,Yh G hi,λj F=>?_,W i hi,U D b rfl⟩;have L:j<e.w:=by rw[Yh G hi]at F;exact F
  have:=I (i*e.w+j) ae;rw[←vG]at this;rw[this];simp
theorem Sl.at1 {α:Type}{e:Rp α}(A:e.w=1){Z:Nat→Prop}{h:ai}{v:Value}{l:List α}(H:Sl e Z h v l){k:IntKind}{i:Nat}(hi:i<l.length):
  ∃p c,bh 1 v (.int k (i:Int))=some p∧ldV h p=some c∧e.R Z h [c] l[i]:=by
 obtain⟨ds,D,L,I⟩:=H;have G:=D.1;rw[A]at D;obtain⟨p,F,hq⟩:=D.at1 (k:=k) hi;refine⟨p,_,F,hq,?_⟩;have:=I i hi;rw[A,el_one (by rw[G,A];omega)]at this;exact this
def Ow {α:Type}(e:Rp α)(Z:Nat→Prop)(h:ai)(v:Value)(l:List α):Prop:=
 ∃ds,Own e.w h v l.length ds∧(∀b,blk v b→¬Z b)∧∀i (hi:i<l.length),e.R Z h (el e.w ds i) l[i]
theorem Ow.nil {α:Type}{e:Rp α}{Z:Nat→Prop}{h:ai}:Ow e Z h (.slice none 0 0) []:=⟨[],.inl ⟨rfl,rfl,rfl⟩,λb A=>A.elim,λi hi=>absurd hi (by simp)⟩
theorem Ow.fr {α:Type}{e:Rp α}{Z M:Nat→Prop}{h h':ai}{v:Value}{l:List α}(H:Ow e Z h v l)(f:Fr M h h')(q:∀b,b<h.size→Z b→¬M b)(G:∀b,blk v b→¬M b):Ow e Z h' v l:=by
 obtain⟨ds,A,F,D⟩:=H;exact⟨ds,A.fr f G,F,λi hi=>e.fr (D i hi) f q⟩
theorem Ow.ext {α:Type}{e:Rp α}{Z:Nat→Prop}{h h':ai}{v:Value}{l:List α}(H:Ow e Z h v l)(k:Ext h h'):Ow e Z h' v l:=H.fr (M:=λ_=>False) k.fr (λ_ _ _=>id) λ_ _=>id
theorem Ow.mono {α:Type}{e:Rp α}{Z Z':Nat→Prop}{h:ai}{v:Value}{l:List α}(H:Ow e Z h v l)(q:∀b,b<h.size→Z b→Z' b)(F:∀b,blk v b→¬Z' b):Ow e Z' h v l:=by
 obtain⟨ds,A,G,D⟩:=H;exact⟨ds,A,F,λi hi=>e.mono (D i hi) q⟩
theorem Ow.lt {α:Type}{e:Rp α}{Z:Nat→Prop}{h:ai}{v:Value}{l:List α}(H:Ow e Z h v l){b:Nat}(D:blk v b):b<h.size:=by
 obtain⟨ds,A,_⟩:=H;exact A.lt D
theorem Ow.isSl {α:Type}{e:Rp α}{Z:Nat→Prop}{h:ai}{v:Value}{l:List α}(H:Ow e Z h v l):∃a cap,v=.slice a l.length cap:=by
 obtain⟨ds,A,_⟩:=H;exact A.isSl
theorem Ow.one {α:Type}{e:Rp α}{Z:Nat→Prop}{h:ai}{v:Value}{l:List α}(H:Ow e Z h v l):aV v=true:=by
 obtain⟨a,cap,rfl⟩:=H.isSl;rfl
theorem Ow.sl {α:Type}{e:Rp α}{Z:Nat→Prop}{h:ai}{v:Value}{l:List α}(H:Ow e Z h v l):Sl e (λb=>Z b∨blk v b) h v l:=by
 obtain⟨ds,F,G,D⟩:=H;exact⟨ds,F.sl,λ_ b A=>.inr A,λi hi=>e.mono (D i hi) λ_ _ A=>.inl A⟩
theorem app_ow {α:Type}{e:Rp α}{Z:Nat→Prop}{z:Value}{t:TypeId}{bytes:Nat}{s x:Value}{h:ai}{l l2:List α}{K:Value→ai→Prop}
  {cs:List Value} (hs:Ow e Z h s l) (hc:SlC e.w h x l2.length cs) (G:∀i (hi:i<l2.length),e.R Z h (el e.w cs i) l2[i]) (hz:z.cells.size=e.w) (D:(l.length+l2.length)*bytes≤140737488355328) (hn:l.length+l2.length≤9223372036854775807) (hZ:∀b,Z b→b<h.size)
  (H:∀F h',Ow e Z h' F (l++l2)→Fr (blk s) h h'→(∀b,blk F b→blk s b∨h.size≤b)→K F h'):cR z t e.w bytes s x h K:=by
 obtain⟨ds,L,hd,he⟩:=hs;refine ui L hc ?_ hz D hn λF h' o' I n'=>H F h' ⟨ds++cs,?_,?_,?_⟩ I n'
 ·intro v hv;obtain⟨j,hj,rfl⟩:=pQ.1 hv;have U:=hc.1;have W:0<e.w:=by
   rcases Dt e.w with h0|h0
   ·rw[h0,Nat.mul_zero]at U;omega
   ·exact h0
  have hi:j/e.w<l2.length:=by rw[xg W];omega
  have:=e.one (G _ hi) (cs[j]) ?_
  ·exact this
  ·rw[pQ];have h1:j/e.w*e.w+j%e.w=j:=by rw[fG];exact oD j e.w
   have h2:j%e.w<e.w:=iO _ W;refine⟨j%e.w,by rw[Yh U hi];exact h2,?_⟩;simp only[vM,yA,h1]
 ·rw[cF];exact o'
 ·intro b D A;rcases n' b D with h1|h1
  ·exact hd b h1 A
  ·have:=hZ b A;omega
 ·intro i hi;rw[cF]at hi;by_cases h1:i<l.length
  ·rw[Yi L.sl.1 h1,ZA h1];exact e.fr (he i h1) I λb _ A D=>hd b D A
  ·rw[Yj L.sl.1 ae,List.getElem_append_right ae];exact e.fr (G _ ae) I λb _ A D=>hd b D A
theorem SlC.single {h:ai}{b:Nat}{t:TypeId}{cs:List Value}(r:h[b]? =some (.cells cs.toArray t (0,0))):SlC cs.length h (.slice (some ⟨b,0,none⟩) 1 1) 1 cs:=
 ⟨by simp,_,1,rfl,.inr ⟨b,0,rfl,λj A=>by rw[aO,ao r];simp[A]⟩⟩
theorem Ss:∀(cs:List Value) (c:Array Value) (o:Nat),(cs.zipIdx o).foldl (λcs (p:Value×Nat)=>cs.setIfInBounds p.2 p.1) c=wrL c o cs
 | [],c,o=>rfl
 |v::cs,c,o=>by
  simp only[List.zipIdx_cons,yw,wrL];exact Ss cs _ (o+1)
theorem fill_whole {c:Array Value}{w:Nat}{cs:List Value}(hc:c.size=w)(A:cs.length=w):aR c [(0,w,.agg cs.toArray)]=some cs.toArray:=by
 simp only[aR,bF];rw[aA (by simp[A,hc])]
 congr 1
 rw[Zz,Zy]
 ·simp only[aO];rw[Ss,S7 cs c ae]
 ·simp
theorem fill_one {z v:Value}(A:aV v=true):aR #[z] [(0,1,v)]=some #[v]:=by
 simp only[aR,cJ A];rw[aA (by simp)];simp
theorem push_ow {α:Type}{e:Rp α}{Z:Nat→Prop}{z:Value}{c:Array Value}{t t':TypeId}{bytes:Nat}{s:Value}{h:ai}{l:List α}{cs:List Value}{x:α}{K:Value→ai→Prop}
  (hs:Ow e Z h s l) (F:e.R Z h cs x) (hc:c.size=e.w) (W:z.cells.size=e.w) (hb:(l.length+1)*bytes≤140737488355328) (hn:l.length+1≤9223372036854775807) (L:∀b,Z b→b<h.size)
  (H:∀D h',Ow e Z h' D (l++[x])→Fr (blk s) h h'→(∀b,blk D b→blk s b∨h.size≤b)→K D h'):cO c t 1 [(0,e.w,.agg cs.toArray)] h λv2 h3=>cR z t' e.w bytes s v2 h3 K:=by
 refine cT (fill_whole hc (e.len F)) λb h1 r1 A n1=>?_
 have I:=SlC.single r1;rw[e.len F]at I;refine app_ow (l2:=[x]) (hs.ext A) I (λi hi=>?_) W (by simpa using hb) (by simpa using hn) (λk G=>ce (L k G) A.1) λD h' o' U n'=>
  H D h' o' (A.fr.trans U) λk G=>(n' k G).imp id λh2=>bA A.1 h2
 have hi:i=0:=by simpa using hi
 subst hi;rw[el_self (e.len F)];exact e.ext F A
theorem push_ow1 {α:Type}{e:Rp α}{Z:Nat→Prop}{z z' c:Value}{t L:TypeId}{bytes:Nat}{s:Value}{h:ai}{l:List α}{x:α}{K:Value→ai→Prop}(F:e.w=1)
  (hs:Ow e Z h s l) (I:e.R Z h [c] x) (hz:z.cells.size=1) (hb:(l.length+1)*bytes≤140737488355328) (hn:l.length+1≤9223372036854775807) (W:∀b,Z b→b<h.size)
  (H:∀D h',Ow e Z h' D (l++[x])→Fr (blk s) h h'→(∀b,blk D b→blk s b∨h.size≤b)→K D h'):cO #[z'] t 1 [(0,1,c)] h λv2 h3=>cR z L 1 bytes s v2 h3 K:=by
 refine cT (fill_one (e.one I c (by simp))) λb h1 r1 A n1=>?_
 have U:=SlC.single (cs:=[c]) r1;rw[show[c].length=e.w by rw[F];rfl]at U;have ee:cR z L 1 bytes s (.slice (some ⟨b,0,none⟩) 1 1) h1 K=cR z L e.w bytes s (.slice (some ⟨b,0,none⟩) 1 1) h1 K:=by rw[F]
 rw[ee];refine app_ow (l2:=[x]) (hs.ext A) U (λi hi=>?_) (hz.trans F.symm) (by simpa using hb) (by simpa using hn) (λk G=>ce (W k G) A.1) λD h' o' f' n'=>
  H D h' o' (A.fr.trans f') λk G=>(n' k G).imp id λh2=>bA A.1 h2
 have hi:i=0:=by simpa using hi
 subst hi;rw[el_self (e.len I)];exact e.ext I A
end Rp
theorem aU:∀v∈([]:List Value),aV v=true:=λv h=>absurd h (by simp)
theorem az {a:Value}{l:List Value}(h:aV a=true)(H:∀v∈l,aV v=true):∀v∈a::l,aV v=true:=λv A=>by
 rcases kC.1 A with rfl|A
 ·exact h
 ·exact H v A
theorem aW {h:ai}{b:Nat}{o:Obj}(r:h[b]? =some o):b<h.size:=(mT.1 r).1
theorem aQ {h:ai}{body:(ai→Prop)→Prop}(S:ai→Prop)(A:S h)(H:body S):bL h body:=⟨S,A,H⟩
theorem cX {c:Array Value}{t:TypeId}{n:Nat}{cs:List Value}{h:ai}{K:Value→ai→Prop}(U:cs.length=c.size)(h1:∀v∈cs,aV v=true)(L:cs.length=n)
  (H:∀b h',h'[b]? =some (.cells cs.toArray t (0,0))→Ext h h'→h.size≤b→K (.pointer (some ⟨b,0,none⟩)) h'):aT c t h λv D=>stK n v (.agg cs.toArray) D λ_ A=>K v A:=
 aI λb D r2 W F=>bI r2 U h1 L λA I G=>H b A I (W.upd F G) F
def I64 (n:Int):Prop:= -9223372036854775808≤n∧n≤9223372036854775807
def ko (m:Nat)(below:Bool):Int:=
 if below then(if 9223372036854775808≤m then-9223372036854775808 else-(m:Int))else(if 9223372036854775807<m then 9223372036854775807 else(m:Int))
def lH (a b:Int):Bool:= !(decide (a<0)==decide (b<0))
def yr (m d:Nat)(below:Bool):Nat:=m/d+(if below then(if d<2*(m%d)then 1 else 0)else(if d≤2*(m%d)then 1 else 0))
def Hs (m d:Nat)(below:Bool):Nat:=m/d+(if below∧m%d≠0 then 1 else 0)
def Lh (a b:Int):Int:=if b=0 then 0 else ko (Hs a.natAbs b.natAbs (lH a b)) (lH a b)
def df (a b d:Int):Int:=if d=0 then 0 else ko (yr (a.natAbs*b.natAbs) d.natAbs (lH a b != decide (d<0))) (lH a b != decide (d<0))
def Fq (a b:Int):Int:=max (-9223372036854775808) (min (a+b) 9223372036854775807)
def zdW (a b:Int):Int:=ko (a.natAbs*b.natAbs) (lH a b)
theorem Sq (m:Nat)(b:Bool):I64 (ko m b):=by
 unfold ko I64;cases b
 ·simp only[ig,cS];split<;>omega
 ·simp only[cV];split<;>omega
theorem Ak (a b:Int):I64 (Fq a b):=by unfold Fq I64;omega
theorem jA (n:Int):IntKind.i64.wrap n=(n+9223372036854775808)%18446744073709551616-9223372036854775808:=by
 show(if(true&&decide (n%(2^64:Int)≥(2^63:Int)))=true then n%(2^64:Int)-(2^64:Int)else n%(2^64:Int))=_;split
 ·rename_i hh;simp only[JX,dH]at hh;omega
 ·rename_i hh;simp only[JX,dH]at hh;omega
theorem fN (n:Int):IntKind.u64.wrap n=n%18446744073709551616:=by simp[IntKind.wrap,IntKind.bits,IntKind.signed]
theorem gF {m:Nat}(h:m<18446744073709551616):IntKind.u64.wrap (m:Int)=(m:Int):=by rw[fN];omega
theorem Vp {x:Int}(h:I64 x)(A:x<0):IntKind.u64.wrap (0-IntKind.u64.wrap x)=(x.natAbs:Int):=by
 unfold I64 at h;rw[fN,fN];omega
theorem Vo {x:Int}(h:I64 x)(A:¬x<0):IntKind.u64.wrap x=(x.natAbs:Int):=by
 unfold I64 at h;rw[fN];omega
theorem Wu (n i:Nat):n/2^i=2*(n/2^(i+1))+n/2^i%2:=by
 rw[Nh,←JT];omega
theorem zaE {n d q r bit:Nat}(hd:0<d)(G:n/d=q)(D:n%d=r)(H:bit≤1):
  (2*n+bit)/d=2*q+(if d≤2*r+bit then 1 else 0)∧(2*n+bit)%d=(if d≤2*r+bit then 2*r+bit-d else 2*r+bit):=by
 have h:=oD n d;rw[G,D]at h;have F:r<d:=D▸iO _ hd;have e:2*n+bit=d*(2*q)+(2*r+bit):=by
  rw[←h,Ez,JR];omega
 by_cases hc:d≤2*r+bit
 ·rw[aB hc,aB hc];have A:2*n+bit=(2*r+bit-d)+d*(2*q+1):=by rw[e,JR d (2*q) 1];omega
  rw[A];constructor
  ·rw[JQ _ _ hd,uw ae];omega
  ·rw[Ng,xf ae]
 ·rw[aA hc,aA hc];have A:2*n+bit=(2*r+bit)+d*(2*q):=by rw[e];omega
  rw[A];constructor
  ·rw[JQ _ _ hd,uw ae];omega
  ·rw[Ng,xf ae]
def pZ (n:Nat):Value:=.agg #[.int .u64 ((n/18446744073709551616:Nat):Int),.int .u64 ((n%18446744073709551616:Nat):Int)]
end Go.Crisp
namespace Go.Proofs.YtjljhnandbbldaaGreatDoor
open Go Go.Crisp
abbrev rI:Rp Int:=Rp.int .i64
structure OpD where
 kind:Int
 border:Int
 sigma:Int
 radius:Int
 x:List Int
 y:List Int
 filter:Int
 w:Int
 hh:Int
structure OpD.Wf (o:OpD):Prop where
 kind:I64 o.kind
 border:I64 o.border
 sigma:I64 o.sigma
 radius:I64 o.radius
 filter:I64 o.filter
 w:I64 o.w
 hh:I64 o.hh
 x:∀n∈o.x,I64 n
 y:∀n∈o.y,I64 n
def rOp:Rp OpD where
 w:=9
 R:=λZ h cs o=>∃s t,cs=[.int .i64 o.kind,.int .i64 o.border,.int .i64 o.sigma,.int .i64 o.radius,s,t,.int .i64 o.filter,.int .i64 o.w,.int .i64 o.hh]∧Rp.Sl rI Z h s o.x∧Rp.Sl rI Z h t o.y
 len:=by rintro _ _ _ _ ⟨s,t,rfl,_⟩;rfl
 one:=by
  rintro _ _ _ _ ⟨s,t,rfl,H,K⟩ v hv;have:=H.one;have:=K.one;simp only[List.mem_cons,List.not_mem_nil,or_false]at hv;rcases hv with rfl|rfl|rfl|rfl|rfl|rfl|rfl|rfl|rfl<;>first|rfl|assumption
 fr:=by rintro _ _ _ _ _ _ ⟨s,t,rfl,H,K⟩ f q;exact⟨s,t,rfl,H.fr f q,K.fr f q⟩
 mono:=by rintro _ _ _ _ _ ⟨s,t,rfl,H,K⟩ q;exact⟨s,t,rfl,H.mono q,K.mono q⟩
end Go.Proofs.YtjljhnandbbldaaGreatDoor
namespace Go.Crisp
open Go Go.ChangeShapes Go.WideShapes Go.ChangeAt Go.RowKit
inductive TS where
 |int (k:IntKind)
 |bool
 |str
 |sl (e:TS) (z:Nat)
 |st (b:TS)
 |unit
 |pair (a b:TS)
def TS.T:TS→Type
 | .int _=>Int
 | .bool=>Bool
 | .str=>ByteArray
 | .sl e _=>List e.T
 | .st b=>b.T
 | .unit=>Unit
 | .pair a b=>a.T×b.T
def TS.w:TS→Nat
 | .int _=>1
 | .bool=>1
 | .str=>1
 | .sl _ _=>1
 | .st b=>b.w
 | .unit=>0
 | .pair a b=>a.w+b.w
def Rd:(t:TS)→ai→List Value→t.T→Prop
 | .int k,_,cs,n=>cs=[.int k n]∧(Lit.int k n).wf=true
 | .bool,_,cs,b=>cs=[.bool b]
 | .str,_,cs,s=>cs=[.string s]∧s.size≤140737488351232
 | .sl e z,h,cs,l=>∃a cap,cs=[.slice a (List.length l) cap]∧List.length l≤cap∧cap≤maxLen∧cap*z≤140737488351232∧
   (List.length l=0∨∃b o,(e.w=0∨a=some ⟨b,o,none⟩)∧∀i (hi:i<List.length l),∃ds:List Value,ds.length=e.w∧
    (∀j (hj:j<ds.length),aE h ⟨b,o+i*e.w+j,none⟩=some ds[j])∧Rd e h ds (List.get (α:=e.T) l ⟨i,hi⟩))
 | .st b,h,cs,x=>Rd b h cs x
 | .unit,_,cs,_=>cs=[]
 | .pair a b,h,cs,x=>∃c1 c2,cs=c1++c2∧Rd a h c1 x.1∧Rd b h c2 x.2
mutual
/--The type has this shape. -/
def TS.okB (P:Program):TS→TypeId→Bool
 | .int k,t=>match P.underlying t with|some (.int k')=>decide (k'=k)|_=>false
 | .bool,t=>match P.underlying t with|some .bool=>true|_=>false
 | .str,t=>match P.underlying t with|some .string=>true|_=>false
 | .sl e z,t=>match P.underlying t with|some (.slice e')=>P.cellsOf e'==e.w&&P.bytesOf e'==z&&e.okB P e'|_=>false
 | .st b,t=>match P.underlying t with|some (.struct fs)=>P.cellsOf t==b.w&&b.okF P fs.toList 0|_=>false
 |_,_=>false
/--The fields have these shapes,from this place on. -/
def TS.okF (P:Program):TS→List Field→Nat→Bool
 | .unit,fs,_=>match fs with| []=>true|_=>false
 | .pair a b,fs,n=>match fs with| []=>false|f::fs=>f.offset==n&&P.cellsOf f.type==a.w&&a.okB P f.type&&b.okF P fs (n+a.w)
 |_,_,_=>false
end
def BX (l:List Nat):Prop:=∀n∈l,n≤140737488351232
theorem KA (b o n:Nat):(⟨b,o,none⟩:Addr).add n=⟨b,o+n,none⟩:=by
 unfold Addr.add;split<;>simp_all
theorem HC {w:World}{a:Addr}{n:Nat}{l:List Value}(h:w.cells? 0 a n=some l):l.length=n∧∀j (A:j<l.length),aE w.heap (a.add j)=some l[j]:=by
 unfold World.cells? at h;rw[aB (bZ _)]at h;have D:l.length=n:=by simpa using mapM_some_length h
 refine⟨D,λj A=>?_⟩;have:=mapM_some_get h j j (by simp[←D,A]);rw[gN A]at this;exact this
theorem Ad {a b:List Nat}(h:BX (a++b)):BX a∧BX b:=⟨λn A=>h n (gP.2 (.inl A)),λn A=>h n (gP.2 (.inr A))⟩
theorem Pp {a:Nat}{b:List Nat}(h:BX (a::b)):a≤140737488351232∧BX b:=⟨h a (Kb ..),λn A=>h n (xh _ A)⟩
theorem Si {H:Type}{P:Program}{e:TypeId}:∀{l:List (DataW H)},BX (DataW.weightsAll P e l)→∀d∈l,BX (d.weights P e)
 | [],_,d,hd=>by cases hd
 |x::r,h,d,hd=>by
  rw[DataW.weightsAll]at h;rcases kC.1 hd with rfl|hd
  ·exact(Ad h).1
  ·exact Si (Ad h).2 d hd
theorem zdL {H:Type}{enc:TypeId×Value→H}{P:Program}{w:World}{held:Bool}(t:TS):
  (∀(id:TypeId) (fuel:Nat) (cs:List Value) (x:DataW H×List MemPlace),t.okB P id=true→DataW.trod enc P w 0 (λ_=>true) held fuel id cs=some x→BX (x.1.weights P id)→∃d:t.T,Rd t w.heap cs d)∧
  (∀(L:List Field) (off fuel:Nat) (cs:List Value) (xs:List (DataW H×List MemPlace)),t.okF P L off=true→off+t.w=cs.length→
   L.mapM (λf=>DataW.trod enc P w 0 (λ_=>true) held fuel f.type ((cs.drop f.offset).take (P.cellsOf f.type)))=some xs→BX (DataW.weightsEach P (L.map (·.type)) (xs.map (·.1)))→∃d:t.T,Rd t w.heap (cs.drop off) d):=by
 induction t with
 |int k=>
  refine⟨λid fuel cs x ok h D=>?_,λ_ _ _ _ _ ok=>by simp[TS.okF]at ok⟩;rw[TS.okB]at ok;split at ok<;>simp at ok
  rename_i k' G;subst ok;obtain⟨n,rfl,_,hn⟩:=DataW.trod_int G h;exact⟨n,rfl,hn⟩
 |bool=>
  refine⟨λid fuel cs x ok h D=>?_,λ_ _ _ _ _ ok=>by simp[TS.okF]at ok⟩;rw[TS.okB]at ok;split at ok<;>simp at ok
  rename_i G;obtain⟨n,rfl,_⟩:=DataW.trod_bool G h;exact⟨n,by simp[Rd]⟩
 |str=>
  refine⟨λid fuel cs x ok h D=>?_,λ_ _ _ _ _ ok=>by simp[TS.okF]at ok⟩;rw[TS.okB]at ok;split at ok<;>simp at ok
  rename_i G;obtain⟨s,rfl,rfl,_⟩:=DataW.trod_string G h;simp only[DataW.weights]at D;have:=(Pp D).1;exact⟨s,rfl,by rw[Ke]at this;exact this⟩
 | sl e z ih=>
  refine⟨λid fuel cs x ok h D=>?_,λ_ _ _ _ _ ok=>by simp[TS.okF]at ok⟩;rw[TS.okB]at ok;split at ok<;>simp at ok
  rename_i e' G;obtain⟨⟨hc,hz⟩,ok⟩:=ok;rcases DataW.trod_slice G h with⟨rfl,rfl⟩|⟨a,len,cap,I,rest,n,rfl,rfl,rfl,_,be,ay,b3,hi,bv,_⟩
  ·exact⟨([]:List e.T),none,0,rfl,ck _,bZ _,by simp,.inl rfl⟩
  ·obtain⟨b2,_⟩:=bv rfl;rw[DataW.weights,G]at D;simp only[da]at D;obtain⟨an,D⟩:=Pp D;have D:=Si (Ad D).1;have al:I.length+rest.length=cap:=ae;rw[al,hz]at an;have each:∀i,i<len→∃(ds:List Value) (x:e.T),ds.length=e.w∧(∀j (W:j<ds.length),aE w.heap ((a.add (i*e.w)).add j)=some ds[j])∧Rd e w.heap ds x:=by
    intro i A;have h1:=hi i A;have am:i<I.length:=ae;rw[gN am]at h1;rw[Ux]at h1;obtain⟨ds,ad,h1⟩:=h1;rw[hc]at ad;obtain⟨U,W⟩:=HC ad;obtain⟨x,hx⟩:=ih.1 e' n ds _ ok h1 (D _ (gQ.2 ⟨_,cQ am,rfl⟩));exact⟨ds,x,U,W,hx⟩
   let f (i:Nat):Option e.T:=if A:i<len then some (each i A).choose_spec.choose else none
   have hf:∀i,i<len→∃y,f i=some y:=λi A=>⟨_,JP A⟩
   obtain⟨l,U⟩:∃l,(List.range len).mapM f=some l:=by
    have:∀(r:List Nat),(∀i∈r,i<len)→∃l,r.mapM f=some l:=by
     intro r;induction r with
     |nil=>exact λ_=>⟨[],rfl⟩
     |cons i r au=>
      intro hr;obtain⟨y,hy⟩:=hf i (hr i (Kb ..));obtain⟨l,U⟩:=au λk G=>hr k (xh _ G)
      exact⟨y::l,by simp[Ka,hy,U]⟩
    exact this _ λi hi=>uA.1 hi
   have aa:l.length=len:=by simpa using mapM_some_length U
   refine⟨l,some a,cap,by rw[aa],by rw[aa];exact be,ay,an,?_⟩;by_cases ar:List.length l=0
   ·exact .inl ar
   ·have hs:e.w=0∨a=⟨a.block,a.off,none⟩:=by
     by_cases h0:e.w=0
     ·exact .inl h0
     ·refine .inr ?_;obtain⟨ds,x,b4,W,_⟩:=each 0 ae;have W:=W 0 ae;obtain⟨b,o,sp⟩:=a;cases sp with
      |none=>rfl
      |some s=>simp[aE,Addr.add]at W;split at W<;>simp at W
    refine .inr ⟨a.block,a.off,hs.imp (λh=>h) (congrArg some),λi A=>?_⟩
    ·have F:i<len:=by rw[←aa];exact A
     obtain⟨h1,h2,h3⟩:=(each i F).choose_spec.choose_spec;have hx:l.get ⟨i,A⟩=(each i F).choose_spec.choose:=by
      have:=mapM_some_get U i i (by simp[F]);rw[show f i=some (each i F).choose_spec.choose from JP F,gN A]at this;exact(oE this).symm
     refine⟨(each i F).choose,h1,λj W=>?_,?_⟩
     ·have h2:=h2 j W;rcases hs with h0|ha
      ·omega
      ·have a9:(a.add (i*e.w)).add j=⟨a.block,a.off+i*e.w+j,none⟩:=by rw[ha,KA,KA]
       exact a9▸h2
     ·rw[show List.get (α:=e.T) l ⟨i,A⟩=_ from hx];exact h3
 | st b ih=>
  refine⟨λid fuel cs x ok h D=>?_,λ_ _ _ _ _ ok=>by simp[TS.okF]at ok⟩;rw[TS.okB]at ok;split at ok<;>simp at ok
  rename_i L G;obtain⟨hc,ok⟩:=ok;cases fuel with
  |zero=>simp[DataW.trod]at h
  | succ n=>
   unfold DataW.trod at h;rw[G]at h;simp only at h;split at h
   ·rename_i a8;rw[Option.map_eq_some_iff]at h;obtain⟨xs,b0,rfl⟩:=h;rw[DataW.weights,G]at D;obtain⟨d,hd⟩:=ih.2 L.toList 0 n cs xs ok (by rw[a8,hc];omega) b0 D;exact⟨d,by simpa[Rd]using hd⟩
   ·simp at h
 |unit=>
  refine⟨λid fuel cs x ok h D=>by simp[TS.okB]at ok,λL off fuel cs xs ok U h D=>⟨(),?_⟩⟩;simp only[Rd];simp[TS.w]at U;exact oC ae
 | pair a b bd bo=>
  refine⟨λid fuel cs x ok h D=>by simp[TS.okB]at ok,λL off fuel cs xs ok U h D=>?_⟩;cases L with
  |nil=>simp[TS.okF]at ok
  |cons f L=>
   simp[TS.okF]at ok;obtain⟨⟨⟨ho,hc⟩,bg⟩,bk⟩:=ok;rw[Ka]at h;simp only[Option.bind_eq_bind,Ux,Option.pure_def,cP]at h;obtain⟨x,hx,ys,b1,rfl⟩:=h;simp only[yV,DataW.weightsEach]at D;obtain⟨ax,a7⟩:=Ad D;obtain⟨d1,h1⟩:=bd.1 f.type fuel _ x bg hx ax;obtain⟨d2,h2⟩:=bo.2 L (off+a.w) fuel cs ys bk (by simp[TS.w]at U;omega) b1 a7;refine⟨(d1,d2),(cs.drop off).take a.w,cs.drop (off+a.w),?_,?_,h2⟩
   ·rw[←EF];exact(mS ..).symm
   ·rw[←hc,←ho];exact h1
def RdV:(t:TS)→ai→Value→t.T→Prop
 | .st b,h,v,x=>∃cs:Array Value,v=.agg cs∧Rd b h cs.toList x
 | .int k,h,v,x=>Rd (.int k) h [v] x
 | .bool,h,v,x=>Rd .bool h [v] x
 | .str,h,v,x=>Rd .str h [v] x
 | .sl e z,h,v,x=>Rd (.sl e z) h [v] x
 |_,_,_,_=>False
def xJ:List TS→ai→List Value→Prop
 | [],_,vs=>vs=[]
 |t::ts,h,vs=>∃v r,vs=v::r∧(∃x:t.T,RdV t h v x)∧xJ ts h r
def Jz (P:Program):List TS→List TypeId→Bool
 | [],ids=>match ids with| []=>true|_=>false
 |t::ts,ids=>match ids with| []=>false|id::ids=>t.okB P id&&Jz P ts ids
theorem zfh {H:Type}{enc:TypeId×Value→H}{P:Program}{w:World}{held:Bool}{r:Reach}{G:Nat}{t:TS}{id:TypeId}{v:Value}{d:DataW H}{L:List MemPlace}
  (ok:t.okB P id=true) (A:Value.okWide P w r G id v) (h:DataW.Trod enc P w 0 (λ_=>true) held id v d L) (U:BX (d.weights P id)):∃x:t.T,RdV t w.heap v x:=by
 obtain⟨fuel,I⟩:=h;obtain⟨x,F⟩:=(zdL t).1 id fuel _ _ ok I U;cases t with
 |int k=>
  rw[TS.okB]at ok;split at ok<;>simp at ok
  rename_i D;obtain⟨n,rfl⟩:=okWide_int D A;exact⟨x,F⟩
 |bool=>
  rw[TS.okB]at ok;split at ok<;>simp at ok
  rename_i D;obtain⟨n,rfl⟩:=okWide_bool D A;exact⟨x,F⟩
 |str=>
  rw[TS.okB]at ok;split at ok<;>simp at ok
  rename_i D;obtain⟨n,rfl⟩:=okWide_string D A;exact⟨x,F⟩
 |sl e z=>
  rw[TS.okB]at ok;split at ok<;>simp at ok
  rename_i D;obtain⟨a,l,c,rfl⟩:=okWide_slice D A;exact⟨x,F⟩
 |st b=>
  rw[TS.okB]at ok;split at ok<;>simp at ok
  rename_i D;obtain⟨cs,rfl,_⟩:=okWide_struct D A;exact⟨x,cs,rfl,F⟩
 |unit=>simp[TS.okB]at ok
 |pair a b=>simp[TS.okB]at ok
theorem zai {H:Type}{enc:TypeId×Value→H}{P:Program}{w:World}{held:Bool}{r:Reach}{A:Nat}:∀{ts:List TS} {ids:List TypeId} {D:List Value} {ds:List (DataW H)} {F:List MemPlace},
  Jz P ts ids=true→(∀(j:Nat) t v,ids[j]? =some t→D[j]? =some v→Value.okWide P w r A t v)→DataW.TrodAll enc P w 0 (λ_=>true) held ids D ds F→
  BX (DataW.weightsEach P ids ds)→xJ ts w.heap D
 | [],ids,D,ds,F,ok,_,h,_=>by
  cases ids with
  |nil=>exact(trodAll_nil h).1
  |cons=>simp[Jz]at ok
 | t::ts,ids,D,ds,F,ok,hval,h,hw=>by
  cases ids with
  |nil=>simp[Jz]at ok
  |cons id ids=>
   simp[Jz]at ok;obtain⟨v,I,d,W,p,q,rfl,rfl,rfl,h1,U⟩:=trodAll_cons h;rw[DataW.weightsEach]at hw;obtain⟨L,G⟩:=Ad hw;exact⟨v,I,rfl,zfh ok.1 (hval 0 id v rfl rfl) h1 L,zai ok.2 (λj t v ht hv=>hval (j+1) t v ht hv) U G⟩
theorem SD {H:Type}{enc:TypeId×Value→H}{P:Program}{W F:World}(G:laidOutB P=true)(I:Below W.heap.size W F):∀{ids:List TypeId} {D:List Value} {ds:List (DataW H)} {A:List MemPlace},
  ids.all (λt=>P.readableRec t&&decide (t<P.types.size))=true→DataW.TrodAll enc P W 0 (λ_=>true) true ids D ds A→DataW.TrodAll enc P F 0 (λb=>decide (b<W.heap.size)) true ids D ds A
 | [],D,ds,A,_,h=>by obtain⟨rfl,rfl,rfl⟩:=trodAll_nil h;exact trodAll_mk0
 |t::ids,D,ds,A,hr,h=>by
  simp only[List.all_cons,dt,dH]at hr;obtain⟨v,U,d,aa,p,q,rfl,rfl,rfl,h1,h2⟩:=trodAll_cons h;refine trodAll_cons_mk (Below.trod G hr.1.1 hr.1.2 h1 I ?_) (SD G I hr.2 h2);obtain⟨m,L⟩:=h1;exact DataW.trod_lt m _ _ _ L
end Go.Crisp
namespace Go.Crisp
open Go
theorem XB {e:TS}{z:Nat}{h:ai}{cs:List Value}{l:List e.T}(enc:e.T→Value)(Q:e.T→Prop)(W:e.w=1)(U:∀ds x,Rd e h ds x→ds=[enc x]∧Q x)(H:Rd (.sl e z) h cs l):
  ∃v,cs=[v]∧SlC 1 h v l.length (l.map enc)∧(∀x∈l,Q x)∧l.length*z≤140737488351232:=by
 obtain⟨a,cap,rfl,h1,_,h2,A⟩:=H;have I:l.length*z≤140737488351232:=bA (gO z h1) h2;rcases A with A|⟨b,o,G,A⟩
 ·have:l=[]:=lg A;subst this;exact⟨_,rfl,⟨rfl,a,cap,rfl,.inl rfl⟩,λx F=>absurd F (by simp),I⟩
 ·have G:a=some ⟨b,o,none⟩:=G.resolve_left ae;refine⟨_,rfl,⟨by simp,a,cap,rfl,.inr ⟨b,o,G,λj L=>?_⟩⟩,λx F=>?_,I⟩
  ·rw[da]at L;obtain⟨ds,_,hc,D⟩:=A j L;obtain⟨rfl,_⟩:=U _ _ D;have:=hc 0 (by simp);rw[W]at this;simp only[lW,ic,EB]at this;rw[eE];exact this
  ·obtain⟨i,hi,rfl⟩:=pQ.1 F;obtain⟨ds,_,hc,D⟩:=A i hi;exact(U _ _ D).2
theorem zeZ {n:Int}(h:(Lit.int .u8 n).wf=true):0≤n∧n≤255:=by
 have h:(decide (IntKind.u8.min≤n)&&decide (n≤IntKind.u8.max))=true:=h;rw[dt,dH,dH]at h;exact h
theorem Dx {n:Int}(h:(Lit.int .i64 n).wf=true): -9223372036854775808≤n∧n≤9223372036854775807:=by
 have h:(decide (IntKind.i64.min≤n)&&decide (n≤IntKind.i64.max))=true:=h;rw[dt,dH,dH]at h;exact h
theorem zfe {h:ai}{cs:List Value}{z:Nat}{l:List Int}(H:Rd (.sl (.int .u8) z) h cs l):
  ∃v,cs=[v]∧SlC 1 h v l.length (l.map (.int .u8))∧(∀x∈l,0≤x∧x≤255)∧l.length*z≤140737488351232:=
 XB (e:=.int .u8) (Value.int .u8) (λx:Int=>0≤x∧x≤255) rfl (λds x A=>⟨A.1,zeZ A.2⟩) H
end Go.Crisp
namespace Go.Proofs.YtjljhnandbbldaaGreatDoor
open Go Go.Crisp
abbrev tI:TS:=.int .i64
abbrev tIs:TS:=.sl (.int .i64) 8
abbrev tOp:TS:=.pair tI (.pair tI (.pair tI (.pair tI (.pair tIs (.pair tIs (.pair tI (.pair tI (.pair tI .unit))))))))
def VL (x:tOp.T):OpD:=⟨x.1,x.2.1,x.2.2.1,x.2.2.2.1,x.2.2.2.2.1,x.2.2.2.2.2.1,x.2.2.2.2.2.2.1,x.2.2.2.2.2.2.2.1,x.2.2.2.2.2.2.2.2.1⟩
theorem zax {h:ai}{v:Value}{l:List Int}(H:SlC 1 h v l.length (l.map (Value.int .i64))):Rp.Sl rI (λ_=>True) h v l:=
 ⟨_,H,λ_ _ _=>trivial,λi hi=>by
  show Rp.el 1 _ i=[af l[i]];rw[Rp.el_one (by simpa using hi),eE]⟩
theorem ZO {h:ai}{cs:List Value}{l:List Int}(H:Rd tIs h cs l):∃v,cs=[v]∧Rp.Sl rI (λ_=>True) h v l∧∀n∈l,I64 n:=by
 obtain⟨v,rfl,h1,D,_⟩:=XB (e:=.int .i64) (Value.int .i64) I64 rfl (λds x A=>⟨A.1,Dx A.2⟩) H;exact⟨v,rfl,zax h1,D⟩
theorem ze0 {h:ai}{cs:List Value}{x:tOp.T}(H:Rd tOp h cs x):rOp.R (λ_=>True) h cs (VL x)∧(VL x).Wf:=by
 obtain⟨_,_,rfl,⟨rfl,a1⟩,_,_,rfl,⟨rfl,a2⟩,_,_,rfl,⟨rfl,a3⟩,_,_,rfl,⟨rfl,a4⟩,_,_,rfl,a5,_,_,rfl,a6,_,_,rfl,⟨rfl,G⟩,_,_,rfl,⟨rfl,F⟩,_,_,rfl,⟨rfl,I⟩,rfl⟩:=H;obtain⟨s,rfl,D,A⟩:=ZO a5;obtain⟨t,rfl,t1,t2⟩:=ZO a6;exact⟨⟨s,t,rfl,D,t1⟩,⟨Dx a1,Dx a2,Dx a3,Dx a4,Dx G,Dx F,Dx I,A,t2⟩⟩
theorem zfl {h:ai}{cs:List Value}{x:tOp.T}(H:Rd tOp h cs x):(VL x).x.length≤17592186044416∧(VL x).y.length≤17592186044416:=by
 obtain⟨_,_,rfl,_,_,_,rfl,_,_,_,rfl,_,_,_,rfl,_,_,_,rfl,a5,_,_,rfl,a6,_⟩:=H;obtain⟨_,L,_,h1,_,F,_⟩:=a5;obtain⟨_,I,_,G,_,U,_⟩:=a6;have A:(VL x).x.length=List.length (α:=tI.T) x.2.2.2.2.1:=rfl;have D:(VL x).y.length=List.length (α:=tI.T) x.2.2.2.2.2.1:=rfl;rw[A,D];omega
end Go.Proofs.YtjljhnandbbldaaGreatDoor
namespace Go.Proofs.YtjljhnandbbldaaGreatDoor
open Go Go.Crisp
open _root_.Go.Proofs.Tryz
section
variable {a0 a1 a2 a3 a4 a5 a6:Value}{h:ai}{R:Value→ai→Prop}
abbrev qJ:FuncId:=5
abbrev kU:FuncId:=7
abbrev sW:FuncId:=8
abbrev yK:FuncId:=9
abbrev jx:FuncId:=10
abbrev mx:FuncId:=11
abbrev iW:FuncId:=12
abbrev kg:FuncId:=13
abbrev lN:FuncId:=14
abbrev bu:FuncId:=16
abbrev lM:FuncId:=18
abbrev y5:FuncId:=19
abbrev wj:FuncId:=20
abbrev Bb:FuncId:=21
abbrev qF:FuncId:=22
abbrev qI:FuncId:=23
abbrev sA:FuncId:=24
abbrev oL:FuncId:=25
abbrev cf:FuncId:=28
abbrev cj:FuncId:=29
abbrev um:FuncId:=31
abbrev oZ:FuncId:=32
abbrev zh:FuncId:=33
abbrev zg:FuncId:=34
abbrev Bo:FuncId:=35
abbrev oK:FuncId:=36
abbrev gY:FuncId:=37
abbrev fM:FuncId:=38
abbrev iY:FuncId:=39
abbrev DW:FuncId:=40
abbrev mG:FuncId:=41
abbrev sr:FuncId:=42
abbrev si:FuncId:=43
abbrev lh:FuncId:=44
abbrev eO:FuncId:=46
abbrev uK:FuncId:=47
abbrev xB:FuncId:=48
abbrev jy:FuncId:=49
abbrev mZ:FuncId:=50
abbrev oM:FuncId:=51
abbrev sP:FuncId:=52
abbrev vV:FuncId:=53
abbrev qx:FuncId:=54
abbrev vU:FuncId:=55
abbrev sV:FuncId:=56
abbrev js:FuncId:=59
abbrev gT:FuncId:=60
abbrev QE:FuncId:=61
abbrev wA:FuncId:=62
abbrev Ec:FuncId:=63
abbrev p9:FuncId:=64
abbrev oW:FuncId:=65
abbrev zj:FuncId:=66
abbrev dd:FuncId:=67
abbrev fm:FuncId:=68
abbrev jP:FuncId:=69
abbrev lk:FuncId:=70
abbrev kh:FuncId:=71
abbrev bR:FuncId:=72
abbrev dG:FuncId:=73
abbrev Bp:FuncId:=74
abbrev pd:FuncId:=75
abbrev eo:FuncId:=76
abbrev un:FuncId:=77
abbrev mY:FuncId:=78
abbrev ju:FuncId:=79
abbrev Bt:FuncId:=80
abbrev xH:FuncId:=81
abbrev QF:FuncId:=82
abbrev DX:FuncId:=83
abbrev Bs:FuncId:=84
abbrev mu:FuncId:=85
abbrev ms:FuncId:=86
abbrev mq:FuncId:=87
abbrev y6:FuncId:=88
abbrev iE:FuncId:=89
abbrev ja:FuncId:=90
abbrev jw:FuncId:=91
abbrev sw:FuncId:=92
abbrev oJ:FuncId:=93
abbrev iZ:FuncId:=94
abbrev gE:FuncId:=95
abbrev iy:FuncId:=96
abbrev sq:FuncId:=97
abbrev kI:FuncId:=98
abbrev qE:FuncId:=99
abbrev je:FuncId:=100
abbrev iz:FuncId:=101
abbrev wh:FuncId:=102
abbrev gC:FuncId:=103
abbrev nP:FuncId:=104
abbrev bM:FuncId:=105
abbrev qH:FuncId:=106
abbrev Bd:FuncId:=107
abbrev qu:FuncId:=108
abbrev qw:FuncId:=109
abbrev gb:FuncId:=110
abbrev If:FuncId:=111
abbrev xG:FuncId:=112
abbrev sZ:FuncId:=113
abbrev nG:FuncId:=117
abbrev td:FuncId:=118
abbrev Bn:FuncId:=119
abbrev mm:FuncId:=120
abbrev Bq:FuncId:=121
abbrev qh:FuncId:=122
abbrev zo:FuncId:=123
abbrev zk:FuncId:=124
abbrev qa:FuncId:=125
abbrev gX:FuncId:=126
abbrev dY:FuncId:=127
abbrev ll:FuncId:=128
abbrev ml:FuncId:=129
abbrev jH:FuncId:=130
abbrev gx:FuncId:=131
abbrev yI:FuncId:=132
abbrev ng:FuncId:=133
abbrev lQ:FuncId:=134
abbrev dN:FuncId:=135
abbrev LC:FuncId:=136
abbrev vW:FuncId:=137
abbrev Bg:FuncId:=138
abbrev Bf:FuncId:=139
abbrev Ed:FuncId:=140
abbrev Be:FuncId:=141
abbrev sQ:FuncId:=142
abbrev Ie:FuncId:=143
abbrev ki:FuncId:=144
abbrev ij:FuncId:=145
abbrev Bx:FuncId:=146
abbrev qn:FuncId:=147
abbrev my:FuncId:=148
abbrev nU:FuncId:=149
abbrev gw:FuncId:=150
abbrev iu:FuncId:=151
abbrev dx:FuncId:=152
abbrev dZ:FuncId:=153
abbrev yG:FuncId:=154
abbrev Bc:FuncId:=155
abbrev uH:FuncId:=156
abbrev zD:FuncId:=157
abbrev zE:FuncId:=158
abbrev qg:FuncId:=162
abbrev EV:FuncId:=163
abbrev kf:FuncId:=164
abbrev lL:FuncId:=165
abbrev nR:FuncId:=166
abbrev DU:FuncId:=167
abbrev ul:FuncId:=168
abbrev sX:FuncId:=169
abbrev zq:FuncId:=170
abbrev xI:FuncId:=171
abbrev xA:FuncId:=172
abbrev Ic:FuncId:=173
abbrev jn:FuncId:=174
abbrev mV:FuncId:=175
abbrev oH:FuncId:=176
abbrev mo:FuncId:=177
abbrev Br:FuncId:=178
abbrev mE:FuncId:=179
abbrev qA:FuncId:=180
abbrev rY:FuncId:=181
abbrev Bh:FuncId:=182
abbrev qC:FuncId:=183
abbrev qB:FuncId:=184
abbrev sY:FuncId:=185
abbrev uo:FuncId:=186
abbrev xD:FuncId:=187
abbrev gA:FuncId:=188
abbrev yJ:FuncId:=199
abbrev Bm:FuncId:=200
abbrev Eb:FuncId:=201
abbrev A9:FuncId:=202
abbrev Ba:FuncId:=203
abbrev kW:FuncId:=204
abbrev fH:FuncId:=205
abbrev mX:FuncId:=206
abbrev nh:FuncId:=207
abbrev yE:FuncId:=208
abbrev Bv:FuncId:=209
abbrev gy:FuncId:=210
abbrev ft:FuncId:=211
abbrev zt:FuncId:=212
abbrev kK:FuncId:=213
abbrev gB:FuncId:=214
abbrev qL:FuncId:=215
abbrev Bw:FuncId:=216
abbrev qe:FuncId:=217
abbrev lK:FuncId:=218
abbrev rX:FuncId:=219
abbrev mW:FuncId:=220
abbrev uG:FuncId:=221
abbrev qp:FuncId:=222
abbrev uF:FuncId:=223
abbrev qy:FuncId:=224
abbrev yH:FuncId:=225
abbrev jp:FuncId:=226
abbrev y9:FuncId:=227
abbrev y7:FuncId:=228
abbrev dE:FuncId:=229
abbrev LB:FuncId:=236
abbrev Bk:FuncId:=237
abbrev xF:FuncId:=238
abbrev xC:FuncId:=239
abbrev eG:FuncId:=240
abbrev nQ:FuncId:=241
abbrev yD:FuncId:=242
abbrev yL:FuncId:=243
abbrev jz:FuncId:=244
abbrev mH:FuncId:=245
abbrev iU:FuncId:=246
abbrev lP:FuncId:=247
abbrev kV:FuncId:=248
abbrev Ig:FuncId:=249
abbrev Bu:FuncId:=250
abbrev uL:FuncId:=251
abbrev qf:FuncId:=252
abbrev uk:FuncId:=253
abbrev fo:FuncId:=254
abbrev qG:FuncId:=255
abbrev gZ:FuncId:=256
abbrev zy:FuncId:=257
abbrev zv:FuncId:=258
abbrev vZ:FuncId:=259
abbrev nT:FuncId:=260
abbrev qs:FuncId:=261
abbrev rW:FuncId:=262
abbrev qk:FuncId:=263
abbrev DZ:FuncId:=264
abbrev rZ:FuncId:=265
abbrev xE:FuncId:=266
abbrev vY:FuncId:=267
abbrev DY:FuncId:=268
abbrev sU:FuncId:=269
abbrev nF:FuncId:=270
abbrev Ea:FuncId:=271
abbrev y8:FuncId:=272
abbrev vX:FuncId:=273
abbrev sS:FuncId:=274
abbrev gG:FuncId:=275
abbrev uJ:FuncId:=276
abbrev Ib:FuncId:=278
abbrev yF:FuncId:=279
abbrev uE:FuncId:=280
abbrev sO:FuncId:=281
abbrev jc:FuncId:=282
abbrev Ee:FuncId:=283
abbrev dF:FuncId:=284
abbrev cq:FuncId:=285
abbrev KE:FuncId:=286
abbrev lO:FuncId:=287
abbrev iX:FuncId:=288
abbrev iD:FuncId:=289
abbrev qi:FuncId:=290
abbrev fD:FuncId:=291
abbrev mF:FuncId:=292
abbrev Bi:FuncId:=293
abbrev uI:FuncId:=294
abbrev wg:FuncId:=295
abbrev jq:FuncId:=296
abbrev ed:FuncId:=297
abbrev fU:FuncId:=298
abbrev jr:FuncId:=299
abbrev sT:FuncId:=300
abbrev kJ:FuncId:=301
abbrev vT:FuncId:=302
abbrev A8:FuncId:=303
abbrev iV:FuncId:=304
abbrev dW:FuncId:=306
abbrev D0:FuncId:=307
abbrev sh:FuncId:=308
abbrev qD:FuncId:=309
abbrev dw:FuncId:=310
abbrev p8:Nat:=0
abbrev gh:Nat:=1
abbrev Am:Nat:=2
abbrev xO:Nat:=3
theorem zeg:ZS prog=true:=rfl
instance:mh prog:=⟨zeg⟩
abbrev EW:Array Value:=#[(.pointer none),(.pointer none),(.pointer none),(.pointer none),(.int .i64 0),(.int .i64 0),(.int .i64 0),(.int .i64 0),(.int .i64 0),(.int .i64 0),(.int .i64 0),(.int .i64 0),(.int .i64 0),(.int .i64 0),(.int .i64 0),(.pointer none),(.int .i64 0)]
abbrev ru:Array Value:=#[(.pointer none),(.pointer none),(.pointer none),(.pointer none),(.pointer none),(.slice none 0 0),(.slice none 0 0),(.slice none 0 0),(.int .i64 0),(.slice none 0 0),(.slice none 0 0),(.slice none 0 0),(.bool false),(.int .i64 0)]
abbrev aK:Array Value:=#[(.slice none 0 0),(.slice none 0 0),(.int .i64 0),(.int .i64 0),(.int .i64 0),(.int .i64 0),(.slice none 0 0),(.slice none 0 0),(.int .i64 0),(.slice none 0 0),(.bool false),(.slice none 0 0),(.slice none 0 0),(.slice none 0 0),(.int .i64 0),(.bool false),(.bool false),(.slice none 0 0),(.slice none 0 0),(.slice none 0 0)]
def wW (a0 a1 a2 a3 a4 a5 a6:Value)(h:ai)(R:Value→ai→Prop):Prop:=
 aT (Value.cells a0) 25 h λah a7=>
 aT (Value.cells a1) 31 a7 λal a8=>
 ag prog kU #[] a8 λa9 x=>
 vK (unV .not a9) λy=>
 vK (gV y false (some a6)) λba=>
 vK (gV y false (aD ba)) λbb=>
 vK (gV y false (ak .i .gtr bb (af 300))) λbc=>
 vK (aH y (.bool true) bc) λbd=>
 aG bd (
 ag prog kU #[] x λbe bf=>
 R be bf) (
 vK (aM 5 x ah) λbg=>
 vK (aM 9 x al) λbi=>
 ag prog sW #[bg,bi,a2,a3,a4,a5] x λz bj=>
 vK (aP z 0) λee=>
 vK (aP z 1) λc=>
 vK (aP z 2) λbk=>
 vK (aP z 3) λbl=>
 aT aK 48 bj λa bm=>
 stK 20 a bk bm λef d=>
 vK (unV .not bl) λbn=>
 aG bn (
 vK (aM 5 d ah) λbo=>
 vK (aM 9 d al) λbp=>
 ag prog yK #[bo,bp] d λbq br=>
 vK (unV .not bq) λbs=>
 R bs br) (
 bL d λS=>
 vK (ak .p .eql c (.pointer none)) λj=>
 vK (gV j false (some c)) λbt=>
 qK S (λd=>gV j false (aM 20 d a)) λbu=>
 gK j false (λbv=>ag prog lM #[bt] d bv) d λbw aa=>
 S aa∧(gK j false (λbx=>ag prog y5 #[bu] aa bx) aa λbz k=>
 bL k λS=>
 vK (gV j false (ak .i .neq bw bz)) λb0=>
 vK (aH j (.bool true) b0) λe=>
 vK (gV e false (some c)) λb1=>
 vK (gV e false (aC 12 a)) λb2=>
 qK S (λk=>gV e false (ldV k b2)) λb3=>
 qK S (λk=>gV e false (aD b3)) λb4=>
 vK (gV e false (ak .i .add b4 aJ)) λb5=>
 gK e false (λb6=>ag prog iW #[b1] k b6) k λb7 q=>
 S q∧(vK (gV e false (ak .i .neq b7 b5)) λb8=>
 vK (aH e (.bool true) b8) λr=>
 vK (gV r false (some c)) λb9=>
 qK S (λq=>gV r false (aM 20 q a)) λca=>
 gK r false (λcb=>ag prog wj #[b9,ca,aj] q cb) q λcc am=>
 vK (gV r false (unV .not cc)) λcd=>
 vK (aH r (.bool true) cd) λce=>
 aG ce (
 R (.bool false) am) (
 vK (aD a6) λcf=>
 bC [aj,aj] am λs eg t cg=>
 vK (ak .i .lss (ix s 1) cf) λch=>
 aG ch (
 vK (bh 1 a6 (ix s 1)) λci=>
 vK (ldV t ci) λcj=>
 vK (ak .i .rem cj (.int .u8 8)) λck=>
 vK (gS .i64 ck) λcl=>
 vK (ak .i .sub cl aJ) λan=>
 vK (aC 13 a) λcm=>
 vK (ldV t cm) λcn=>
 vK (aD cn) λco=>
 vK (aM 20 t a) λcp=>
 ag prog Bb #[cp,an] t λao cq=>
 vK (aP ao 0) λcr=>
 vK (aP ao 1) λap=>
 aT aK 48 cq λaq cs=>
 stK 20 aq cr cs λeh ar=>
 vK (aM 20 ar aq) λct=>
 stK 20 a ct ar λei cu=>
 ag prog kg #[c,an] cu λcv ab=>
 vK (ak .b .neq cv ap) λcw=>
 aG cw (
 R (.bool false) ab) (
 eM (λau=>
 aG ap (
 vK (ak .i .add (ix s 0) aJ) λcx=>
 au [cx] ab) (
 au [(ix s 0)] ab))
 λav ej aw=>
 bL aw λS=>
 ag prog qF #[c] aw λcy u=>
 bL u λS=>
 vK (ak .i .neq cy (ix av 0)) λl=>
 vK (gV l false (some c)) λcz=>
 vK (gV l false (aC 16 a)) λc0=>
 qK S (λu=>gV l false (ldV u c0)) λc1=>
 gK l false (λc2=>ag prog mx #[cz] u c2) u λc3 v=>
 S v∧(vK (gV l false (ak .b .neq c3 c1)) λc4=>
 vK (aH l (.bool true) c4) λg=>
 vK (gV g false (some c)) λc5=>
 qK S (λv=>gV g false (aM 20 v a)) λc6=>
 gK g false (λc7=>ag prog jx #[c5] v c7) v λc8 ac=>
 S ac∧(gK g false (λc9=>ag prog sA #[c6] ac c9) ac λda ad=>
 bL ad λS=>
 gK g false (λdb=>ag prog qI #[c8,da] ad db) ad λdc w=>
 bL w λS=>
 vK (gV g false (unV .not dc)) λdd=>
 vK (aH g (.bool true) dd) λm=>
 vK (gV m false (some c)) λde=>
 qK S (λw=>gV m false (aM 20 w a)) λdf=>
 vK (gV m false (some co)) λdg=>
 gK m false (λdh=>ag prog wj #[de,df,dg] w dh) w λdi ae=>
 vK (gV m false (unV .not di)) λdj=>
 vK (aH m (.bool true) dj) λdk=>
 aG dk (
 R (.bool false) ae) (
 vK (aC 12 a) λdl=>
 vK (ldV ae dl) λdm=>
 vK (aD dm) λdn=>
 vK (ak .i .add dn (af 2)) λdp=>
 bC [aj] ae λf ek n ax=>
 vK (ak .i .lss (ix f 0) dp) λdq=>
 aG dq (
 vK (ak .i .gtr (ix f 0) aj) λo=>
 vK (gV o true (some (ix f 0))) λdr=>
 vK (gV o true (aC 12 a)) λds=>
 vK (gV o true (ldV n ds)) λdt=>
 vK (gV o true (aD dt)) λdu=>
 vK (gV o true (ak .i .leq dr du)) λdv=>
 vK (aH o dv (.bool false)) λdw=>
 aG dw (
 vK (aC 12 a) λdx=>
 vK (ldV n dx) λdy=>
 vK (ak .i .sub (ix f 0) aJ) λdz=>
 vK (bh 3 dy dz) λd0=>
 vK (aC 1 d0) λd1=>
 vK (ldV n d1) λd2=>
 ag prog lN #[c,(ix f 0)] n λd3 d4=>
 ag prog qI #[d3,d2] d4 λd5 ay=>
 vK (unV .not d5) λd6=>
 aG d6 (
 R (.bool false) ay) (
 vK (ak .i .add (ix f 0) aJ) λd7=>
 ax [d7] ay)) (
 ag prog lN #[c,(ix f 0)] n λd8 d9=>
 ag prog qI #[d8,(.slice none 0 0)] d9 λea az=>
 vK (unV .not ea) λeb=>
 aG eb (
 R (.bool false) az) (
 vK (ak .i .add (ix f 0) aJ) λec=>
 ax [ec] az))) (
 vK (ak .i .add (ix s 1) aJ) λed=>
 cg [(ix av 0),ed] n)))))) (
 R (.bool true) t))))))
theorem G9 (H:wW a0 a1 a2 a3 a4 a5 a6 h R):ag prog qJ #[a0,a1,a2,a3,a4,a5,a6] h R:=fk f5 (.s .z (.s (.s .z (.s (.s .z .z) .z)) (.s .z (.s (.s .z (.s (.s .z .z) .z)) (.s (.s (.d (.op 0 .r (.op 1 .r (.op 2 .r (.op 3 .r (.op 5 .r (.op 4 .e (.op 6 .f (.op 7 .r (.op 8 .r (.op 9 .r (.op 10 .r (.op 12 .r (.op 13 .r (.op 14 .r (.op 15 .r (.op 11 .e (.op 16 .r (.op 17 .r (.op 18 .r (.op 19 .r (.op 20 .r (.op 21 .n (.op 22 .r (.op 23 .r .nil))))))))))))))))))))))))) (.s (.s .z .z) .z)) (.s .z (.s (.s .z (.l 11692013098647223345629477452804444542618552516608 [19,80] (.s .z (.s (.s .z .z) (.s (.s .z (.s .z (.s .z (.s .z (.s .z (.s (.s .z (.s (.s .z .z) .z)) (.j 70988433612780846483815380025344 [19] (.s .z (.s .z .z)) (.s (.s (.d (.op 0 .r (.op 2 .r (.op 1 .f (.op 3 .r (.op 4 .r (.op 5 .r (.op 7 .r (.op 8 .r (.op 6 .e (.op 9 .r (.op 10 .r (.op 11 .r (.op 12 .r (.op 14 .r (.op 13 .e (.op 15 .f (.op 16 .f (.op 17 .r (.op 18 .r (.op 19 .r (.op 20 .r (.op 21 .r (.op 22 .r (.op 23 .n (.op 24 .r (.op 25 .r .nil))))))))))))))))))))))))))) (.s (.s .z .z) .z)) (.s .z (.l 5846006462211325741054492684241232576091269382144 [136] (.s .z (.s (.s .z .z) (.s (.s .z (.s .z (.s (.s .z (.s .z .z)) (.s .z (.s (.s .z .z) .z))))) .z))))))))))))) .z))))) (.s .z .z)))))))) H
def CF (h:ai)(R:Value→ai→Prop):Prop:=
 cO #[(.int .u16 0)] 22 1 [(0,1,(.int .u16 9))] h λae ah=>
 ag prog um #[aJ,aJ,aJ,(af 255),ae] ah λo al=>
 vK (aP o 0) λam=>
 vK (aP o 1) λan=>
 vK ((aR #[aj,aj,aj,aj,(.slice none 0 0),(.slice none 0 0),aj,aj,aj] [(0,1,aJ)]).map .agg) λao=>
 ag prog oZ #[ao,aJ,aJ] al λq ap=>
 vK (aP q 0) λaq=>
 vK (aP q 1) λar=>
 aT #[(.pointer none),(.pointer none),aj] 81 ap λr au=>
 stK 3 r aq au λb4 av=>
 ag prog zh #[] av λaw s=>
 vK (unV .not aw) λf=>
 gK f false (λax=>ag prog zg #[] s ax) s λay g=>
 vK (gV f false (unV .not ay)) λaz=>
 vK (aH f (.bool true) az) λj=>
 vK (gV j false (some an)) λa0=>
 vK (gV j false (ak .i .neq a0 aj)) λa1=>
 vK (aH j (.bool true) a1) λk=>
 vK (gV k false (some ar)) λa2=>
 vK (gV k false (ak .i .neq a2 aj)) λa3=>
 vK (aH k (.bool true) a3) λa4=>
 aG a4 (
 R (.bool false) g) (
 vK (aM 3 g r) λa5=>
 ag prog Bo #[am,a5,aJ,aJ,aJ,aJ] g λt u=>
 vK (aP t 0) λb=>
 vK (aP t 1) λa6=>
 vK (ak .i .neq a6 aj) λl=>
 vK (gV l false (some b)) λa7=>
 vK (gV l false (ak .p .eql a7 (.pointer none))) λa8=>
 vK (aH l (.bool true) a8) λc=>
 vK (gV c false (some b)) λa9=>
 gK c false (λba=>ag prog lM #[a9] u ba) u λbb v=>
 vK (gV c false (ak .i .neq bb (af 7))) λbc=>
 vK (aH c (.bool true) bc) λd=>
 vK (gV d false (some b)) λbd=>
 gK d false (λbe=>ag prog iW #[bd] v be) v λbf w=>
 vK (gV d false (ak .i .neq bf (af 2))) λbg=>
 vK (aH d (.bool true) bg) λbi=>
 aG bi (
 R (.bool false) w) (
 bC [aj] w λx b5 y bj=>
 vK (ak .i .lss (ix x 0) (af 7)) λbk=>
 aG bk (
 ag prog jx #[b] y λz m=>
 vK (aD z) λbl=>
 vK (ak .i .eql bl aj) λa=>
 vK (gV a false (some b)) λbm=>
 vK (gV a false (some z)) λbn=>
 vK (gV a false (bh 1 bn aj)) λbo=>
 vK (gV a false (ldV m bo)) λbp=>
 gK a false (λbq=>ag prog kg #[bm,bp] m bq) m λbr aa=>
 vK (gV a false (unV .not br)) λbs=>
 vK (aH a (.bool true) bs) λbt=>
 aG bt (
 R (.bool false) aa) (
 vK (ak .i .add (ix x 0) aJ) λbu=>
 bj [bu] aa)) (
 ag prog oK #[b] y λab ac=>
 vK (aP ab 0) λad=>
 vK (aP ab 1) λn=>
 vK (gV n true (some ad)) λbv=>
 vK (gV n true (ak .p .neq bv (.pointer none))) λbw=>
 vK (aH n bw (.bool false)) λe=>
 vK (gV e true (some ad)) λbx=>
 gK e true (λbz=>ag prog gY #[bx,aj,aj,aj] ac bz) ac λb0 b1=>
 vK (gV e true (ak .i .eql b0 (.int .u16 9))) λb2=>
 vK (aH e b2 (.bool false)) λb3=>
 R b3 b1)))
theorem OL (H:CF h R):ag prog kU #[] h R:=fk f7 (.s .z (.s .z (.s .z (.s (.s .z (.s (.s .z .z) .z)) (.s .z (.s (.s .z (.s (.s .z .z) .z)) (.s (.s .z (.l 4722294425275607285889 [56] (.s .z (.s (.s .z .z) (.s (.s .z (.s .z (.s (.s .z .z) .z))) .z))))) (.s .z (.s .z .z))))))))) H
def CG (a0 a1 a2 a3 a4 a5:Value)(h:ai)(R:Value→ai→Prop):Prop:=
 aT (Value.cells a0) 25 h λs t=>
 aT (Value.cells a1) 31 t λu v=>
 aT aK 48 v λa f=>
 vK (aM 5 f s) λw=>
 ag prog fM #[w] f λb g=>
 vK (aM 9 g u) λx=>
 cO #[aj,aj,aj,aj,(.slice none 0 0),(.slice none 0 0),aj,aj,aj] 31 1 [(0,9,x)] g λy z=>
 ag prog iY #[y,b] z λd e=>
 vK (aP d 0) λaa=>
 vK (aP d 1) λab=>
 vK (aP d 2) λac=>
 vK (unV .not ac) λad=>
 aG ad (
 vK ((aR aK []).map .agg) λae=>
 stK 20 a ae e λbd j=>
 vK (aM 20 j a) λaf=>
 R (.tuple #[b,(.pointer none),af,(.bool false)]) j) (
 vK (ak .i .rem a2 (.int .u8 13)) λah=>
 vK (gS .i64 ah) λal=>
 vK (ak .i .add aJ al) λk=>
 vK (ak .i .rem a3 (.int .u8 13)) λam=>
 vK (gS .i64 am) λan=>
 vK (ak .i .add aJ an) λl=>
 vK (ak .i .rem a4 (.int .u8 5)) λao=>
 vK (gS .i64 ao) λap=>
 vK (ak .i .add aJ ap) λm=>
 vK (ak .i .rem a5 (.int .u8 4)) λaq=>
 vK (gS .i64 aq) λar=>
 vK (ak .i .add aJ ar) λn=>
 vK (bh 3 aa aj) λau=>
 vK (aM 3 e au) λav=>
 ag prog Bo #[b,av,k,l,m,n] e λo c=>
 vK (aP o 0) λaw=>
 vK (aP o 1) λax=>
 vK (ak .i .neq ax aj) λay=>
 aG ay (
 vK ((aR aK []).map .agg) λaz=>
 stK 20 a az c λbe p=>
 vK (aM 20 p a) λa6=>
 R (.tuple #[b,(.pointer none),a6,(.bool false)]) p) (
 bL c λS=>
 vK (bh 5 ab aj) λa7=>
 qK S (λc=>aM 5 c a7) λa8=>
 ag prog bu #[b] c λa9 q=>
 S q∧(ag prog DW #[a8,a9,k,l,m,n] q λba bb=>
 stK 20 a ba bb λbf r=>
 vK (aM 20 r a) λbc=>
 R (.tuple #[b,aw,bc,(.bool true)]) r)))
theorem OM (H:CG a0 a1 a2 a3 a4 a5 h R):ag prog sW #[a0,a1,a2,a3,a4,a5] h R:=fk f8 (.s .z (.s .z (.s .z (.s (.s .z (.s (.s .z .z) .z)) (.s .z (.s .z (.s (.s .z (.s (.s .z .z) .z)) (.s (.d (.op 0 .r (.op 1 .r (.op 2 .r (.op 3 .r (.op 4 .r (.op 5 .r (.op 7 .r (.op 8 .r (.op 9 .r (.op 10 .r (.op 6 .e (.op 11 .n (.op 12 .r (.op 13 .r (.op 14 .n (.op 15 .r .nil))))))))))))))))) .z)))))))) H
def IP (a0 a1:Value)(h:ai)(R:Value→ai→Prop):Prop:=
 aT (Value.cells a0) 25 h λm n=>
 aT (Value.cells a1) 31 n λo a=>
 bL a λS=>
 qK S (λa=>aM 9 a o) λd=>
 qK S (λa=>aM 5 a m) λe=>
 (cO #[aj,aj,aj,aj,(.slice none 0 0),(.slice none 0 0),aj,aj,aj] 31 1 [(0,9,d)] a λp f=>
 S f∧(ag prog fM #[e] f λq g=>
 S g∧(ag prog iY #[p,q] g λb i=>
 S i∧(vK (aP b 0) λv=>
 vK (aP b 1) λw=>
 vK (aP b 2) λr=>
 R r i))))∧(ag prog fM #[e] a λs j=>
 S j∧(cO #[aj,aj,aj,aj,(.slice none 0 0),(.slice none 0 0),aj,aj,aj] 31 1 [(0,9,d)] j λt k=>
 S k∧(ag prog iY #[t,s] k λc l=>
 S l∧(vK (aP c 0) λx=>
 vK (aP c 1) λy=>
 vK (aP c 2) λu=>
 R u l))))
theorem TN (H:IP a0 a1 h R):ag prog yK #[a0,a1] h R:=fk f9 (.s .z (.s (.d (.op 0 .r (.op 2 .r (.alt (.op 1 .e (.op 3 .e (.op 4 .e (.op 5 .r (.op 6 .r (.op 7 .r (.op 8 .r (.op 9 .r (.op 10 .r (.op 11 .r .nil)))))))))) (.op 3 .e (.op 1 .e (.op 4 .e (.op 5 .r (.op 6 .r (.op 7 .r (.op 8 .r (.op 9 .r (.op 10 .r (.op 11 .r .nil)))))))))))))) (.s .z .z))) H
def qX (a0:Value)(h:ai)(R:Value→ai→Prop):Prop:=
 ag prog iW #[a0] h λe f=>
 bC [(.slice none 0 0),aj] f λa q b c=>
 vK (ak .i .lss (ix a 1) e) λg=>
 aG g (
 ag prog mG #[a0,(ix a 1)] b λj d=>
 aG j (
 cO #[aj] 3 1 [(0,1,(ix a 1))] d λk l=>
 cR aj 3 1 8 (ix a 0) k l λm n=>
 vK (ak .i .add (ix a 1) aJ) λo=>
 c [m,o] n) (
 vK (ak .i .add (ix a 1) aJ) λp=>
 c [(ix a 0),p] d)) (
 R (ix a 0) b)
theorem Cd (H:qX a0 h R):ag prog jx #[a0] h R:=fk f10 (.s .z (.s .z (.s (.s .z (.l 262040 [3,7] (.s .z (.s (.s .z .z) (.s (.s .z (.s .z (.s .z .z))) .z))))) (.s .z .z)))) H
def qY (a0:Value)(h:ai)(R:Value→ai→Prop):Prop:=
 vK (aX a0) λa=>
 vK (aC 12 a) λb=>
 vK (ldV h b) λc=>
 R c h
theorem Ce (H:qY a0 h R):ag prog mx #[a0] h R:=fk f11 (.s .z (.s .z .z)) H
def uW (a0:Value)(h:ai)(R:Value→ai→Prop):Prop:=
 vK (aX a0) λa=>
 vK (aC 6 a) λb=>
 vK (ldV h b) λc=>
 vK (aD c) λd=>
 vK (ak .i .add d aJ) λe=>
 R e h
theorem Fk (H:uW a0 h R):ag prog iW #[a0] h R:=fk f12 (.s .z (.s .z .z)) H
def yi (a0 a1:Value)(h:ai)(R:Value→ai→Prop):Prop:=
 ag prog mG #[a0,a1] h λc a=>
 vK (unV .not c) λd=>
 aG d (
 R (.bool false) a) (
 vK (aX a0) λe=>
 vK (aC 13 e) λf=>
 vK (ldV a f) λg=>
 vK (ak .i .add g aJ) λj=>
 vK (aX a0) λk=>
 vK (aC 13 k) λl=>
 stK 1 l j a λp b=>
 vK (ak .i .eql a1 aj) λm=>
 aG m (
 ag prog sr #[a0] b λq n=>
 R (.bool true) n) (
 ag prog si #[a0,a1] b λr o=>
 R (.bool true) o))
theorem Jv (H:yi a0 a1 h R):ag prog kg #[a0,a1] h R:=fk f13 (.s .z (.s (.s .z (.s (.s .z .z) .z)) (.s .z (.s (.s .z (.s .z .z)) (.s .z .z))))) H
def wR (a0 a1:Value)(h:ai)(R:Value→ai→Prop):Prop:=
 vK (ak .i .lss a1 aJ) λa=>
 vK (gV a false (some a1)) λb=>
 vK (gV a false (some a0)) λc=>
 vK (gV a false (aX c)) λd=>
 vK (gV a false (aC 6 d)) λe=>
 vK (gV a false (ldV h e)) λf=>
 vK (gV a false (aD f)) λg=>
 vK (gV a false (ak .i .gtr b g)) λj=>
 vK (aH a (.bool true) j) λk=>
 aG k (
 R (.slice none 0 0) h) (
 vK (aX a0) λl=>
 vK (aC 6 l) λm=>
 vK (ldV h m) λn=>
 vK (ak .i .sub a1 aJ) λo=>
 vK (bh 1 n o) λp=>
 vK (ldV h p) λq=>
 ag prog lh #[q] h λr s=>
 R r s)
theorem GZ (H:wR a0 a1 h R):ag prog lN #[a0,a1] h R:=fk f14 (.s .z (.s (.s .z (.s (.s .z .z) .z)) (.s .z .z))) H
def nj (a0:Value)(h:ai)(R:Value→ai→Prop):Prop:=
 vK (aX a0) λa=>
 vK (aC 2 a) λb=>
 vK (ldV h b) λc=>
 R c h
theorem yS (H:nj a0 h R):ag prog bu #[a0] h R:=fk f16 (.s .z (.s .z .z)) H
def wQ (a0:Value)(h:ai)(R:Value→ai→Prop):Prop:=
 bL h λS=>
 vK (aX a0) λj=>
 vK (aC 2 j) λk=>
 qK S (λh=>ldV h k) λl=>
 vK (aX a0) λm=>
 vK (aC 6 m) λn=>
 qK S (λh=>ldV h n) λo=>
 qK S (λh=>aD o) λp=>
 ag prog eO #[l] h λq c=>
 S c∧(vK (ak .i .mul (af 2) q) λr=>
 vK (ak .i .add r p) λs=>
 vK (ak .i .add s (af 2)) λt=>
 vK (aX a0) λu=>
 vK (aC 2 u) λv=>
 vK (ldV c v) λw=>
 ag prog uK #[w] c λe x=>
 vK (aD e) λy=>
 bC [t,aj] x λb au d z=>
 vK (ak .i .lss (ix b 1) y) λaa=>
 aG aa (
 vK (bh 10 e (ix b 1)) λab=>
 vK (aM 10 d ab) λac=>
 aT #[aj,aj,aj,aj,aj,aj,aj,aj,aj,aj] 116 d λf ad=>
 stK 10 f ac ad λav a=>
 bL a λS=>
 vK (aX a0) λae=>
 vK (aC 2 ae) λah=>
 qK S (λa=>ldV a ah) λal=>
 qK S (λa=>aM 10 a f) λam=>
 ag prog jy #[al] a λan g=>
 S g∧(ag prog xB #[an,am] g λao ap=>
 vK (ak .i .add (ix b 0) ao) λaq=>
 vK (ak .i .add (ix b 1) aJ) λar=>
 z [aq,ar] ap)) (
 R (ix b 0) d))
theorem GY (H:wQ a0 h R):ag prog lM #[a0] h R:=fk f18 (.s .z (.s (.d (.op 0 .r (.op 1 .r (.op 2 .r (.op 3 .r (.op 6 .r (.op 7 .r (.op 8 .r (.op 9 .r (.op 10 .r (.op 4 .e (.op 5 .r (.op 11 .r (.op 12 .r (.op 13 .r .nil))))))))))))))) (.s (.s .z (.l 549722259496 [3,25] (.s .z (.s (.s .z .z) (.s (.s .z (.d (.op 0 .r (.op 1 .r (.op 2 .r (.op 3 .r (.op 4 .r (.op 6 .r (.op 5 .e (.op 7 .n (.op 8 .r (.op 9 .r .nil)))))))))))) .z))))) (.s .z .z)))) H
def Co (a0:Value)(h:ai)(R:Value→ai→Prop):Prop:=
 aT (Value.cells a0) 48 h λc b=>
 vK (aC 6 c) λf=>
 vK (ldV b f) λg=>
 vK (aD g) λj=>
 vK (ak .i .mul (af 2) j) λk=>
 vK (aC 12 c) λl=>
 vK (ldV b l) λm=>
 vK (aD m) λn=>
 vK (ak .i .add k n) λo=>
 vK (ak .i .add o (af 2)) λp=>
 vK (aC 7 c) λq=>
 vK (ldV b q) λe=>
 vK (aD e) λr=>
 bC [p,aj] b λa z d s=>
 vK (ak .i .lss (ix a 1) r) λt=>
 aG t (
 vK (bh 1 e (ix a 1)) λu=>
 vK (ldV d u) λv=>
 vK (aD v) λw=>
 vK (ak .i .add (ix a 0) w) λx=>
 vK (ak .i .add (ix a 1) aJ) λy=>
 s [x,y] d) (
 R (ix a 0) d)
theorem Ov (H:Co a0 h R):ag prog y5 #[a0] h R:=fk f19 (.s .z (.s .z (.s (.s .z (.l 133955624 [3,18] (.s .z (.s (.s .z .z) (.s (.s .z .z) .z))))) (.s .z .z)))) H
def Gc (a0 a1 a2:Value)(h:ai)(R:Value→ai→Prop):Prop:=
 aT (Value.cells a1) 48 h λq x=>
 ag prog oL #[a0] x λr g=>
 bL g λS=>
 vK (ak .p .eql r (.pointer none)) λc=>
 vK (gV c false (some r)) λy=>
 vK (gV c false (aC 13 q)) λz=>
 qK S (λg=>gV c false (ldV g z)) λaa=>
 qK S (λg=>gV c false (aD aa)) λab=>
 gK c false (λac=>ag prog mZ #[y] g ac) g λad s=>
 S s∧(vK (gV c false (ak .i .neq ad ab)) λae=>
 vK (aH c (.bool true) ae) λaf=>
 aG af (
 R (.bool false) s) (
 bC [a2] s λo b3 t ah=>
 vK (aC 13 q) λal=>
 vK (ldV t al) λam=>
 vK (aD am) λan=>
 vK (ak .i .lss (ix o 0) an) λao=>
 aG ao (
 ag prog oM #[r,(ix o 0)] t λv ap=>
 vK (aP v 0) λaq=>
 vK (aP v 1) λar=>
 aT #[aj,(.slice none 0 0),aj,aj,aj,(.bool false)] 120 ap λd au=>
 stK 6 d aq au λb4 u=>
 vK (aC 13 q) λav=>
 vK (ldV u av) λaw=>
 vK (bh 6 aw (ix o 0)) λax=>
 vK (aM 6 u ax) λay=>
 aT #[aj,(.slice none 0 0),aj,aj,aj,(.bool false)] 124 u λe az=>
 stK 6 e ay az λb5 a=>
 vK (unV .not ar) λj=>
 vK (gV j false (aC 0 d)) λa3=>
 vK (gV j false (ldV a a3)) λa4=>
 vK (gV j false (aC 0 e)) λa5=>
 vK (gV j false (ldV a a5)) λa6=>
 vK (gV j false (ak .i .neq a4 a6)) λa7=>
 vK (aH j (.bool true) a7) λk=>
 vK (gV k false (aC 2 d)) λa8=>
 vK (gV k false (ldV a a8)) λa9=>
 vK (gV k false (aC 2 e)) λba=>
 vK (gV k false (ldV a ba)) λbb=>
 vK (gV k false (ak .i .neq a9 bb)) λbc=>
 vK (aH k (.bool true) bc) λl=>
 vK (gV l false (aC 3 d)) λbd=>
 vK (gV l false (ldV a bd)) λbe=>
 vK (gV l false (aC 3 e)) λbf=>
 vK (gV l false (ldV a bf)) λbg=>
 vK (gV l false (ak .i .neq be bg)) λbi=>
 vK (aH l (.bool true) bi) λm=>
 vK (gV m false (aC 4 d)) λbj=>
 vK (gV m false (ldV a bj)) λbk=>
 vK (gV m false (aC 4 e)) λbl=>
 vK (gV m false (ldV a bl)) λbm=>
 vK (gV m false (ak .i .neq bk bm)) λbn=>
 vK (aH m (.bool true) bn) λn=>
 vK (gV n false (aC 5 d)) λbo=>
 vK (gV n false (ldV a bo)) λbp=>
 vK (gV n false (aC 5 e)) λbq=>
 vK (gV n false (ldV a bq)) λbr=>
 vK (gV n false (ak .b .neq bp br)) λbs=>
 vK (aH n (.bool true) bs) λf=>
 vK (gV f false (aC 1 d)) λbt=>
 vK (gV f false (ldV a bt)) λbu=>
 vK (gV f false (aC 1 e)) λbv=>
 vK (gV f false (ldV a bv)) λbw=>
 gK f false (λbx=>ag prog sP #[bu,bw] a bx) a λbz w=>
 vK (gV f false (unV .not bz)) λb0=>
 vK (aH f (.bool true) b0) λb1=>
 aG b1 (
 R (.bool false) w) (
 vK (ak .i .add (ix o 0) aJ) λb2=>
 ah [b2] w)) (
 R (.bool true) t)))
theorem Rw (H:Gc a0 a1 a2 h R):ag prog wj #[a0,a1,a2] h R:=fk f20 (.s .z (.s .z (.s (.s (.d (.op 0 .r (.op 1 .r (.op 2 .r (.op 3 .r (.op 5 .r (.op 6 .r (.op 7 .r (.op 4 .e (.op 8 .r (.op 9 .r .nil))))))))))) (.s (.s .z .z) .z)) (.s (.s .z (.l 309485009821345068691230528 [8] (.s (.s .z (.s .z .z)) (.s (.s .z (.s .z (.s .z (.s (.s .z .z) .z)))) .z)))) (.s .z .z))))) H
def FD (a0 a1:Value)(h:ai)(R:Value→ai→Prop):Prop:=
 aT (Value.cells a0) 48 h λc j=>
 aT aK 48 j λa d=>
 vK (aM 20 d c) λk=>
 ag prog vV #[k,a1] d λl b=>
 vK (unV .not l) λm=>
 aG m (
 vK (aM 20 b c) λn=>
 stK 20 a n b λy e=>
 vK (aM 20 e a) λo=>
 R (.tuple #[o,(.bool false)]) e) (
 vK (ak .i .eql a1 aj) λp=>
 aG p (
 vK (aM 20 b c) λq=>
 ag prog qx #[q] b λr s=>
 stK 20 a r s λz f=>
 vK (aM 20 f a) λt=>
 R (.tuple #[t,(.bool true)]) f) (
 vK (aM 20 b c) λu=>
 ag prog vU #[u,a1] b λv w=>
 stK 20 a v w λaa g=>
 vK (aM 20 g a) λx=>
 R (.tuple #[x,(.bool true)]) g))
theorem QW (H:FD a0 a1 h R):ag prog Bb #[a0,a1] h R:=fk f21 (.s .z (.s (.s .z (.s (.s .z .z) .z)) (.s (.s .z (.s (.s .z .z) .z)) (.s .z .z)))) H
def wS (a0:Value)(h:ai)(R:Value→ai→Prop):Prop:=
 vK (aX a0) λa=>
 vK (aC 13 a) λb=>
 vK (ldV h b) λc=>
 R c h
theorem G0 (H:wS a0 h R):ag prog qF #[a0] h R:=fk f22 (.s .z (.s .z .z)) H
def Gd (a0 a1:Value)(h:ai)(R:Value→ai→Prop):Prop:=
 ag prog sP #[a0,a1] h λa b=>
 R a b
theorem Rx (H:Gd a0 a1 h R):ag prog qI #[a0,a1] h R:=fk f23 (.s .z (.s .z .z)) H
def yl (a0:Value)(h:ai)(R:Value→ai→Prop):Prop:=
 aT (Value.cells a0) 48 h λc d=>
 vK (aC 12 c) λg=>
 vK (ldV d g) λj=>
 vK (aD j) λk=>
 vK (ak .i .add k aJ) λl=>
 bC [(.slice none 0 0),aj] d λa v b e=>
 vK (ak .i .lss (ix a 1) l) λm=>
 aG m (
 vK (aM 20 b c) λn=>
 ag prog vV #[n,(ix a 1)] b λo f=>
 aG o (
 cO #[aj] 3 1 [(0,1,(ix a 1))] f λp q=>
 cR aj 3 1 8 (ix a 0) p q λr s=>
 vK (ak .i .add (ix a 1) aJ) λt=>
 e [r,t] s) (
 vK (ak .i .add (ix a 1) aJ) λu=>
 e [(ix a 0),u] f)) (
 R (ix a 0) b)
theorem Jx (H:yl a0 h R):ag prog sA #[a0] h R:=fk f24 (.s .z (.s .z (.s (.s .z (.l 1048088 [3,9] (.s .z (.s (.s .z .z) (.s (.s .z (.s .z (.s .z .z))) .z))))) (.s .z .z)))) H
def uV (a0:Value)(h:ai)(R:Value→ai→Prop):Prop:=
 vK (aX a0) λa=>
 vK (aC 5 a) λb=>
 R b h
theorem Fj (H:uV a0 h R):ag prog oL #[a0] h R:=fk f25 (.s .z (.s .z .z)) H
def qV (a0:Value)(h:ai)(R:Value→ai→Prop):Prop:=
 vK (aX a0) λa=>
 vK (aC 0 a) λb=>
 vK (ldV h b) λc=>
 R c h
theorem Cb (H:qV a0 h R):ag prog cf #[a0] h R:=fk f28 (.s .z (.s .z .z)) H
def pD (a0:Value)(h:ai)(R:Value→ai→Prop):Prop:=
 vK (aX a0) λa=>
 vK (aC 1 a) λb=>
 vK (ldV h b) λc=>
 R c h
theorem AC (H:pD a0 h R):ag prog cj #[a0] h R:=fk f29 (.s .z (.s .z .z)) H
def IJ (a0 a1 a2 a3 a4:Value)(h:ai)(R:Value→ai→Prop):Prop:=
 ag prog js #[a0,a1,a2,a3] h λd a=>
 vK (aP d 0) λb=>
 vK (aP d 1) λe=>
 vK (ak .i .neq e aj) λf=>
 aG f (
 R (.tuple #[(.pointer none),e]) a) (
 vK (aD a4) λg=>
 vK (aX b) λj=>
 vK (aC 4 j) λk=>
 vK (ldV a k) λl=>
 vK (aD l) λm=>
 vK (ak .i .neq g m) λn=>
 aG n (
 R (.tuple #[(.pointer none),(af 2)]) a) (
 ag prog gT #[a4] a λo c=>
 vK (gS .i64 o) λp=>
 vK (ak .i .gtr p a3) λq=>
 aG q (
 R (.tuple #[(.pointer none),(af 4)]) c) (
 vK (aX b) λr=>
 vK (aC 4 r) λs=>
 vK (ldV c s) λt=>
 HA 1 t a4 c λv u=>
 R (.tuple #[b,aj]) u)))
theorem TI (H:IJ a0 a1 a2 a3 a4 h R):ag prog um #[a0,a1,a2,a3,a4] h R:=fk f31 (.s .z (.s .z (.s (.s .z (.s (.s .z .z) (.s .z (.s (.s .z .z) (.s .z (.s (.s .z .z) .z)))))) (.s .z (.s .z .z))))) H
def NO (a0 a1 a2:Value)(h:ai)(R:Value→ai→Prop):Prop:=
 aT (Value.cells a0) 31 h λd q=>
 aT #[(.pointer none),(.pointer none),aj] 81 q λa j=>
 vK (aM 9 j d) λr=>
 ag prog QE #[r] j λs k=>
 vK (unV .not s) λb=>
 vK (gV b false (some a1)) λt=>
 gK b false (λu=>ag prog wA #[t] k u) k λv l=>
 vK (gV b false (unV .not v)) λw=>
 vK (aH b (.bool true) w) λc=>
 vK (gV c false (some a2)) λx=>
 gK c false (λy=>ag prog wA #[x] l y) l λz e=>
 vK (gV c false (unV .not z)) λaa=>
 vK (aH c (.bool true) aa) λab=>
 aG ab (
 vK ((aR #[(.pointer none),(.pointer none),aj] []).map .agg) λac=>
 stK 3 a ac e λav m=>
 vK (aM 3 m a) λad=>
 R (.tuple #[ad,(af 6)]) m) (
 vK (aM 9 e d) λae=>
 ag prog Ec #[ae,a1,a2] e λf g=>
 vK (aP f 0) λah=>
 vK (aP f 1) λal=>
 vK (aP f 2) λn=>
 vK (ak .i .neq n aj) λam=>
 aG am (
 vK ((aR #[(.pointer none),(.pointer none),aj] []).map .agg) λan=>
 stK 3 a an g λaw o=>
 vK (aM 3 o a) λao=>
 R (.tuple #[ao,n]) o) (
 vK (aC 1 d) λap=>
 vK (ldV g ap) λaq=>
 vK ((aR #[(.pointer none),(.pointer none),aj] [(0,1,ah),(1,1,al),(2,1,aq)]).map .agg) λar=>
 stK 3 a ar g λax p=>
 vK (aM 3 p a) λau=>
 R (.tuple #[au,aj]) p))
theorem XX (H:NO a0 a1 a2 h R):ag prog oZ #[a0,a1,a2] h R:=fk f32 (.s .z (.s (.s .z (.s (.s .z .z) .z)) (.s .z (.s (.s .z (.s (.s .z .z) .z)) (.s .z .z))))) H
def CI (h:ai)(R:Value→ai→Prop):Prop:=
 cO #[aj,aj] 3 2 [(0,1,aJ),(1,1,aj)] h λf g=>
 vK ((aR #[aj,(.slice none 0 0),aj,aj,aj,(.bool false)] [(1,1,f),(3,1,(af 3)),(4,1,(af 4)),(5,1,(.bool true))]).map .agg) λi=>
 aT #[aj,(.slice none 0 0),aj,aj,aj,(.bool false)] 120 g λc j=>
 stK 6 c i j λx k=>
 cO #[aj,aj] 3 2 [(0,1,aj),(1,1,aJ)] k λl m=>
 vK ((aR #[aj,(.slice none 0 0),aj,aj,aj,(.bool false)] [(0,1,aJ),(1,1,l),(3,1,(af 2)),(4,1,(af 9)),(5,1,(.bool true))]).map .agg) λn=>
 aT #[aj,(.slice none 0 0),aj,aj,aj,(.bool false)] 120 m λd o=>
 stK 6 d n o λy e=>
 vK (aM 6 e c) λp=>
 vK (aM 6 e d) λq=>
 ag prog sV #[p,q] e λa b=>
 vK (gV a true (aM 6 b d)) λr=>
 vK (gV a true (aM 6 b c)) λs=>
 gK a true (λt=>ag prog sV #[r,s] b t) b λu v=>
 vK (aH a u (.bool false)) λw=>
 R w v
theorem OP (H:CI h R):ag prog zh #[] h R:=fk f33 (.s .z (.s .z (.s .z (.s .z .z)))) H
def CH (h:ai)(R:Value→ai→Prop):Prop:=
 ag prog p9 #[] h λa s=>
 ag prog oW #[aJ] s λb t=>
 ag prog zj #[] t λu l=>
 vK (unV .not u) λj=>
 vK (gV j false (some a)) λv=>
 vK (gV j false (ak .p .eql v (.pointer none))) λw=>
 vK (aH j (.bool true) w) λk=>
 vK (gV k false (some b)) λx=>
 vK (gV k false (ak .p .eql x (.pointer none))) λy=>
 vK (aH k (.bool true) y) λc=>
 vK (gV c false (some a)) λz=>
 vK (gV c false (some b)) λaa=>
 gK c false (λab=>ag prog dd #[z,aa,.nilFunc] l ab) l λac m=>
 vK (gV c false ((aR #[aj,aj,aj,aj] []).map .agg)) λad=>
 vK (gV c false (ak (.st [(0,1,.i),(1,1,.i),(2,2,(.st [(0,1,.i),(1,1,.i)]))]) .neq ac ad)) λae=>
 vK (aH c (.bool true) ae) λf=>
 vK (gV f false (some a)) λah=>
 vK (gV f false (some b)) λal=>
 gK f false (λam=>ag prog fm #[ah,al] m am) m λan n=>
 vK (aH f (.bool true) an) λao=>
 aG ao (
 R (.bool false) n) (
 ag prog jP #[b] n λba ap=>
 ag prog fm #[a,b] ap λd o=>
 vK (gV d true (some a)) λaq=>
 vK (gV d true (some b)) λar=>
 gK d true (λau=>ag prog dd #[aq,ar,.nilFunc] o au) o λav q=>
 vK (gV d true ((aR #[aj,aj,aj,aj] [(0,1,(af 3))]).map .agg)) λaw=>
 vK (gV d true (ak (.st [(0,1,.i),(1,1,.i),(2,2,(.st [(0,1,.i),(1,1,.i)]))]) .eql av aw)) λax=>
 vK (aH d ax (.bool false)) λe=>
 vK (gV e true (some a)) λay=>
 vK (gV e true (some b)) λaz=>
 gK e true (λa0=>ag prog dd #[ay,az,.nilFunc] q a0) q λa1 r=>
 vK (gV e true ((aR #[aj,aj,aj,aj] []).map .agg)) λa2=>
 vK (gV e true (ak (.st [(0,1,.i),(1,1,.i),(2,2,(.st [(0,1,.i),(1,1,.i)]))]) .eql a1 a2)) λa3=>
 vK (aH e a3 (.bool false)) λg=>
 vK (gV g true (some a)) λa4=>
 gK g true (λa5=>ag prog lk #[a4] r a5) r λa6 a7=>
 vK (gV g true (ak .i .eql a6 (af 2))) λa8=>
 vK (aH g a8 (.bool false)) λa9=>
 R a9 a7)
theorem ON (H:CH h R):ag prog zg #[] h R:=fk f34 (.s .z (.s .z (.s (.s .z (.s (.s .z .z) .z)) (.s .z (.s .z .z))))) H
def LR (a0 a1 a2 a3 a4 a5:Value)(h:ai)(R:Value→ai→Prop):Prop:=
 aT (Value.cells a1) 81 h λf j=>
 vK (ak .p .eql a0 (.pointer none)) λb=>
 vK (gV b false (some a0)) λap=>
 vK (gV b false (aM 3 j f)) λaq=>
 gK b false (λar=>ag prog kh #[ap,aq] j ar) j λau a=>
 vK (gV b false (unV .not au)) λav=>
 vK (aH b (.bool true) av) λaw=>
 aG aw (
 R (.tuple #[(.pointer none),(af 6)]) a) (
 bL a λS=>
 vK (aC 0 f) λax=>
 qK S (λa=>ldV a ax) λay=>
 vK (aC 1 f) λaz=>
 qK S (λa=>ldV a az) λa6=>
 ag prog bR #[ay] a λa7 r=>
 S r∧(ag prog bR #[a6] r λa8 a9=>
 ag prog bu #[a0] a9 λba bb=>
 ag prog dG #[a0] bb λbc bd=>
 ag prog js #[a7,a8,ba,bc] bd λs k=>
 vK (aP s 0) λg=>
 vK (aP s 1) λt=>
 vK (ak .i .neq t aj) λbe=>
 aG be (
 R (.tuple #[(.pointer none),t]) k) (
 vK (aM 3 k f) λbf=>
 ag prog Bp #[bf,a2,a3] k λu c=>
 vK (aP u 0) λl=>
 vK (aP u 1) λv=>
 vK (ak .i .neq v aj) λbg=>
 aG bg (
 R (.tuple #[(.pointer none),v]) c) (
 vK (ak .i .lss a4 aJ) λm=>
 vK (gV m false (some a4)) λbh=>
 vK (gV m false (ak .i .gtr bh (af 256))) λbi=>
 vK (aH m (.bool true) bi) λbj=>
 aG bj (
 R (.tuple #[(.pointer none),(af 10)]) c) (
 eM (λn=>
 bL c λS=>
 vK (ak .i .add a4 aJ) λo=>
 (ag prog oW #[a5] c λw q=>
 S q∧((ag prog pd #[o] q λbk x=>
 S x∧(mkK aj 3 1 8 a4 a4 x λbl y=>
 S y∧(vK ((aR ru [(0,1,a0),(1,1,g),(2,1,l),(3,1,w),(4,1,bk),(7,1,bl)]).map .agg) λbm=>
 aT (Value.cells bm) 106 y λbn z=>
 S z∧(n [bn] z))))∧(mkK aj 3 1 8 a4 a4 q λbo aa=>
 S aa∧(ag prog pd #[o] aa λbp ab=>
 S ab∧(vK ((aR ru [(0,1,a0),(1,1,g),(2,1,l),(3,1,w),(4,1,bp),(7,1,bo)]).map .agg) λbq=>
 aT (Value.cells bq) 106 ab λbr ac=>
 S ac∧(n [br] ac))))))∧(mkK aj 3 1 8 a4 a4 c λbs ad=>
 S ad∧(ag prog oW #[a5] ad λbt ae=>
 S ae∧(ag prog pd #[o] ae λbv ah=>
 S ah∧(vK ((aR ru [(0,1,a0),(1,1,g),(2,1,l),(3,1,bt),(4,1,bv),(7,1,bs)]).map .agg) λbw=>
 aT (Value.cells bw) 106 ah λbx al=>
 S al∧(n [bx] al))))))
 λd cj bz=>
 bC [aj] bz λam ck e b0=>
 vK (ak .i .lss (ix am 0) a4) λb1=>
 aG b1 (
 bL e λS=>
 vK (aX (ix d 0)) λb2=>
 vK (aC 6 b2) λb3=>
 qK S (λe=>ldV e b3) λb4=>
 ag prog p9 #[] e λb5 an=>
 S an∧(cO #[(.pointer none)] 108 1 [(0,1,b5)] an λb6 ao=>
 S ao∧(cR (.pointer none) 108 1 8 b4 b6 ao λb7 b8=>
 vK (aX (ix d 0)) λb9=>
 vK (aC 6 b9) λca=>
 stK 1 ca b7 b8 λcl cb=>
 vK (ak .i .add (ix am 0) aJ) λcc=>
 b0 [cc] cb))) (
 ag prog un #[a0] e λcd ce=>
 ag prog eo #[(ix d 0),aj,aj,aj,cd,(.bool true)] ce λcm cf=>
 ag prog un #[g] cf λcg ch=>
 ag prog eo #[(ix d 0),aj,aJ,aj,cg,(.bool true)] ch λcn ci=>
 R (.tuple #[(ix d 0),aj]) ci))))))
theorem VX (H:LR a0 a1 a2 a3 a4 a5 h R):ag prog Bo #[a0,a1,a2,a3,a4,a5] h R:=fk f35 (.s .z (.s (.s .z (.s (.s .z .z) .z)) (.s (.d (.op 0 .r (.op 1 .r (.op 3 .r (.op 4 .r (.op 6 .r (.op 8 .r (.op 2 .e (.op 5 .n (.op 7 .n (.op 9 .n (.op 10 .n (.op 11 .r (.op 12 .r (.op 13 .r (.op 14 .r (.op 15 .r .nil))))))))))))))))) (.s (.s .z (.s (.s .z .z) .z)) (.s .z (.s (.s .z (.s (.s .z .z) (.s .z (.s (.s .z .z) .z)))) (.j 9442427122730076864512 [17] (.d (.op 0 .r (.op 1 .r (.op 2 .r (.op 3 .r (.op 5 .r (.op 6 .r (.op 8 .r (.alt (.op 4 .e (.alt (.op 7 .e (.op 9 .e (.op 10 .r (.op 11 .e (.op 12 .r .nil))))) (.op 9 .e (.op 7 .e (.op 10 .r (.op 11 .e (.op 12 .r .nil))))))) (.op 9 .e (.op 4 .e (.op 7 .e (.op 10 .r (.op 11 .e (.op 12 .r .nil))))))))))))))) (.s (.s .z (.l 154723615444741055781535744 [74] (.s .z (.s (.s .z .z) (.s (.d (.op 0 .r (.op 1 .r (.op 2 .r (.op 3 .r (.op 4 .r (.op 5 .e (.op 6 .e (.op 7 .n (.op 8 .r (.op 9 .r (.op 10 .n .nil)))))))))))) .z))))) (.s .z (.s .z (.s .z .z))))))))))) H
def uU (a0:Value)(h:ai)(R:Value→ai→Prop):Prop:=
 vK (aX a0) λa=>
 vK (aC 12 a) λb=>
 vK (ldV h b) λc=>
 vK (unV .not c) λd=>
 aG d (
 R (.tuple #[(.pointer none),(.bool false)]) h) (
 vK (aX a0) λe=>
 vK (aC 1 e) λf=>
 vK (ldV h f) λg=>
 ag prog mY #[g] h λi j=>
 R (.tuple #[i,(.bool true)]) j)
theorem Fi (H:uU a0 h R):ag prog oK #[a0] h R:=fk f36 (.s .z (.s (.s .z (.s (.s .z .z) .z)) (.s .z .z))) H
def wN (a0 a1 a2 a3:Value)(h:ai)(R:Value→ai→Prop):Prop:=
 ag prog ju #[a0,a1,a2,a3] h λb a=>
 vK (ak .i .geq b aj) λc=>
 aG c (
 vK (aX a0) λd=>
 vK (aC 4 d) λe=>
 vK (ldV a e) λf=>
 vK (bh 1 f b) λg=>
 vK (ldV a g) λj=>
 R j a) (
 R (.int .u16 0) a)
theorem GW (H:wN a0 a1 a2 a3 h R):ag prog gY #[a0,a1,a2,a3] h R:=fk f37 (.s .z (.s (.s .z (.s .z (.s (.s .z .z) .z))) (.s .z .z))) H
def qZ (a0:Value)(h:ai)(R:Value→ai→Prop):Prop:=
 aT (Value.cells a0) 25 h λb a=>
 vK (aC 0 b) λc=>
 vK (ldV a c) λd=>
 vK (ak .i .rem d (.int .u16 12)) λe=>
 vK (aC 1 b) λf=>
 vK (ldV a f) λg=>
 vK (ak .i .rem g (.int .u16 12)) λj=>
 vK (aC 2 b) λk=>
 vK (ldV a k) λl=>
 vK (aC 3 b) λm=>
 vK (ldV a m) λn=>
 vK (aC 4 b) λo=>
 vK (ldV a o) λp=>
 ag prog Bt #[e,j,l,n,p] a λq r=>
 R q r
theorem Cf (H:qZ a0 h R):ag prog fM #[a0] h R:=fk f38 (.s .z (.s .z .z)) H
def BO (a0 a1:Value)(h:ai)(R:Value→ai→Prop):Prop:=
 vK (ak .p .eql a1 (.pointer none)) λb=>
 vK (gV b false (some a0)) λl=>
 vK (gV b false (aD l)) λm=>
 vK (gV b false (ak .i .gtr m (af 4))) λn=>
 vK (aH b (.bool true) n) λc=>
 vK (gV c false (some a0)) λo=>
 gK c false (λq=>ag prog xH #[o,(af 12)] h q) h λr e=>
 vK (gV c false (unV .not r)) λs=>
 vK (aH c (.bool true) s) λt=>
 aG t (
 R (.tuple #[(.slice none 0 0),(.slice none 0 0),(.bool false)]) e) (
 ag prog cf #[a1] e λu v=>
 ag prog cj #[a1] v λw x=>
 ag prog bu #[a1] x λy z=>
 ag prog QF #[a0,u,w,y] z λf aa=>
 vK (aP f 0) λg=>
 vK (aP f 1) λab=>
 ag prog Bs #[a0] aa λac ad=>
 ag prog cf #[a1] ad λae ah=>
 ag prog cj #[a1] ah λal am=>
 ag prog bu #[a1] am λan ao=>
 ag prog DX #[ac,ae,al,an] ao λj ap=>
 vK (aP j 0) λk=>
 vK (aP j 1) λaq=>
 vK (ak .i .eql ab aj) λd=>
 vK (gV d true (some aq)) λar=>
 vK (gV d true (ak .i .eql ar aj)) λau=>
 vK (aH d au (.bool false)) λa=>
 vK (gV a true (some g)) λav=>
 vK (gV a true (aD av)) λaw=>
 vK (gV a true (some k)) λax=>
 vK (gV a true (aD ax)) λay=>
 vK (gV a true (ak .i .eql aw ay)) λaz=>
 vK (aH a az (.bool false)) λa2=>
 R (.tuple #[g,k,a2]) ap)
theorem MI (H:BO a0 a1 h R):ag prog iY #[a0,a1] h R:=fk f39 (.s .z (.s (.s .z (.s (.s .z .z) .z)) (.s .z (.s .z (.s .z .z))))) H
def Iw (a0 a1 a2 a3 a4 a5:Value)(h:ai)(R:Value→ai→Prop):Prop:=
 aT (Value.cells a0) 38 h λc bs=>
 aT aK 48 bs λt b=>
 eM (λbt=>
 bL b λS=>
 qK S (λb=>aM 5 b c) λu=>
 qK S (λb=>aM 5 b c) λg=>
 vK (ak .i .add a4 aJ) λj=>
 (λC21:Value→Value→ai→Prop=>
 (λC29:Value→Value→Value→Value→Value→ai→Prop=>
 (λC38:Value→Value→Value→Value→ai→Prop=>
 (λC46:Value→Value→Value→Value→ai→Prop=>
 (λC54:Value→Value→Value→Value→ai→Prop=>
 (λC63:Value→Value→Value→ai→Prop=>
 (λC72:Value→Value→Value→ai→Prop=>
 (λC79:Value→Value→Value→ai→Prop=>
 (λC87:Value→Value→ai→Prop=>
 (λC95:Value→Value→ai→Prop=>
 (λC101:Value→Value→ai→Prop=>
 (ag prog mu #[g,a2,a3] b λd k=>
 S k∧((ag prog ms #[a5] k λl m=>
 S m∧((ag prog mq #[j] m λv o=>
 S o∧((mkK (.agg #[aj,.slice none 0 0,.slice none 0 0]) 69 3 56 a4 a4 o λbu w=>
 S w∧(C38 d l v bu w))∧(aT aK 48 o λbv x=>
 S x∧(C46 d l v bv x))))∧((mkK (.agg #[aj,.slice none 0 0,.slice none 0 0]) 69 3 56 a4 a4 m λbw y=>
 S y∧(C63 d l bw y))∧(aT aK 48 m λbx z=>
 S z∧(C72 d l bx z)))))∧((mkK (.agg #[aj,.slice none 0 0,.slice none 0 0]) 69 3 56 a4 a4 k λbz aa=>
 S aa∧(C87 d bz aa))∧(aT aK 48 k λb0 ab=>
 S ab∧(C95 d b0 ab)))))∧((mkK (.agg #[aj,.slice none 0 0,.slice none 0 0]) 69 3 56 a4 a4 b λac p=>
 S p∧((ag prog mu #[g,a2,a3] p λb1 ad=>
 S ad∧(C87 b1 ac ad))∧(aT aK 48 p λb2 ae=>
 S ae∧(C101 ac b2 ae))))∧(aT aK 48 b λaf q=>
 S q∧((ag prog mu #[g,a2,a3] q λb3 ah=>
 S ah∧(C95 b3 af ah))∧(mkK (.agg #[aj,.slice none 0 0,.slice none 0 0]) 69 3 56 a4 a4 q λb4 al=>
 S al∧(C101 b4 af al)))))) (λb5 b6 b7=>
 ag prog mu #[g,a2,a3] b7 λb8 am=>
 S am∧(C79 b8 b5 b6 am))) (λan ao ap=>
 (ag prog ms #[a5] ap λb9 aq=>
 S aq∧(C72 an b9 ao aq))∧(mkK (.agg #[aj,.slice none 0 0,.slice none 0 0]) 69 3 56 a4 a4 ap λca ar=>
 S ar∧(C79 an ca ao ar)))) (λau av aw=>
 (ag prog ms #[a5] aw λcb ax=>
 S ax∧(C63 au cb av ax))∧(aT aK 48 aw λcc ay=>
 S ay∧(C79 au av cc ay)))) (λcd ce cf cg=>
 ag prog ms #[a5] cg λch az=>
 S az∧(C54 cd ch ce cf az))) (λa6 a7 a8 a9=>
 (ag prog mq #[j] a9 λci ba=>
 S ba∧(C46 a6 a7 ci a8 ba))∧(mkK (.agg #[aj,.slice none 0 0,.slice none 0 0]) 69 3 56 a4 a4 a9 λcj bb=>
 S bb∧(C54 a6 a7 cj a8 bb)))) (λbc bd be bf=>
 (ag prog mq #[j] bf λck bg=>
 S bg∧(C38 bc bd ck be bg))∧(aT aK 48 bf λcl bi=>
 S bi∧(C54 bc bd be cl bi)))) (λcm cn co cp cq=>
 ag prog mq #[j] cq λcr bj=>
 S bj∧(C29 cm cn cr co cp bj))) (λcs ct cu cv cw=>
 mkK (.agg #[aj,.slice none 0 0,.slice none 0 0]) 69 3 56 a4 a4 cw λcx bk=>
 S bk∧(C29 cs ct cu cx cv bk))) (λcy cz c0 c1 c2=>
 vK ((aR aK [(0,5,u),(5,1,a1),(6,1,cy),(8,3,cz),(11,1,c0),(12,1,c1)]).map .agg) λc3=>
 aT aK 48 c2 λc4 bl=>
 S bl∧(C21 c3 c4 bl))) (λc5 c6 c7 c8 c9 da=>
 vK ((aR aK [(0,5,u),(5,1,a1),(6,1,c5),(8,3,c6),(11,1,c7),(12,1,c8)]).map .agg) λdb=>
 C21 db c9 da)) (λdc bm dd=>
 stK 20 bm dc dd λem de=>
 bt [bm] de))
 λe en bn=>
 vK (aC 6 (ix e 0)) λdf=>
 vK (ldV bn df) λbo=>
 vK (aD bo) λdg=>
 bC [aj] bn λr eo f dh=>
 vK (ak .i .lss (ix r 0) dg) λdi=>
 aG di (
 vK (bh 10 bo (ix r 0)) λdj=>
 vK (aM 10 f dj) λdk=>
 aT #[aj,aj,aj,aj,aj,aj,aj,aj,aj,aj] 59 f λs dl=>
 stK 10 s dk dl λep a=>
 bL a λS=>
 vK (aC 7 (ix e 0)) λdm=>
 qK S (λa=>ldV a dm) λdn=>
 qK S (λa=>aM 5 a c) λdp=>
 vK (aC 2 s) λdq=>
 qK S (λa=>ldV a dq) λdr=>
 vK (aC 4 s) λds=>
 qK S (λa=>ldV a ds) λdt=>
 ag prog y6 #[dp,dr,dt] a λdu bp=>
 S bp∧(cO #[(.slice none 0 0)] 67 1 [(0,1,du)] bp λdv bq=>
 S bq∧(cR (.slice none 0 0) 67 1 24 dn dv bq λdw dx=>
 vK (aC 7 (ix e 0)) λdy=>
 stK 1 dy dw dx λeq dz=>
 vK (ak .i .add (ix r 0) aJ) λd0=>
 dh [d0] dz))) (
 vK (aM 20 f (ix e 0)) λd1=>
 vK (aC 2 c) λd2=>
 vK (ldV f d2) λd3=>
 vK (aC 3 c) λd4=>
 vK (ldV f d4) λd5=>
 vK (ak .i .mul d3 d5) λd6=>
 vK (ak .i .mul d6 a1) λd7=>
 ag prog iE #[d1,aj,aj,aj,d7,(.bool true)] f λd8 d9=>
 stK 20 (ix e 0) d8 d9 λer n=>
 vK (aM 20 n (ix e 0)) λea=>
 vK (aC 0 c) λeb=>
 vK (ldV n eb) λec=>
 vK (aD ec) λed=>
 vK (aC 1 c) λee=>
 vK (ldV n ee) λef=>
 vK (aD ef) λeg=>
 vK (ak .i .mul ed eg) λeh=>
 vK (ak .i .mul eh a1) λei=>
 ag prog iE #[ea,aj,aJ,aj,ei,(.bool true)] n λej ek=>
 stK 20 t ej ek λes br=>
 vK (aM 20 br t) λel=>
 R el br)
theorem Tu (H:Iw a0 a1 a2 a3 a4 a5 h R):ag prog DW #[a0,a1,a2,a3,a4,a5] h R:=fk f40 (.s .z (.j 1073684480 [13] (.d (.op 0 .r (.op 1 .r (.op 2 .r (.op 3 .r (.op 4 .r (.op 6 .r (.op 8 .r (.op 9 .r (.op 11 .r (.alt (.op 5 .e (.alt (.op 7 .e (.alt (.op 10 .e (.alt (.op 12 .e (.op 13 .r (.op 14 .e (.op 15 .n .nil)))) (.op 14 .e (.op 12 .e (.op 13 .r (.op 15 .n .nil)))))) (.alt (.op 12 .e (.alt (.op 10 .e (.op 13 .r (.op 14 .e (.op 15 .n .nil)))) (.op 14 .e (.op 10 .e (.op 13 .r (.op 15 .n .nil)))))) (.op 14 .e (.alt (.op 10 .e (.op 12 .e (.op 13 .r (.op 15 .n .nil)))) (.op 12 .e (.op 10 .e (.op 13 .r (.op 15 .n .nil))))))))) (.alt (.op 12 .e (.alt (.op 7 .e (.alt (.op 10 .e (.op 13 .r (.op 14 .e (.op 15 .n .nil)))) (.op 14 .e (.op 10 .e (.op 13 .r (.op 15 .n .nil)))))) (.op 14 .e (.op 7 .e (.op 10 .e (.op 13 .r (.op 15 .n .nil))))))) (.op 14 .e (.alt (.op 7 .e (.alt (.op 10 .e (.op 12 .e (.op 13 .r (.op 15 .n .nil)))) (.op 12 .e (.op 10 .e (.op 13 .r (.op 15 .n .nil)))))) (.op 12 .e (.op 7 .e (.op 10 .e (.op 13 .r (.op 15 .n .nil)))))))))) (.alt (.op 12 .e (.alt (.op 5 .e (.alt (.op 7 .e (.alt (.op 10 .e (.op 13 .r (.op 14 .e (.op 15 .n .nil)))) (.op 14 .e (.op 10 .e (.op 13 .r (.op 15 .n .nil)))))) (.op 14 .e (.op 7 .e (.op 10 .e (.op 13 .r (.op 15 .n .nil))))))) (.op 14 .e (.op 5 .e (.op 7 .e (.op 10 .e (.op 13 .r (.op 15 .n .nil)))))))) (.op 14 .e (.alt (.op 5 .e (.alt (.op 7 .e (.alt (.op 10 .e (.op 12 .e (.op 13 .r (.op 15 .n .nil)))) (.op 12 .e (.op 10 .e (.op 13 .r (.op 15 .n .nil)))))) (.op 12 .e (.op 7 .e (.op 10 .e (.op 13 .r (.op 15 .n .nil))))))) (.op 12 .e (.op 5 .e (.op 7 .e (.op 10 .e (.op 13 .r (.op 15 .n .nil)))))))))))))))))))) (.s (.s .z (.l 562941363519488 [33] (.s .z (.s (.s .z .z) (.s (.s .z (.d (.op 0 .r (.op 1 .r (.op 2 .r (.op 3 .r (.op 4 .r (.op 5 .r (.op 6 .r (.op 7 .e (.op 8 .e (.op 9 .n (.op 10 .r (.op 11 .n .nil)))))))))))))) .z))))) (.s .z (.s .z .z))))) H
def yc (a0 a1:Value)(h:ai)(R:Value→ai→Prop):Prop:=
 vK (ak .i .lss a1 aj) λa=>
 vK (gV a false (some a1)) λe=>
 vK (gV a false (some a0)) λf=>
 vK (gV a false (aX f)) λg=>
 vK (gV a false (aC 6 g)) λj=>
 vK (gV a false (ldV h j)) λk=>
 vK (gV a false (aD k)) λl=>
 vK (gV a false (ak .i .gtr e l)) λm=>
 vK (aH a (.bool true) m) λn=>
 aG n (
 R (.bool false) h) (
 vK (ak .i .gtr a1 aj) λo=>
 aG o (
 bL h λS=>
 vK (aX a0) λp=>
 vK (aC 6 p) λq=>
 qK S (λh=>ldV h q) λr=>
 vK (ak .i .sub a1 aJ) λs=>
 vK (bh 1 r s) λt=>
 qK S (λh=>ldV h t) λu=>
 vK (aX a0) λv=>
 vK (aC 3 v) λw=>
 qK S (λh=>ldV h w) λx=>
 ag prog fm #[u,x] h λy z=>
 R y z) (
 vK (aX a0) λaa=>
 vK (aC 12 aa) λab=>
 vK (ldV h ab) λac=>
 aG ac (
 R (.bool false) h) (
 bL h λS=>
 vK (aX a0) λad=>
 vK (aC 8 ad) λae=>
 qK S (λh=>ldV h ae) λaf=>
 vK (aX a0) λah=>
 vK (aC 2 ah) λal=>
 qK S (λh=>ldV h al) λam=>
 ag prog eO #[am] h λan b=>
 S b∧(vK (ak .i .lss af an) λao=>
 aG ao (
 vK (aX a0) λap=>
 vK (aC 3 ap) λaq=>
 vK (ldV b aq) λar=>
 ag prog ja #[ar] b λau av=>
 R au av) (
 vK (aX a0) λaw=>
 vK (aC 3 aw) λax=>
 vK (ldV b ax) λay=>
 ag prog jw #[ay] b λaz d=>
 vK (unV .not az) λc=>
 vK (gV c false (some a0)) λa2=>
 gK c false (λa3=>ag prog sw #[a2] d a3) d λa4 a5=>
 vK (aH c (.bool true) a4) λa6=>
 R a6 a5)))))
theorem Jq (H:yc a0 a1 h R):ag prog mG #[a0,a1] h R:=fk f41 (.s .z (.s (.s .z (.s (.s .z .z) (.s .z (.s (.s (.d (.op 0 .r (.op 1 .r (.op 2 .r (.op 3 .r (.op 4 .r (.op 5 .r (.op 6 .r (.op 7 .r (.op 8 .r (.op 9 .r (.op 10 .r (.op 11 .r (.op 12 .n (.op 13 .r .nil))))))))))))))) .z) (.s .z (.s (.s .z .z) (.s (.d (.op 0 .r (.op 1 .r (.op 2 .r (.op 3 .r (.op 4 .r (.op 5 .r (.op 6 .r (.op 7 .r (.op 8 .e (.op 9 .r (.op 10 .r .nil)))))))))))) (.s (.s .z .z) .z)))))))) (.s .z .z))) H
def yf (a0:Value)(h:ai)(R:Value→ai→Prop):Prop:=
 bL h λS=>
 vK (aX a0) λm=>
 vK (aC 8 m) λn=>
 qK S (λh=>ldV h n) λo=>
 vK (aX a0) λp=>
 vK (aC 2 p) λq=>
 qK S (λh=>ldV h q) λr=>
 ag prog eO #[r] h λs a=>
 S a∧(vK (ak .i .lss o s) λt=>
 aG t (
 bL a λS=>
 vK (aX a0) λu=>
 vK (aC 3 u) λv=>
 qK S (λa=>ldV a v) λw=>
 vK (aX a0) λx=>
 vK (aC 8 x) λy=>
 qK S (λa=>ldV a y) λz=>
 ag prog oJ #[w,z] a λb3 b=>
 bL b λS=>
 vK (aX a0) λaa=>
 vK (aC 9 aa) λab=>
 qK S (λb=>ldV b ab) λac=>
 vK (aX a0) λad=>
 vK (aC 4 ad) λae=>
 qK S (λb=>ldV b ae) λaf=>
 ag prog iZ #[af,aj] b λah f=>
 S f∧(cO #[(.slice none 0 0)] 104 1 [(0,1,ah)] f λal g=>
 S g∧(cR (.slice none 0 0) 104 1 24 ac al g λam an=>
 vK (aX a0) λao=>
 vK (aC 9 ao) λap=>
 stK 1 ap am an λb4 j=>
 vK (aX a0) λaq=>
 vK (aC 8 aq) λar=>
 vK (ldV j ar) λau=>
 vK (ak .i .add au aJ) λav=>
 vK (aX a0) λaw=>
 vK (aC 8 aw) λax=>
 stK 1 ax av j λb5 ay=>
 R (.tuple #[]) ay))) (
 vK (aX a0) λaz=>
 vK (aC 3 az) λa1=>
 vK (ldV a a1) λa2=>
 ag prog jw #[a2] a λa3 d=>
 vK (unV .not a3) λa4=>
 aG a4 (
 vK (aX a0) λa5=>
 vK (aC 3 a5) λa6=>
 vK (ldV d a6) λa7=>
 ag prog jP #[a7] d λb6 k=>
 vK (aX a0) λa8=>
 vK (aC 4 a8) λa9=>
 vK (ldV k a9) λba=>
 ag prog iZ #[ba,aj] k λbb bc=>
 vK (aX a0) λbd=>
 vK (aC 10 bd) λbe=>
 stK 1 be bb bc λb7 bf=>
 R (.tuple #[]) bf) (
 vK (aX a0) λbg=>
 vK (aC 11 bg) λbi=>
 vK (ldV d bi) λl=>
 vK (aD l) λbj=>
 bC [aj] d λe b8 c bk=>
 vK (ak .i .lss (ix e 0) bj) λbl=>
 aG bl (
 vK (bh 1 l (ix e 0)) λbm=>
 vK (ldV c bm) λbn=>
 vK (aX a0) λbo=>
 vK (aC 4 bo) λbp=>
 vK (ldV c bp) λbq=>
 ag prog gE #[bq,aj,bn] c λb9 br=>
 vK (ak .i .add (ix e 0) aJ) λbs=>
 bk [bs] br) (
 vK (aX a0) λbt=>
 vK (aC 1 bt) λbu=>
 vK (ldV c bu) λbv=>
 ag prog un #[bv] c λbw bx=>
 ag prog eo #[a0,aj,aJ,aj,bw,(.bool false)] bx λca bz=>
 vK (aX a0) λb0=>
 vK (aC 12 b0) λb1=>
 stK 1 b1 (.bool true) bz λcb b2=>
 R (.tuple #[]) b2))))
theorem Jt (H:yf a0 h R):ag prog sr #[a0] h R:=fk f42 (.s (.d (.op 0 .r (.op 1 .r (.op 2 .r (.op 3 .r (.op 4 .r (.op 5 .r (.op 6 .r (.op 7 .r (.op 8 .e (.op 9 .r (.op 10 .r .nil)))))))))))) (.s (.s (.d (.op 0 .r (.op 1 .r (.op 2 .r (.op 3 .r (.op 4 .r (.op 5 .r (.op 6 .r (.op 7 .r (.op 8 .n .nil)))))))))) (.s (.d (.op 0 .r (.op 1 .r (.op 2 .r (.op 3 .r (.op 4 .r (.op 5 .r (.op 6 .r (.op 7 .r (.op 8 .r (.op 9 .e (.op 10 .e (.op 11 .n (.op 12 .r (.op 13 .r (.op 14 .n .nil)))))))))))))))) .z)) (.s .z (.s (.s .z .z) (.s (.s .z (.l 1048072 [9] (.s .z (.s (.s .z .z) (.s (.s .z .z) .z))))) (.s .z .z)))))) H
def yb (a0 a1:Value)(h:ai)(R:Value→ai→Prop):Prop:=
 aT (Value.cells a0) 35 h λd x=>
 aT (Value.cells a1) 3 x λe b=>
 eM (λj=>
 bL b λS=>
 qK S (λb=>ldV b d) λy=>
 vK (aX y) λz=>
 vK (aC 6 z) λaa=>
 qK S (λb=>ldV b aa) λab=>
 qK S (λb=>ldV b e) λac=>
 vK (ak .i .sub ac aJ) λad=>
 vK (bh 1 ab ad) λae=>
 qK S (λb=>ldV b ae) λk=>
 qK S (λb=>ldV b d) λah=>
 vK (aX ah) λal=>
 vK (aC 3 al) λam=>
 qK S (λb=>ldV b am) λl=>
 (ag prog dd #[k,l,(.func (.func iy) #[] #[d,e])] b λan m=>
 S m∧(aT #[aj,aj,aj,aj] 148 m λn o=>
 S o∧(stK 4 n an o λb6 p=>
 S p∧(j [n] p))))∧(aT #[aj,aj,aj,aj] 148 b λq r=>
 S r∧(ag prog dd #[k,l,(.func (.func iy) #[] #[d,e])] r λao s=>
 S s∧(stK 4 q ao s λb7 t=>
 S t∧(j [q] t)))))
 λf b8 a=>
 vK (aC 0 (ix f 0)) λap=>
 vK (ldV a ap) λg=>
 vK (ak .i .eql g aJ) λaq=>
 aG aq (
 bL a λS=>
 qK S (λa=>ldV a d) λar=>
 vK (aX ar) λau=>
 vK (aC 4 au) λav=>
 qK S (λa=>ldV a av) λaw=>
 qK S (λa=>ldV a e) λax=>
 qK S (λa=>ldV a d) λay=>
 vK (aX ay) λaz=>
 vK (aC 9 az) λa2=>
 qK S (λa=>ldV a a2) λa3=>
 vK (aC 1 (ix f 0)) λa4=>
 qK S (λa=>ldV a a4) λa5=>
 vK (bh 1 a3 a5) λa6=>
 qK S (λa=>ldV a a6) λa7=>
 ag prog gE #[aw,ax,a7] a λb9 a8=>
 R (.tuple #[]) a8) (
 vK (ak .i .eql g (af 2)) λa9=>
 aG a9 (
 vK (ldV a d) λba=>
 vK (ldV a e) λbb=>
 vK (aM 4 a (ix f 0)) λbc=>
 ag prog qE #[ba,bb,bc] a λca bd=>
 R (.tuple #[]) bd) (
 vK (ak .i .eql g (af 3)) λbe=>
 aG be (
 bL a λS=>
 qK S (λa=>ldV a d) λbf=>
 vK (aX bf) λbg=>
 vK (aC 4 bg) λbi=>
 qK S (λa=>ldV a bi) λbj=>
 qK S (λa=>ldV a e) λbk=>
 qK S (λa=>ldV a d) λbl=>
 vK (aX bl) λbm=>
 vK (aC 10 bm) λbn=>
 qK S (λa=>ldV a bn) λbo=>
 ag prog gE #[bj,bk,bo] a λcb c=>
 bL c λS=>
 qK S (λc=>ldV c d) λbp=>
 qK S (λc=>ldV c d) λbq=>
 vK (aX bq) λbr=>
 vK (aC 11 br) λbs=>
 qK S (λc=>ldV c bs) λbt=>
 qK S (λc=>ldV c d) λbu=>
 vK (aX bu) λbv=>
 vK (aC 4 bv) λbw=>
 qK S (λc=>ldV c bw) λbx=>
 qK S (λc=>ldV c e) λbz=>
 ag prog iZ #[bx,bz] c λb0 u=>
 S u∧(cO #[(.slice none 0 0)] 104 1 [(0,1,b0)] u λb1 v=>
 S v∧(cR (.slice none 0 0) 104 1 24 bt b1 v λb2 w=>
 S w∧(vK (aX bp) λb3=>
 vK (aC 11 b3) λb4=>
 stK 1 b4 b2 w λcc b5=>
 R (.tuple #[]) b5)))) (
 R (.tuple #[]) a)))
theorem Jp (H:yb a0 a1 h R):ag prog si #[a0,a1] h R:=fk f43 (.s .z (.j 524272 [4] (.d (.op 0 .r (.op 1 .r (.op 2 .r (.op 3 .r (.op 4 .r (.op 5 .r (.op 6 .r (.op 7 .r (.op 8 .r (.op 9 .r (.op 10 .r (.op 11 .r (.op 12 .r (.alt (.op 13 .e (.op 14 .e (.op 15 .e .nil))) (.op 14 .e (.op 13 .e (.op 15 .e .nil)))))))))))))))))) (.s .z (.s .z (.s (.d (.op 0 .r (.op 1 .r (.op 2 .r (.op 3 .r (.op 4 .r (.op 5 .r (.op 6 .r (.op 7 .r (.op 8 .r (.op 9 .r (.op 10 .r (.op 11 .r (.op 12 .r (.op 13 .n .nil))))))))))))))) (.s .z (.s .z (.s .z (.s (.s (.d (.op 0 .r (.op 1 .r (.op 2 .r (.op 3 .r (.op 4 .r (.op 5 .r (.op 6 .r (.op 7 .r (.op 8 .r (.op 9 .n .nil))))))))))) (.d (.op 0 .r (.op 1 .r (.op 2 .r (.op 3 .r (.op 4 .r (.op 5 .r (.op 6 .r (.op 7 .r (.op 8 .r (.op 9 .r (.op 10 .e (.op 11 .e (.op 12 .e (.op 13 .r (.op 14 .r (.op 15 .n .nil)))))))))))))))))) .z))))))))) H
def pB (a0:Value)(h:ai)(R:Value→ai→Prop):Prop:=
 vK (aX a0) λa=>
 vK (aC 1 a) λb=>
 vK (ldV h b) λc=>
 ag prog je #[c] h λd e=>
 R d e
theorem AA (H:pB a0 h R):ag prog lh #[a0] h R:=fk f44 (.s .z (.s .z .z)) H
def wU (a0:Value)(h:ai)(R:Value→ai→Prop):Prop:=
 bL h λS=>
 vK (aX a0) λc=>
 vK (aC 0 c) λd=>
 vK (aC 1 d) λe=>
 qK S (λh=>ldV h e) λf=>
 vK (aX a0) λg=>
 vK (aC 4 g) λj=>
 qK S (λh=>ldV h j) λk=>
 ag prog iz #[a0] h λl a=>
 S a∧(ag prog bR #[f] a λm b=>
 S b∧(ag prog wh #[m,k] b λn o=>
 vK (ak .i .mul l n) λp=>
 R p o))
theorem G7 (H:wU a0 h R):ag prog eO #[a0] h R:=fk f46 (.s .z (.s (.d (.op 0 .r (.op 2 .r (.op 3 .r (.op 4 .r (.op 5 .r (.op 6 .r (.op 8 .r (.op 9 .r (.op 10 .r (.op 11 .r (.op 1 .e (.op 7 .e (.op 12 .n (.op 13 .r (.op 14 .r .nil)))))))))))))))) .z)) H
def zT (a0:Value)(h:ai)(R:Value→ai→Prop):Prop:=
 ag prog eO #[a0] h λf g=>
 bC [(.slice none 0 0),aj] g λa u b j=>
 vK (ak .i .lss (ix a 1) f) λk=>
 aG k (
 ag prog gC #[a0,(ix a 1)] b λc l=>
 vK (aP c 0) λm=>
 vK (aP c 1) λv=>
 aT #[aj,aj,aj,aj,aj,aj,aj,aj,aj,aj] 116 l λd n=>
 stK 10 d m n λw e=>
 vK (aM 10 e d) λo=>
 cO #[aj,aj,aj,aj,aj,aj,aj,aj,aj,aj] 116 1 [(0,10,o)] e λp q=>
 cR (.agg #[aj,aj,aj,aj,aj,aj,aj,aj,aj,aj]) 116 10 80 (ix a 0) p q λr s=>
 vK (ak .i .add (ix a 1) aJ) λt=>
 j [r,t] s) (
 R (ix a 0) b)
theorem K6 (H:zT a0 h R):ag prog uK #[a0] h R:=fk f47 (.s .z (.s .z (.s (.s .z (.l 8388216 [3,9] (.s .z (.s (.s .z .z) (.s (.s .z (.s .z .z)) .z))))) (.s .z .z)))) H
def BC (a0 a1:Value)(h:ai)(R:Value→ai→Prop):Prop:=
 aT (Value.cells a0) 81 h λg m=>
 aT (Value.cells a1) 116 m λb j=>
 vK (aM 3 j g) λn=>
 vK (aC 1 b) λo=>
 vK (aM 4 j o) λp=>
 ag prog nP #[n,p] j λq c=>
 vK (unV .not q) λr=>
 aG r (
 R aj c) (
 vK (aC 1 b) λs=>
 vK (aC 3 s) λt=>
 vK (ldV c t) λu=>
 vK (aC 1 g) λv=>
 vK (ldV c v) λw=>
 vK (aC 1 b) λx=>
 vK (aC 1 x) λy=>
 vK (ldV c y) λz=>
 ag prog bM #[w,z] c λaa k=>
 vK (rh false 1 0 aa) λab=>
 vK (aC 1 b) λac=>
 vK (aC 3 ac) λad=>
 vK (ldV k ad) λae=>
 bC [u,ab,aj] k λa bb d af=>
 vK (ak .i .lss (ix a 2) ae) λah=>
 aG ah (
 vK (aC 1 g) λal=>
 vK (ldV d al) λam=>
 vK (aC 1 b) λan=>
 vK (aC 1 an) λao=>
 vK (ldV d ao) λap=>
 vK (ak .i .add ap (ix a 2)) λaq=>
 ag prog bM #[am,aq] d λar au=>
 aT #[aj,(.slice none 0 0)] 189 au λe av=>
 stK 2 e ar av λbc f=>
 vK (aC 0 e) λaw=>
 vK (ldV f aw) λax=>
 vK (aC 1 e) λay=>
 vK (ldV f ay) λaz=>
 vK (aD az) λa2=>
 vK (ak .i .add ax a2) λl=>
 vK (aC 0 e) λa3=>
 vK (ldV f a3) λa4=>
 vK (kA (ix a 1) a4) λa5=>
 vK (ak .i .sub l a5) λa6=>
 vK (kA aj a6) λa7=>
 vK (ak .i .add (ix a 0) a7) λa8=>
 vK (kA (ix a 1) l) λa9=>
 vK (ak .i .add (ix a 2) aJ) λba=>
 af [a8,a9,ba] f) (
 R (ix a 0) d))
theorem Mw (H:BC a0 a1 h R):ag prog xB #[a0,a1] h R:=fk f48 (.s .z (.s (.s .z (.s (.s .z .z) .z)) (.s .z (.s .z (.s (.s .z (.l 288230375883277280 [5,6,28] (.s .z (.s (.s .z .z) (.s (.s .z (.s .z (.s .z (.s .z .z)))) .z))))) (.s .z .z)))))) H
def wT (a0:Value)(h:ai)(R:Value→ai→Prop):Prop:=
 aT #[(.pointer none),(.pointer none),aj] 81 h λa b=>
 vK (aX a0) λd=>
 vK (aC 0 d) λe=>
 vK (aM 3 b e) λf=>
 stK 3 a f b λi c=>
 vK (aM 3 c a) λg=>
 R g c
theorem G6 (H:wT a0 h R):ag prog jy #[a0] h R:=fk f49 (.s .z (.s .z .z)) H
end
end Go.Proofs.YtjljhnandbbldaaGreatDoor
