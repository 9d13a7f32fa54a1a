/- Several texts of this session, one behind the other, without what this claim does not need (put together by its program pack.py). Conditions: none. -/
import Derived.Orders
import Derived.OrdersHeld
import Derived.Deep.Quiet
import Derived.Calls
import Derived.Laws.Sem
import Derived.Laws.World
import Derived.Laws.StructEq
import Derived.LaidEql
import Derived.Tactics
import Derived.KernelRfl
import Derived.Laws.Append
import Derived.WalkKit
import Derived.ProofKit
import Derived.OpenShut
import Derived.ShutString
import Derived.ChangeOld
import Derived.Below
import Derived.Carry
import Derived.SizedLaws
import Derived.Test.YtjljhnandbbldaaGreatDoorProg
set_option linter.unusedVariables false
set_option linter.unusedSimpArgs false
set_option maxRecDepth 100000
theorem ae {p:Prop}(h:p:=by omega):p:=h
abbrev af (n:Int):Go.Value:=.int .i64 n
abbrev ai:Go.Value:=.int .i64 0
abbrev aH:Go.Value:=.int .i64 1
abbrev az:= @if_neg
abbrev aA:= @if_pos
abbrev aK:= @Nat.zero_add
abbrev bh:= @Nat.le_trans
abbrev bK:= @Go.Result.andThen_ok
abbrev bR:= @Go.Sem.run_bind
abbrev bZ:= @Nat.zero_le
abbrev ck:= @List.length_append
abbrev cB:= @decide_eq_false
abbrev cE:= @Option.some.injEq
abbrev bU:= @Nat.le_refl
abbrev bT:= @Nat.lt_of_lt_of_le
abbrev cf:= @List.append_assoc
abbrev co:= @Decidable.of_not_not
abbrev cF:= @if_false
abbrev cJ:= @if_true
abbrev cI:= @Option.map_some
abbrev cV:= @List.length_map
abbrev cN:= @Go.Sem.run_pure
abbrev cR:= @Eq.trans
abbrev cQ:= @List.getElem_mem
abbrev cP:= @decide_eq_true
abbrev c5:= @List.length_take
abbrev cX:= @Go.run_underlying
abbrev dh:= @Bool.and_eq_true
abbrev eU:= @List.getElem_map
abbrev dS:= @decide_eq_true_eq
abbrev dQ:= @List.getD_eq_getElem?_getD
abbrev ef:= @Nat.add_mul
abbrev eT:= @Int.toNat_natCast
abbrev eS:= @List.take_of_length_le
abbrev eO:= @Nat.mul_comm
abbrev fg:= @List.length_range
abbrev fB:= @List.nil_append
abbrev fJ:= @eq_false
abbrev fQ:= @Int.mul_comm
abbrev gm:= @decide_true
abbrev gF:= @Bool.false_eq_true
abbrev gE:= @decide_eq_decide
abbrev gC:= @Int.le_refl
abbrev gT:= @Nat.mod_lt
abbrev gS:= @List.mem_append
abbrev gR:= @List.append_nil
abbrev iG:= @List.mem_map
abbrev ie:= @Ne.symm
abbrev ic:= @Nat.mul_le_mul_right
abbrev iF:= @Int.emod_lt_of_pos
abbrev ib:= @List.mem_singleton
abbrev iE:= @Nat.add_zero
abbrev iD:= @List.map_append
abbrev ja:= @List.getElem?_eq_getElem
abbrev iZ:= @List.length_drop
abbrev jy:= @Nat.div_le_self
abbrev jx:= @eq_true
abbrev jw:= @Int.add_mul
abbrev ju:= @List.take_succ_eq_append_getElem
abbrev ks:= @Int.emod_nonneg
abbrev jT:= @Int.tmod_eq_emod_of_nonneg
abbrev kr:= @List.length_nil
abbrev kq:= @List.mem_cons
abbrev kp:= @Int.one_mul
abbrev kU:= @eq_self
abbrev lY:= @Array.getElem?_eq_some_iff
abbrev lX:= @Nat.mul_one
abbrev lW:= @List.take_append_drop
abbrev lV:= @Int.natCast_mul
abbrev lU:= @List.range_succ
abbrev mY:= @List.cons_append
abbrev mX:= @List.eq_nil_of_length_eq_zero
abbrev mW:= @Nat.div_add_mod
abbrev mV:= @Int.mul_nonneg
abbrev mU:= @Int.lt_or_le
abbrev sS:= @cond_true
abbrev oE:= @Nat.lt_or_ge
abbrev oD:= @List.length_cons
abbrev oC:= @List.mem_iff_getElem
abbrev oB:= @Int.mul_assoc
abbrev qu:= @List.ext_getElem
abbrev qs:= @Array.getElem?_eq_getElem
abbrev qp:= @List.drop_eq_nil_of_le
abbrev qn:= @Int.mul_le_mul
abbrev xz:= @cond_false
abbrev sQ:= @Option.some.inj
abbrev sP:= @Nat.lt_of_le_of_lt
abbrev sO:= @Nat.div_eq_of_lt
abbrev sN:= @Nat.one_mul
abbrev sK:= @Int.mul_le_mul_of_nonneg_right
abbrev y5:= @List.getElem_range
abbrev y4:= @List.getElem?_toArray
abbrev vz:= @Nat.div_lt_iff_lt_mul
abbrev vy:= @Nat.mod_eq_of_lt
abbrev xy:= @List.mem_range
abbrev vx:= @Nat.pow_add
abbrev vw:= @Int.mul_ediv_add_emod
abbrev vv:= @List.length_replicate
abbrev xx:= @List.mem_cons_of_mem
abbrev BL:= @List.getElem?_cons_succ
abbrev xv:= @Bool.or_eq_true
abbrev xu:= @Go.wp_mono
abbrev yZ:= @List.getElem_take
abbrev qR:= @Int.mul_le_mul_of_nonneg_left
abbrev qQ:= @Int.ediv_eq_zero_of_lt
abbrev qP:= @List.pairwise_append
abbrev uo:= @List.map_cons
abbrev un:= @Go.run_program
abbrev um:= @Array.getElem?_toList
abbrev ul:= @Nat.add_assoc
abbrev uk:= @List.getElem?_append_left
abbrev uj:= @Nat.min_eq_left
abbrev w9:= @List.getElem_drop
abbrev ui:= @Int.le_ediv_iff_mul_le
abbrev uh:= @Nat.mul_assoc
abbrev ug:= @Int.add_mul_ediv_left
abbrev uf:= @List.pairwise_iff_getElem
abbrev ue:= @List.getElem?_append_right
abbrev CZ:= @List.map_map
abbrev w8:= @Nat.eq_zero_or_pos
abbrev CY:= @List.getElem?_cons_zero
abbrev w7:= @Go.wpOp_mono
abbrev w6:= @List.getElem?_map
abbrev wZ:= @List.length_pos_iff
abbrev wY:= @List.foldl_cons
abbrev wW:= @Int.ediv_lt_iff_lt_mul
abbrev wV:= @Nat.pow_pos
abbrev wU:= @Int.tdiv_eq_ediv_of_nonneg
abbrev K6:= @List.map_congr_left
abbrev wT:= @Int.toNat_of_nonneg
abbrev wS:= @Int.mul_pos
abbrev zt:= @Nat.eq_of_beq_eq_true
abbrev zq:= @Go.mem_ready
abbrev zo:= @Array.getElem?_eq_none
abbrev zn:= @Go.ready_mono
abbrev zk:= @List.mem_of_getElem?
abbrev zj:= @List.drop_eq_getElem_cons
abbrev zi:= @Nat.zero_mul
abbrev Hz:= @Array.length_toList
abbrev zh:= @Nat.add_sub_cancel
abbrev zg:= @Nat.mul_le_mul
abbrev zc:= @Int.mul_neg
abbrev y9:= @Nat.sub_zero
abbrev y8:= @Int.ediv_nonneg
abbrev y7:= @and_self
abbrev y6:= @Int.le_trans
abbrev CX:= @List.all_eq_true
abbrev CW:= @Array.toArray_toList
abbrev CV:= @beq_iff_eq
abbrev CU:= @of_decide_eq_true
abbrev CT:= @true_and
abbrev CS:= @List.getElem_cons_zero
abbrev CR:= @Nat.add_comm
abbrev CQ:= @Nat.succ_mul
abbrev CP:= @List.mem_of_mem_take
abbrev CN:= @Nat.mul_left_comm
abbrev CM:= @Int.le_total
abbrev CL:= @Int.mul_left_comm
abbrev CJ:= @List.foldl_append
abbrev Hs:= @Array.ext'
abbrev Hr:= @List.mem_cons_self
abbrev Hq:= @List.mapM_cons
abbrev Hp:= @Bool.eq_false_iff
abbrev Hn:= @List.drop_drop
abbrev Hm:= @Array.any_eq_true'
abbrev Hl:= @Nat.and_one_is_mod
abbrev Hk:= @Bool.true_and
abbrev Hj:= @Nat.le_of_not_lt
abbrev Hh:= @List.length_singleton
abbrev Hf:= @Nat.div_div_eq_div_mul
abbrev He:= @Nat.mul_add
abbrev Hd:= @Nat.add_mul_div_left
abbrev Hb:= @dif_pos
abbrev Ha:= @Int.pow_pos
abbrev G9:= @Int.le_of_lt_add_one
abbrev G8:= @Bool.decide_and
abbrev G7:= @decide_not
abbrev G6:= @Nat.div_mul_le_self
abbrev G0:= @decide_eq_false_iff_not
abbrev GZ:= @Int.mul_add
abbrev GY:= @List.getElem_set
abbrev GX:= @List.perm_append_comm
abbrev GW:= @List.Perm.refl
abbrev GV:= @List.getElem?_eq_none
abbrev GU:= @List.length_set
abbrev GT:= @eq_comm
abbrev GS:= @List.take_length
abbrev K4:= @Bool.not_eq_true'
abbrev K3:= @Go.Sem.run_map
abbrev K2:= @Array.mem_filter
abbrev KZ:= @Option.map_none
abbrev KY:= @Bool.or_eq_false_iff
abbrev KX:= @Array.ext
abbrev KW:= @Array.getElem?_modify
abbrev KV:= @Nat.le_total
abbrev KU:= @List.drop_zero
abbrev KT:= @Nat.pow_succ
abbrev KS:= @Nat.add_mul_mod_self_left
abbrev KR:= @Nat.le_div_iff_mul_le
abbrev KQ:= @decide_false
abbrev KP:= @Go.ByteArray.toList_eq
abbrev KO:= @List.map_set
abbrev KN:= @List.set_append_right
abbrev KM:= @List.concat_eq_append
abbrev KL:= @List.take_zero
abbrev KK:= @List.getElem?_eq_some_iff
abbrev KJ:= @List.mem_replicate
abbrev KI:= @Nat.mul_add_mod
abbrev Wz:= @Function.comp_def
abbrev KH:= @List.mem_append_left
abbrev KG:= @Int.natCast_add
abbrev KF:= @Nat.le_succ
abbrev RS:= @Array.toList_map
abbrev RR:= @Array.getD_eq_getD_getElem?
abbrev RQ:= @Nat.shiftRight_eq_div_pow
abbrev RP:= @Array.setIfInBounds_comm
abbrev RN:= @List.range_eq_range'
abbrev RM:= @List.size_toArray
abbrev RL:= @Go.growslice_fits
abbrev RK:= @List.take_append_of_le_length
abbrev RJ:= @List.drop_append
abbrev RI:= @Option.bind_eq_some_iff
abbrev RH:= @Int.mul_le_mul_of_nonpos_left
abbrev RG:= @Bool.decide_or
abbrev RF:= @BitVec.toNat_ofInt
abbrev RE:= @Int.fdiv_eq_ediv_of_nonneg
abbrev RD:= @Nat.mul_lt_mul_of_pos_right
abbrev RC:= @Nat.mul_right_comm
abbrev RB:= @Nat.mul_mod_mul_right
abbrev RA:= @Int.zero_sub
abbrev Rz:= @Int.neg_mul
abbrev Ry:= @List.countP_append
abbrev Rx:= @Int.sub_mul
abbrev Rw:= @List.pairwise_cons
abbrev Rv:= @List.perm_middle
abbrev Ru:= @List.length_eq_one_iff
abbrev Rt:= @List.mem_of_mem_drop
abbrev Rs:= @Nat.pow_succ'
abbrev Rq:= @Nat.div_le_div_left
abbrev Ro:= @Int.mul_sub
abbrev Rn:= @Option.isNone_none
abbrev Rm:= @Option.isNone_some
abbrev Rl:= @List.map_replicate
abbrev Rk:= @Int.add_mul_ediv_right
abbrev za0:= @Prod.mk.injEq
abbrev Rj:= @Array.mem_toList_iff
abbrev Wy:= @List.getElem_replicate
abbrev zaZ:= @Nat.lt_succ_of_lt
abbrev Ri:= @Int.eq_ofNat_of_zero_le
abbrev Rh:= @List.dropLast_concat_getLast
abbrev Rg:= @Nat.sub_self
abbrev Rf:= @Nat.mul_add_div
abbrev Re:= @Int.lt_of_not_ge
abbrev Rc:= @Classical.byContradiction
abbrev Rb:= @List.sum_append
abbrev Ra:= @List.map_singleton
abbrev Q9:= @List.sum_singleton
abbrev Wx:= @Array.mapM_eq_mapM_toList
abbrev Ww:= @Array.getElem?_setIfInBounds_ne
abbrev Wv:= @Array.getElem?_replicate
abbrev Wu:= @Array.getElem?_setIfInBounds
abbrev Wt:= @Classical.choose_spec
abbrev Ws:= @List.drop_append_of_le_length
abbrev Wr:= @List.getElem_append_left
abbrev Wq:= @Array.zipIdx_toArray
abbrev Wp:= @List.foldl_toArray'
abbrev Wm:= @List.getElem?_take_of_lt
abbrev Wl:= @Nat.mul_le_mul_left
abbrev Wj:= @Nat.mul_div_mul_right
abbrev Wi:= @List.range'_append_1
abbrev Wh:= @List.pairwise_lt_range'
abbrev Wg:= @List.drop_replicate
abbrev We:= @Nat.le_mul_of_pos_right
abbrev Wd:= @Nat.lt_succ_iff_lt_or_eq
abbrev Wc:= @Nat.add_sub_cancel_left
abbrev Wb:= @List.nodup_iff_pairwise_ne
abbrev Wa:= @List.getElem?_range
abbrev V7:= @Int.lt_of_add_one_le
namespace Go.Crisp
open Go
section
abbrev ah:=Array Obj
abbrev Env:=Nat→Value
abbrev nD:=ah→(Value→ah→Prop)→Prop
def dD (w w':World):Prop:=w'.os=w.os∧w'.tape=w.tape∧w'.output=w.output
theorem dD.refl (w:World):dD w w:=⟨rfl,rfl,rfl⟩
theorem dD.trans {a b c:World}(h:dD a b)(k:dD b c):dD a c:=⟨k.1.trans h.1,k.2.1.trans h.2.1,k.2.2.trans h.2.2⟩
def ev (ρ:Env):Operand→Value
 | .tmp t=>ρ t
 | .const v=>v
 | .global g=>.pointer (some ⟨g,0,none⟩)
 | .func f=>.func (.func f) #[] #[]
def up (ρ:Env)(d:Option Tmp)(v:Value):Env:=
 match d with
 |some d=>λt=>match Nat.beq t d with
  |true=>v
  |false=>ρ t
 |none=>ρ
def aG (h:ah)(a:Addr):Option Value:=
 match h[a.block]? with
 |some (.cells c _ _)=>if a.spot.isSome then none else c[a.off]?
 |_=>none
def vE (h:ah)(a:Addr):Bool:=
 match h[a.block]? with
 |some (.cells _ _ (lo,hi))=>lo≤a.off&&a.off<hi
 |_=>false
def Lw (h:ah)(a:Addr)(v:Value):ah:=
 h.modify a.block λ
  | .cells c elem frozen=>.cells (if a.spot.isSome then c else c.setIfInBounds a.off v) elem frozen
  |o=>o
def eJ (h:ah)(a:Addr):Nat→Nat→Option (List Value)
 |_,0=>some []
 | i,n+1=>match aG h (a.add i)with
  |some v=>match eJ h a (i+1) n with
   |some l=>some (v::l)
   |none=>none
  |none=>none
def aQ:Value→Bool
 | .agg _| .tuple _=>false
 |_=>true
def kb (h:ah)(a:Addr):Nat→List Value→Option ah
 |_,[]=>some h
 |i,v::l=>
  match aG h (a.add i)with
  |some _=>bif aQ v&& !vE h (a.add i)then kb (Lw h (a.add i) v) a (i+1) l else none
  |none=>none
inductive SE where
 |b|i
 |st (fs:List (Nat×Nat×SE))
inductive EK where
 |b|i|s|p|sl|m|f|o
 |st (fs:List (Nat×Nat×SE))
def zaF (f:TypeId→Option SE) (sz:TypeId→Option Nat):List Field→Option (List (Nat×Nat×SE))
 | []=>some []
 | fd::fs=>match f fd.type with
  |none=>none
  | some e=>match sz fd.type with
   |none=>none
   |some n=>match zaF f sz fs with
    |none=>none
    |some l=>some ((fd.offset,n,e)::l)
def Zu (P:Program)(fs:Array Field)(t:TypeId):Bool:= !P.stoodInHeld t&&(!P.eqGuardType P.depth t&&fs.toList.all λf=>f.name != "_")
def Qh (P:Program):Nat→TypeId→Option SE
 |0,_=>none
 | d+1,t=>match P.underlying t with
  |some .bool=>some .b
  |some (.int _)=>some .i
  | some (.struct fs)=>match Zu P fs t with
   |true=>match zaF (Qh P d) (λt=>(P.info? t).map (·.size)) fs.toList with
    |some l=>some (.st l)
    |none=>none
   |false=>none
  |_=>none
def Nb (P:Program)(t:TypeId):EK:=
 match P.underlying t with
 |some .bool=>.b
 |some (.int _)=>.i
 |some .string=>.s
 |some (.pointer _)=>.p
 |some (.slice _)=>.sl
 |some (.map _ _)=>.m
 |some (.func _ _ _)=>.f
 |some (.struct _)=>match Qh P 4 t with
  |some (.st l)=>.st l
  |_=>.o
 |_=>.o
def LA:SE→Bool
 | .st _=>true
 |_=>false
mutual
def Lz:SE→Value→Value→Option Bool
 | .b,.bool a,.bool b=>some (a==b)
 | .i,.int k a,.int k' b=>if k=k' then some (a==b)else none
 | .st fs,.agg xs,.agg ys=>Gj fs xs ys
 |_,_,_=>none
def Gj:List (Nat×Nat×SE)→Array Value→Array Value→Option Bool
 | [],_,_=>some true
 | (o,n,e)::fs,xs,ys=>
  match(bif LA e then some (.agg (xs.extract o (o+n)))else xs[o]?),(bif LA e then some (.agg (ys.extract o (o+n)))else ys[o]?)with
  |some a,some b=>match Lz e a b with
   |some true=>Gj fs xs ys
   |some false=>some false
   |none=>none
  |_,_=>none
end
def eqV (e:EK)(x y:Value):Option Bool:=
 match e,x,y with
 | .b,.bool a,.bool b=>some (a==b)
 | .p,.pointer none,.pointer b=>some b.isNone
 | .p,.pointer (some _),.pointer none=>some false
 | .sl,.slice none _ _,.slice b _ _=>some b.isNone
 | .sl,.slice (some _) _ _,.slice none _ _=>some false
 | .m,.map none,.map b=>some b.isNone
 | .m,.map (some _),.map none=>some false
 | .f,.nilFunc,.nilFunc=>some true
 | .f,.nilFunc,.func _ _ _=>some false
 | .f,.func _ _ _,.nilFunc=>some false
 | .st fs,.agg xs,.agg ys=>Gj fs xs ys
 |_,_,_=>none
def WP (P:Program):Bool:=true
class kY (P:Program):Prop where
 ok:WP P=true
def HI (op:BinOp)(k:IntKind)(a b:Int):Option Value:=
 match op with
 | .add=>some (.int k (k.wrap (a+b)))
 | .sub=>some (.int k (k.wrap (a-b)))
 | .mul=>some (.int k (k.wrap (a*b)))
 | .quo=>if b=0 then none else some (.int k (k.wrap (a.tdiv b)))
 | .rem=>if b=0 then none else some (.int k (a.tmod b))
 | .and=>some (.int k (k.wrap (BitVec.ofInt k.bits a&&& BitVec.ofInt k.bits b).toNat))
 | .or=>some (.int k (k.wrap (BitVec.ofInt k.bits a|||BitVec.ofInt k.bits b).toNat))
 | .xor=>some (.int k (k.wrap (BitVec.ofInt k.bits a^^^BitVec.ofInt k.bits b).toNat))
 | .andNot=>some (.int k (k.wrap (BitVec.ofInt k.bits a&&& ~~~ BitVec.ofInt k.bits b).toNat))
 | .eql=>some (.bool (a==b))
 | .neq=>some (.bool (a != b))
 | .lss=>some (.bool (a<b))
 | .leq=>some (.bool (a≤b))
 | .gtr=>some (.bool (b<a))
 | .geq=>some (.bool (b≤a))
 |_=>none
def strV (op:BinOp)(x y:ByteArray):Option Value:=
 match op with
 | .add=>if((x.size+y.size:Nat):Int)>IntKind.i64.max then none else some (.string (x++y))
 | .eql=>some (.bool (x.toList==y.toList))
 | .neq=>some (.bool !(x.toList==y.toList))
 |_=>none
def ak (e:EK)(op:BinOp)(x y:Value):Option Value:=
 match x,y with
 | .int k a,.int k' b=>
  match op with
  | .shl=>if b<0 then none else some (.int k (k.wrap (a*2^(min b.toNat k.bits))))
  | .shr=>if b<0 then none else some (.int k (a.fdiv (2^(min b.toNat k.bits))))
  |op=>if k=k' then HI op k a b else none
 | .string a,.string b=>strV op a b
 |x,y=>
  match op with
  | .eql=>(eqV e x y).map .bool
  | .neq=>(eqV e x y).map λb=>.bool !b
  |_=>none
def unV (op:UnOp)(x:Value):Option Value:=
 match op,x with
 | .neg,.int k n=>some (.int k (k.wrap (0-n)))
 | .xor,.int k n=>some (.int k (k.wrap (BitVec.ofInt k.bits (if k.signed then-1 else k.max)^^^BitVec.ofInt k.bits n).toNat))
 | .not,.bool b=>some (.bool !b)
 |_,_=>none
def aE (c x y:Value):Option Value:=
 match c with
 | .bool b=>some (bif b then x else y)
 |_=>none
def aR:Value→Option Value
 | .pointer none| .nilIface| .nilFunc=>none
 | .func (.method _) _ _=>none
 |x=>some x
def ldV (h:ah)(x:Value):Option Value:=
 match x with
 | .pointer (some a)=>aG h a
 |_=>none
def To:Operand→Bool
 | .const (.pointer none)=>true
 |_=>false
def nV (h:ah)(b:Nat):Bool:=match h[b]? with
 |some (.cells _ _ (0,0))=>true
 |_=>false
def peV (h:ah)(op:BinOp)(x y:Value):Option Value:=
 match x,y with
 | .pointer (some a),.pointer (some b)=>match op with
  | .eql=>if a=b then some (.bool true)else if nV h a.block&&nV h b.block then some (.bool false)else none
  | .neq=>if a=b then some (.bool false)else if nV h a.block&&nV h b.block then some (.bool true)else none
  |_=>none
 |x,y=>ak .p op x y
def aO (n:Nat)(h:ah)(x:Value):Option Value:=
 match x with
 | .pointer (some a)=>(eJ h a 0 n).map λl=>.agg l.toArray
 |_=>none
def aB (off:Nat)(x:Value):Option Value:=
 match x with
 | .pointer (some a)=>some (.pointer (some (a.add off)))
 |_=>none
def pS (agg:Bool)(size off:Nat)(x:Value):Option Value:=
 match x with
 | .agg cs=>bif agg then some (.agg (cs.extract off (off+size)))else cs[off]?
 |_=>none
def bu (size:Nat)(x i:Value):Option Value:=
 match x,i with
 | .slice (some a) len _,.int _ i=>if 0≤i∧i<(len:Int)then some (.pointer (some (a.add (i.toNat*size))))else none
 |_,_=>none
def MV (len size:Nat)(x i:Value):Option Value:=
 match x,i with
 | .pointer (some a),.int _ i=>if 0≤i∧i<(len:Int)then some (.pointer (some (a.add (i.toNat*size))))else none
 |_,_=>none
def zcs (x i:Value):Option Value:=
 match x,i with
 | .string s,.int _ i=>(if 0≤i then s[i.toNat]? else none).map λb=>.int .u8 b.toNat
 |_,_=>none
def aL (x:Value)(i:Nat):Option Value:=
 match x with
 | .tuple vs=>vs[i]?
 |_=>none
def gd (k:IntKind)(x:Value):Option Value:=
 match x with
 | .int _ n=>some (.int k (k.wrap n))
 |_=>none
def zb5 (x:Value):Option Value:=
 match x with
 | .int _ n=>some (.string (Utf8.encode n))
 |_=>none
def aD (x:Value):Option Value:=
 match x with
 | .slice _ n _=>some (.int .i64 n)
 |_=>none
def IR (x:Value):Option Value:=
 match x with
 | .string s=>some (.int .i64 s.size)
 |_=>none
def Pq (h:ah)(x:Value):Option Value:=
 match x with
 | .map none=>some (.int .i64 0)
 | .map (some r)=>match h[r]? with
  |some (.map es _)=>some (.int .i64 es.size)
  |_=>none
 |_=>none
def jS (x y:Value):Option Value:=
 match x,y with
 | .int k a,.int _ b=>some (.int k (if b>a then b else a))
 |_,_=>none
def rR (x y:Value):Option Value:=
 match x,y with
 | .int k a,.int _ b=>some (.int k (if b<a then b else a))
 |_,_=>none
def zb2 (x y z:Value):Option Value:=
 match jS x y with
 |some a=>jS a z
 |none=>none
def zb0 (x y z:Value):Option Value:=
 match rR x y with
 |some a=>rR a z
 |none=>none
def bdV (x:Option Value)(d:Nat)(most:Nat):Option Nat:=
 match x with
 |none=>some d
 |some (.int _ i)=>if 0≤i∧i≤(most:Int)then some i.toNat else none
 |some _=>none
def xj (size:Nat)(x:Value)(lo hi:Option Value):Option Value:=
 match x with
 | .slice a len cap=>match bdV hi len cap with
  |some h=>match bdV lo 0 h with
   |some l=>some (.slice (if cap=l then a else a.map (·.add (l*size))) (h-l) (cap-l))
   |none=>none
  |none=>none
 |_=>none
def zce (x:Value)(lo hi:Option Value):Option Value:=
 match x with
 | .string s=>match bdV hi s.size s.size with
  |some h=>match bdV lo 0 h with
   |some l=>some (.string (s.extract l h))
   |none=>none
  |none=>none
 |_=>none
def vK (r:Option Value)(K:Value→Prop):Prop:=
 match r with
 |some v=>K v
 |none=>False
def z8 (P:Program)(t:TypeId):Option Bool:=
 (P.underlying t).map λ
  | .struct _| .array _ _=>true
  |_=>false
def fb (P:Program)(t:TypeId):Option Nat:=(P.info? t).map (·.size)
def xi (P:Program)(t:TypeId):Option Value:=(P.info? t).bind (·.zero)
def lH (P:Program)(t:TypeId):Option TypeDesc:=
 match P.underlying t with
 |some (.int k)=>some (.int k)
 |some .bool=>some .bool
 |some .string=>some .string
 |_=>none
def Tr (h:ah)(m:Value):Option (Array MapEntry×Nat):=
 match m with
 | .map (some r)=>match h[r]? with
  |some (.map es c)=>some (es,c)
  |_=>none
 |_=>none
def JI (kd:TypeDesc)(zero:Value)(ok:Bool)(h:ah)(m k:Value):Option Value:=
 match m with
 | .map none=>some (bif ok then .tuple #[zero,.bool false]else zero)
 | m=>match Tr h m with
  |none=>none
  |some (es,_)=>match Instr.findNow kd k es.toList 0 with
   |some (some (_,v))=>some (bif ok then .tuple #[v,.bool true]else v)
   |some none=>some (bif ok then .tuple #[zero,.bool false]else zero)
   |none=>none
def aM (cells:Array Value):List (Nat×Nat×Value)→Option (Array Value)
 | []=>some cells
 |(off,size,v)::rest=>
  if v.cells.size≠size||off+v.cells.size>cells.size then none
  else aM (v.cells.zipIdx.foldl (λcs (c,j)=>cs.setIfInBounds (off+j) c) cells) rest
def wQ (P:Program):List Field→Option (List (Nat×Nat))
 | []=>some []
 | f::fs=>match fb P f.type with
  |none=>none
  |some s=>match wQ P fs with
   |none=>none
   |some l=>some ((f.offset,s)::l)
def SZ (P:Program)(t:TypeId):Option (Nat→Option (Nat×Nat)):=
 match P.underlying t with
 |some (.struct fs)=>(wQ P fs.toList).map λl=>λi=>l[i]?
 |some (.array _ e)=>(fb P e).map λs=>λi=>some (i*s,s)
 |_=>none
def Bv (pl:Nat→Option (Nat×Nat))(ρ:Env):List (Nat×Operand)→Option (List (Nat×Nat×Value))
 | []=>some []
 | (i,x)::rest=>match pl i with
  |none=>none
  |some (o,s)=>match Bv pl ρ rest with
   |none=>none
   |some l=>some ((o,s,ev ρ x)::l)
def roB (P:Program)(b:Builtin)(args:List Value)(ts:List TypeId)(h:ah):Option (Option Value):=
 match b with
 | .len=>match args,ts with
  | [x],[t]=>match P.underlying t with
   |some (.slice _)=>some (aD x)
   |some .string=>some (IR x)
   |some (.map _ _)=>some (Pq h x)
   |_=>none
  |_,_=>none
 | .max=>match args with
  | [x,y]=>some (jS x y)
  | [x,y,z]=>some (zb2 x y z)
  |_=>none
 | .min=>match args with
  | [x,y]=>some (rR x y)
  | [x,y,z]=>some (zb0 x y z)
  |_=>none
 |_=>none
def roV (P:Program) (ρ:Env) (op:Op) (h:ah):Option (Option Value):=
 match op with
 | .move x| .assign x=>some (some (ev ρ x))
 | .pick c x y=>some (aE (ev ρ c) (ev ρ x) (ev ρ y))
 | .load t x=>match z8 P t with
  |some false=>some (ldV h (ev ρ x))
  |some true=>match fb P t with
   |some n=>some (aO n h (ev ρ x))
   |none=>none
  |none=>none
 | .nilCheck x=>some (aR (ev ρ x))
 | .binOp op t x y _=>match Nb P t with
  | .o=>none
  | .p=>match To x||To y with
   |true=>some (ak .p op (ev ρ x) (ev ρ y))
   | false=>match P.underlying t with
    |some (.pointer e)=>match fb P e with
     |some (_+1)=>some (peV h op (ev ρ x) (ev ρ y))
     |_=>none
    |_=>none
  |e=>some (ak e op (ev ρ x) (ev ρ y))
 | .unOp op _ x=>some (unV op (ev ρ x))
 | .convert s d x=>match P.underlying s,P.underlying d with
  |some (.int _),some (.int k)=>some (gd k (ev ρ x))
  |some (.int _),some .string=>some (zb5 (ev ρ x))
  |_,_=>none
 | .slice t x lo hi none=>match P.underlying t with
  |some (.slice e)=>match fb P e with
   |some n=>some (xj n (ev ρ x) (lo.map (ev ρ)) (hi.map (ev ρ)))
   |none=>none
  |some .string=>some (zce (ev ρ x) (lo.map (ev ρ)) (hi.map (ev ρ)))
  |_=>none
 | .fieldAddr s x f=>match P.underlying s with
  | some (.struct fs)=>match fs[f]? with
   |some fd=>match fb P fd.type with
    |some 0=>none
    |some (_+1)=>some (aB fd.offset (ev ρ x))
    |none=>none
   |none=>none
  |_=>none
 | .field t x f=>match P.underlying t with
  | some (.struct fs)=>match fs[f]? with
   |some fd=>match z8 P fd.type,fb P fd.type with
    |some b,some n=>some (pS b n fd.offset (ev ρ x))
    |_,_=>none
   |none=>none
  |_=>none
 | .indexAddr t x i=>match P.underlying t with
  |some (.slice e)=>match fb P e with
   |some n=>some (bu n (ev ρ x) (ev ρ i))
   |none=>none
  |some (.array len e)=>match fb P e with
   |some n=>some (MV len n (ev ρ x) (ev ρ i))
   |none=>none
  |_=>none
 | .index t x i=>match P.underlying t with
  |some .string=>some (zcs (ev ρ x) (ev ρ i))
  |_=>none
 | .extract t i=>some (aL (ev ρ t) i)
 | .makeInterface t x=>match P.underlying t with
  |some (.interface _)=>none
  |some _=>some (some (.iface t (ev ρ x)))
  |none=>none
 | .makeFunc fn first captured=>some (some (.func fn (first.map (ev ρ)) (captured.map (ev ρ))))
 | .lookup t x k ok=>match P.underlying t with
  |some (.map kt et)=>match lH P kt,xi P et with
   |some kd,some z=>some (JI kd z ok h (ev ρ x) (ev ρ k))
   |_,_=>none
  |_=>none
 | .build t parts=>match xi P t,SZ P t with
  |some z,some pl=>match Bv pl ρ parts.toList with
   |some l=>some ((aM z.cells l).map .agg)
   |none=>none
  |_,_=>none
 | .call c=>match c.callee with
  | .builtin b=>roB P b (c.args.map (ev ρ)).toList c.argTypes.toList h
  |_=>none
 |_=>none
section
variable {P:Program}{ρ:Env}{w:World}
theorem bD {t:TypeId}{n:Nat}(h:fb P t=some n):(sizeOf t).run P w=.ok n w:=by
 unfold fb at h;cases hi:P.info? t with
 |none=>simp[hi]at h
 |some i=>simp[hi]at h;simp[sizeOf,typeInfo,hi,h]
theorem cn {t:TypeId}{b:Bool}(h:z8 P t=some b):(isAgg t).run P w=.ok b w:=by
 unfold z8 at h;cases hi:P.underlying t with
 |none=>simp[hi]at h
 |some d=>
  simp only[hi,cI,cE]at h;subst h;simp only[isAgg,bR,cX hi,bK];cases d<;>rfl
theorem bA {t:TypeId}{z:Value}(h:xi P t=some z):(zeroValue t).run P w=.ok z w:=by
 unfold xi at h;cases hi:P.info? t with
 |none=>simp[hi]at h
 |some i=>simp[hi]at h;simp[zeroValue,typeInfo,hi,h]
theorem Pe {a:Addr}{v:Value}(h:aG w.heap a=some v):(load a).run P w=.ok v w:=by
 have:w.cell? a=some v:=h;simp[this]
theorem wO (a:Addr):∀(n i:Nat) (acc:Array Value) (l:List Value),eJ w.heap a i n=some l→(loadCellsFrom a i n acc).run P w=.ok (acc++l.toArray) w
 |0,i,acc,l,h=>by
  simp[eJ]at h;subst h;simp[loadCellsFrom]
 | n+1,i,acc,l,h=>by
  unfold eJ at h;cases h1:aG w.heap (a.add i)with
  |none=>simp[h1]at h
  | some v=>
   simp only[h1]at h;cases h2:eJ w.heap a (i+1) n with
   |none=>simp[h2]at h
   |some l'=>
    simp only[h2,cE]at h;subst h;have:=wO a n (i+1) (acc.push v) l' h2;simp only[loadCellsFrom,bR,Pe h1,bK,this]
    congr 1
    apply Hs;simp
theorem As {t:TypeId}{a:Addr}{v:Value}(ht:z8 P t=some false)(h:aG w.heap a=some v):(loadVar t a).run P w=.ok v w:=by
 simp[loadVar,cn ht];simpa using Pe (P:=P) h
theorem Au {t:TypeId}{a:Addr}{n:Nat}{l:List Value}(ht:z8 P t=some true)(hs:fb P t=some n)(h:eJ w.heap a 0 n=some l):
  (loadVar t a).run P w=.ok (.agg l.toArray) w:=by
 have:=wO (P:=P) a n 0 #[] l h;simp[loadVar,cn ht,bD hs,loadCells,this]
theorem Ir {t:TypeId}{b:Bool}{n off:Nat}{cs:Array Value}{v:Value}(ht:z8 P t=some b)(hs:fb P t=some n)(h:pS b n off (.agg cs)=some v):
  (part t cs off).run P w=.ok v w:=by
 simp only[pS]at h;simp only[part,bR,cn ht,bK];cases b
 ·simp at h;simp[h]
 ·simp at h;simp[bD hs,h]
theorem mD {x:Value}{most n:Nat}(c:BoundsCode)(d:Nat)(h:bdV (some x) d most=some n):(Instr.sliceBound x most c).run P w=.ok n w:=by
 unfold bdV at h;cases x<;>simp at h
 rename_i k i;obtain⟨h1,rfl⟩:=h;simp[Instr.sliceBound,asIntOf,h1]
theorem yi {b:Bool}{len cap l h:Nat}{lo hi:Option Value}(hh:bdV hi len cap=some h)(hl:bdV lo 0 h=some l):
  (Instr.sliceBounds b len cap lo hi none).run P w=.ok (l,h,cap) w:=by
 unfold Instr.sliceBounds;cases hi with
 |none=>
  simp[bdV]at hh;subst hh;cases lo with
  |none=>simp[bdV]at hl;subst hl;simp
  |some x=>simp[mD _ _ hl]
 |some y=>
  cases lo with
  |none=>simp[bdV]at hl;subst hl;simp[mD _ _ hh]
  |some x=>simp[mD _ _ hh,mD _ _ hl]
theorem YG {op:BinOp}{k:IntKind}{a b:Int}{v:Value}(h:HI op k a b=some v)(hs:op≠ .shl∧op≠ .shr)(t:TypeId):
  (binOp op t (.int k a) (.int k b)).run P w=.ok v w:=by
 cases op<;>simp_all [HI,binOp,Op.intArith,Op.intDiv,Op.intBits,Op.intCmp]
theorem WN [kY P]{t:TypeId}{d:Nat}{fs:Array Field}{e:SE}(hu:P.underlying t=some (.struct fs))(hd:d<5)(he:Qh P d t=some e):
  P.stoodInHeld t=false∧P.eqGuardType P.depth t=false∧∀f∈fs.toList,f.name≠ "_" :=by
 have h1:Zu P fs t=true:=by
  cases d with
  |zero=>cases he
  |succ d=>
   unfold Qh at he;rw[hu]at he;simp only at he;split at he
   ·rename_i hb;exact hb
   ·cases he
 unfold Zu at h1;simp only[dh,K4,CX,bne_iff_ne,ne_eq]at h1;exact⟨h1.1,h1.2.1,h1.2.2⟩
theorem SM:∀{d:Nat} {t:TypeId} {e:SE},Qh P d t=some e→z8 P t=some (LA e)
 |0,_,_,h=>by cases h
 | d+1,t,e,h=>by
  unfold Qh at h;unfold z8;split at h
  ·rename_i hu;cases h;rw[hu];rfl
  ·rename_i hu;cases h;rw[hu];rfl
  ·rename_i hu;split at h
   ·split at h
    ·cases h;rw[hu];rfl
    ·cases h
   ·cases h
  ·cases h
theorem LC [kY P]:∀(d:Nat),d<5→∀(k:Nat),d≤k→∀(t:TypeId) (e:SE) (x y:Value) (b:Bool),Qh P d t=some e→Lz e x y=some b→(Op.equalIn k t x y).run P w=.ok b w
 |0,_,_,_,_,_,_,_,_,h,_=>by cases h
 | d + 1, hd,k,hk,t,e,x,y,b,h,hq=>by
  obtain⟨k,rfl⟩:∃m,k=m+1:=⟨k-1,by omega⟩
  have h':=h;unfold Qh at h;split at h
  ·rename_i hu;cases h;unfold Lz at hq;split at hq<;>simp_all
   subst hq;exact run_equalIn_bool' _ _ _ _ _ hu
  ·rename_i hu;cases h;unfold Lz at hq;split at hq<;>simp_all
   obtain⟨rfl,rfl⟩:=hq;exact run_equalIn_int _ _ _ _ _ _ _ hu
  ·rename_i fs hu;split at h
   ·split at h
    case h_2=>cases h
    rename_i l hl;cases h;have hf:=WN hu hd h';unfold Lz at hq;split at hq<;>try(simp at* ;done)
    rename_i fs' xs ys hfs;cases hfs;have hfo:P.fieldsOf t=fs:=by unfold Program.fieldsOf;rw[hu]
    rw[run_equalIn_struct w k t xs ys (by rw[hfo];exact hu) hf.1,hfo];have names:=hf.2.2
    clear hfo hu h' hf
    generalize fs.toList=gs at hl names;induction gs generalizing l b with
    |nil=>
     simp only[zaF,cE]at hl;subst hl;simp only[Gj,cE]at hq;subst hq;rfl
    | cons f gs ih=>
     unfold zaF at hl;split at hl
     ·cases hl
     ·rename_i e he;split at hl
      ·cases hl
      ·rename_i n hn;split at hl
       ·cases hl
       ·rename_i l' hl';cases hl;unfold Gj at hq;split at hq
        ·rename_i a b' ha hb;have pa:=Ir (P:=P) (w:=w) (SM he) hn (off:=f.offset) (cs:=xs) (v:=a) (by simpa[pS]using ha);have pb:=Ir (P:=P) (w:=w) (SM he) hn (off:=f.offset) (cs:=ys) (v:=b') (by simpa[pS]using hb);have nm:=names f (Hr ..);unfold Op.eqFields;rw[aA nm];simp only[bR,pa,pb,bK];split at hq
         ·rename_i hs;rw[LC d (by omega) k (by omega) _ _ _ _ _ he hs];simp only[bK,Bool.not_true,gF,cF];exact ih b l' hq hl' λg hg=>names g (xx _ hg)
         ·rename_i hs;cases hq;rw[LC d (by omega) k (by omega) _ _ _ _ _ he hs];rfl
         ·cases hq
        ·cases hq
   ·cases h
  ·cases h
theorem PD {e:EK}{x y:Value}{b:Bool}(hs:∀fs,e≠ .st fs)(h:eqV e x y=some b):(∀c,x≠ .agg c)∧x≠ .nilIface:=by
 unfold eqV at h;split at h<;>simp_all
theorem rH {op:BinOp}{t:TypeId}{x y:Value}(x' y':Operand)(h:(∀c,x≠ .agg c)∧x≠ .nilIface):(eqGuard op t x' y' x y).run P w=.ok () w:=by
 unfold eqGuard;cases op<;>(try rfl)<;>(simp only[Bool.not_true,gF,cF];cases x<;>first|rfl|simp_all)
theorem zaH {e:EK}{t:TypeId}{x y:Value}{b:Bool}(he:Nb P t=e)(ho:e≠ .o)(hs:∀fs,e≠ .st fs)(h:eqV e x y=some b):(Op.equal t x y).run P w=.ok b w:=by
 unfold Nb at he;cases hu:P.underlying t with
 |none=>simp[hu]at he;exact absurd he.symm ho
 | some d=>
  simp only[hu]at he;unfold Op.equal Op.maxDepth;rw[show(10000:Nat)=9999+1 from rfl];unfold Op.equalIn;simp only[bR,cX hu,bK];cases d with
  |struct fs=>
   exfalso;simp only at he;split at he
   ·exact hs _ he.symm
   ·exact ho he.symm
  |_=>
   simp only at he;subst he
   first
   |exact absurd rfl ho
   |(unfold eqV at h;split at h<;>simp_all)
theorem JA {e:EK}{op:BinOp}{t:TypeId}{x y v:Value}{b:Bool}(he:Nb P t=e)(ho:e≠ .o)(hs:∀fs,e≠ .st fs)(hq:eqV e x y=some b)
  (h:op=.eql∧v=.bool b∨op=.neq∧v=.bool !b):(binOp op t x y).run P w=.ok v w:=by
 have hr:=zaH (P:=P) (w:=w) he ho hs hq;unfold eqV at hq;rcases h with⟨rfl,rfl⟩|⟨rfl,rfl⟩
 all_goals(split at hq<;>simp_all [binOp])
theorem SN [kY P]{l:List (Nat×Nat×SE)}{op:BinOp}{t:TypeId}{x y v:Value}{b:Bool}(he:Nb P t=.st l)(hq:eqV (.st l) x y=some b)
  (h:op=.eql∧v=.bool b∨op=.neq∧v=.bool !b) (x' y':Operand):(do eqGuard op t x' y' x y;binOp op t x y:Sem Value).run P w=.ok v w:=by
 have hu:∃fs,P.underlying t=some (.struct fs)∧Qh P 4 t=some (.st l):=by
  unfold Nb at he;split at he<;>first|(cases he;done)|skip
  rename_i fs hu;split at he
  ·rename_i l' hl;cases he;exact⟨fs,hu,hl⟩
  ·cases he
 obtain⟨fs,hu,hl⟩:=hu;unfold eqV at hq;split at hq<;>first|(cases hq;done)|skip
 all_goals first|(rename_i xs ys h0;cases h0)|(rename_i h0 _ _;cases h0;done)|skip
 rename_i xs ys h0;have hse:Lz (.st l) (.agg xs) (.agg ys)=some b:=by unfold Lz;exact hq
 have hrun:=LC (P:=P) (w:=w) 4 (by omega) 10000 (by omega) t _ _ _ _ hl hse;have hg:=(WN hu (by omega) hl).2.1;simp only[bR,run_eqGuard_agg w op t x' y' xs ys hg,bK];rcases h with⟨rfl,rfl⟩|⟨rfl,rfl⟩
 ·rw[run_eql_struct,hrun];rfl
 ·rw[run_neq_struct,hrun];rfl
theorem LG [kY P]{e:EK}{op:BinOp}{t:TypeId}{x y v:Value}(he:Nb P t=e)(ho:e≠ .o)(h:ak e op x y=some v)(x' y':Operand):
  (do eqGuard op t x' y' x y;binOp op t x y:Sem Value).run P w=.ok v w:=by
 unfold ak at h;split at h
 ·rename_i k a k' b;simp only[bR,rH x' y' (x:=.int k a) (by simp),bK];split at h
  ·split at h
   ·cases h
   ·rename_i hb;simp only[cE]at h;subst h;simp[binOp,Op.shift,hb]
  ·split at h
   ·cases h
   ·rename_i hb;simp only[cE]at h;subst h;simp[binOp,Op.shift,hb]
  ·rename_i h1 h2;split at h
   ·rename_i hk;subst hk;exact YG h ⟨h1,h2⟩ t
   ·cases h
 ·rename_i a b;simp only[bR,rH x' y' (x:=.string a) (by simp),bK];unfold strV at h;cases op<;>simp_all [binOp,Op.stringOp]
 ·split at h
  ·cases hq:eqV e x y with
   |none=>simp[hq]at h
   | some b=>
    simp[hq]at h;subst h;by_cases hst:∃fs,e=.st fs
    ·obtain⟨l,rfl⟩:=hst;exact SN he hq (.inl ⟨rfl,rfl⟩) x' y'
    ·have hs:∀fs,e≠ .st fs:=λfs h=>hst ⟨fs,h⟩
     simp only[bR,rH x' y' (PD hs hq),bK];exact JA he ho hs hq (.inl ⟨rfl,rfl⟩)
  ·cases hq:eqV e x y with
   |none=>simp[hq]at h
   | some b=>
    simp[hq]at h;subst h;by_cases hst:∃fs,e=.st fs
    ·obtain⟨l,rfl⟩:=hst;exact SN he hq (.inr ⟨rfl,rfl⟩) x' y'
    ·have hs:∀fs,e≠ .st fs:=λfs h=>hst ⟨fs,h⟩
     simp only[bR,rH x' y' (PD hs hq),bK];exact JA he ho hs hq (.inr ⟨rfl,rfl⟩)
  ·cases h
theorem lD {e:Bool}{kt:TypeId}{kd:TypeDesc}{k:Value}(hk:lH P kt=some kd)(n:Nat):(Instr.checkKey e (n+1) kt k).run P w=.ok () w:=by
 unfold lH at hk;cases hu:P.underlying kt with
 |none=>simp[hu]at hk
 |some d=>
  simp only[hu]at hk;simp only[Instr.checkKey,bR,cX hu,bK];cases d<;>simp at hk<;>rfl
theorem Qi {P:Program}{kt:TypeId}{kd:TypeDesc}(hk:lH P kt=some kd):P.underlying kt=some kd:=by
 unfold lH at hk;cases hu:P.underlying kt with
 |none=>simp[hu]at hk
 |some d=>cases d<;>simp_all
theorem jJ {kt:TypeId}{kd:TypeDesc}{k:Value}{es:List MapEntry}{r:Option (Nat×Value)}(hk:lH P kt=some kd)(h:Instr.findNow kd k es 0=some r):
  (Instr.findKey kt k es).run P w=.ok r w:=by
 simp[Instr.findKey,cX (Qi hk),h]
theorem jP {m:Nat}{es:Array MapEntry}{c:Nat}(h:w.heap[m]? =some (.map es c)):(getObj m).run P w=.ok (.map es c) w:=by
 simp[getObj,Sem.run,h]
theorem Xu {t kt et:TypeId} {kd:TypeDesc} {z:Value} {ok:Bool} {m k v:Value} (ht:P.underlying t=some (.map kt et)) (hk:lH P kt=some kd) (hz:xi P et=some z)
  (h:JI kd z ok w.heap m k=some v):(Instr.lookup t m k ok).run P w=.ok v w:=by
 unfold JI at h;split at h
 ·simp only[cE]at h;subst h;simp only[Instr.lookup,bR,cX ht,bK,cN];rw[show(10000:Nat)=9999+1 from rfl,lD hk];simp only[bK];rw[jJ hk (r:=none) (by simp[Instr.findNow])];simp only[bK,bR,bA hz,cN];cases ok<;>rfl
 ·rename_i hm;cases hq:Tr w.heap m with
  |none=>simp[hq]at h
  | some p=>
   obtain⟨es,c⟩:=p;simp only[hq]at h;unfold Tr at hq;cases m with
   | map r=>
    cases r with
    |none=>simp at hq
    | some r=>
     simp only at hq;cases hh:w.heap[r]? with
     |none=>simp[hh]at hq
     | some o=>
      cases o<;>simp[hh]at hq
      obtain⟨rfl,rfl⟩:=hq;simp only[Instr.lookup,bR,cX ht,bK,jP hh,cN];rw[show(10000:Nat)=9999+1 from rfl,lD hk];simp only[bK];cases hf:Instr.findNow kd k _ 0 with
      |none=>rw[hf]at h;cases h
      | some q=>
       rw[hf]at h;rw[jJ hk hf];cases q with
       |none=>
        simp only[cE]at h;subst h;simp only[bK,bR,bA hz,cN];cases ok<;>rfl
       |some q=>
        obtain⟨i,u⟩:=q;simp only[cE]at h;subst h;simp only[bK];cases ok<;>rfl
   |_=>simp at hq
theorem R0 {pl:Nat→Option (Nat×Nat)}{ρ:Env}:∀(ps:List (Nat×Operand)) (l:List (Nat×Nat×Value)) (cells out:Array Value),Bv pl ρ ps=some l→aM cells l=some out→
  Instr.fill pl cells (ps.map λ(i,x)=>(i,ev ρ x))=some out
 | [],l,cells,out,h,h'=>by simp[Bv]at h;subst h;simpa[aM,Instr.fill]using h'
 | (i,x)::ps,l,cells,out,h,h'=>by
  unfold Bv at h;cases hp:pl i with
  |none=>simp[hp]at h
  | some p=>
   obtain⟨o,s⟩:=p;simp only[hp]at h;cases hq:Bv pl ρ ps with
   |none=>simp[hq]at h
   | some l'=>
    simp only[hq,cE]at h;subst h;simp only[aM]at h';simp only[uo,Instr.fill,hp];split at h'
    ·cases h'
    ·rename_i hc;rw[az hc];exact R0 ps l' _ out hq h'
theorem SQ {s f off:Nat}{x v:Value}{fs:Array Field}{fd:Field}{n:Nat}(hs:P.underlying s=some (.struct fs))(hf:fs[f]? =some fd)(hn:fb P fd.type=some (n+1))(ho:fd.offset=off)
  (h:aB off x=some v):(Instr.fieldAt s x f).run P w=.ok v w:=by
 unfold aB at h;split at h
 ·rename_i a;simp only[cE]at h;subst h;subst ho;simp[Instr.fieldAt,cX hs,hf,Instr.sureAddr,fieldPlace,bD hn]
 ·cases h
theorem LF {x y v:Value}(h:jS x y=some v):(Builtin.max2 x y).run P w=.ok v w:=by
 unfold jS at h;split at h
 ·simp only[cE]at h;subst h;simp[Builtin.max2]
 ·cases h
theorem LD {x y v:Value}(h:rR x y=some v):(Builtin.min2 x y).run P w=.ok v w:=by
 unfold rR at h;split at h
 ·simp only[cE]at h;subst h;simp[Builtin.min2]
 ·cases h
theorem Gk {t e n:Nat}{x v:Value}{lo hi:Option Value}(ht:P.underlying t=some (.slice e))(hn:fb P e=some n)(h:xj n x lo hi=some v):
  (Instr.sliceAt t x lo hi none).run P w=.ok v w:=by
 unfold xj at h;split at h
 ·rename_i a len cap;split at h
  ·rename_i hh h1;split at h
   ·rename_i l h2;simp only[cE]at h;subst h;simp[Instr.sliceAt,Instr.slice,cX ht,yi h1 h2,bD hn]
   ·cases h
  ·cases h
 ·cases h
theorem Eo {t:Nat}{x v:Value}{lo hi:Option Value}(ht:P.underlying t=some .string)(h:zce x lo hi=some v):
  (Instr.sliceAt t x lo hi none).run P w=.ok v w:=by
 unfold zce at h;split at h
 ·rename_i s;split at h
  ·rename_i hh h1;split at h
   ·rename_i l h2;simp only[cE]at h;subst h;simp[Instr.sliceAt,Instr.slice,cX ht,yi h1 h2]
   ·cases h
  ·cases h
 ·cases h
theorem Gm {t e n:Nat}{x i v:Value}(ht:P.underlying t=some (.slice e))(hn:fb P e=some n)(h:bu n x i=some v):
  (Instr.indexAt t x i).run P w=.ok v w:=by
 unfold bu at h;split at h
 ·rename_i a len _ k j;split at h
  ·rename_i hb;simp only[cE]at h;subst h;simp[Instr.indexAt,asIntOf,cX ht,hb,bD hn]
  ·cases h
 ·cases h
theorem Gn {t e n len:Nat}{x i v:Value}(ht:P.underlying t=some (.array len e))(hn:fb P e=some n)(h:MV len n x i=some v):
  (Instr.indexAt t x i).run P w=.ok v w:=by
 unfold MV at h;split at h
 ·rename_i a k j;split at h
  ·rename_i hb;simp only[cE]at h;subst h;simp[Instr.indexAt,asIntOf,cX ht,Instr.sureAddr,hb,bD hn]
  ·cases h
 ·cases h
theorem Is {t:Nat}{x i v:Value}(ht:P.underlying t=some .string)(h:zcs x i=some v):(Instr.index t x i).run P w=.ok v w:=by
 unfold zcs at h;split at h
 ·rename_i s k j;cases hb:(if 0≤j then s[j.toNat]? else none)with
  |none=>simp[hb]at h
  |some b=>
   simp[hb]at h;subst h;simp[Instr.index,asIntOf,cX ht,hb]
 ·cases h
theorem Gl:∀(fs:List Field) (l:List (Nat×Nat)),wQ P fs=some l→(fs.mapM λf=>do pure (f.offset,←sizeOf f.type):Sem (List (Nat×Nat))).run P w=.ok l w
 | [],l,h=>by simp[wQ]at h;subst h;rfl
 | f::fs,l,h=>by
  unfold wQ at h;cases h1:fb P f.type with
  |none=>simp[h1]at h
  | some s=>
   simp only[h1]at h;cases h2:wQ P fs with
   |none=>simp[h2]at h
   |some l'=>
    simp only[h2,cE]at h;subst h;simp only[Hq,bR,bD h1,bK,cN,Gl fs l' h2]
theorem SO {fs:Array Field}{l:List (Nat×Nat)}(h:wQ P fs.toList=some l):(fs.mapM λf=>do pure (f.offset,←sizeOf f.type):Sem (Array (Nat×Nat))).run P w=.ok l.toArray w:=by
 rw[Wx,K3,Gl fs.toList l h];rfl
theorem Xw {b:Builtin}{args:List Value}{ts:Array TypeId}{ty:TypeId}{cs:Array Bool}{v:Value}(hr:roB P b args ts.toList w.heap=some (some v)):(builtin b ts ty cs args.toArray).run P w=.ok (.value v) w:=by
 unfold roB at hr;split at hr
 ·split at hr
  ·rename_i x t hts;obtain rfl:ts=#[t]:=by apply Hs;simpa using hts
   split at hr
   ·rename_i e ht;simp only[cE]at hr;unfold aD at hr;split at hr
    ·simp only[cE]at hr;subst hr;simp[builtin,Builtin.len_,cX ht,goInt]
    ·cases hr
   ·rename_i ht;simp only[cE]at hr;unfold IR at hr;split at hr
    ·simp only[cE]at hr;subst hr;simp[builtin,Builtin.len_,cX ht,goInt]
    ·cases hr
   ·rename_i ht;simp only[cE]at hr;unfold Pq at hr;split at hr
    ·simp at hr;subst hr;simp[builtin,Builtin.len_,cX ht,goInt]
    ·split at hr
     ·rename_i hm;simp at hr;subst hr;simp[builtin,Builtin.len_,cX ht,goInt,jP hm]
     ·cases hr
    ·cases hr
   ·cases hr
  ·cases hr
 ·split at hr
  ·simp only[cE]at hr;simp[builtin,Builtin.max_,LF hr]
  ·rename_i x y z;simp only[cE]at hr;unfold zb2 at hr;split at hr
   ·rename_i a ha;simp[builtin,Builtin.max_,LF ha,LF hr]
   ·cases hr
  ·cases hr
 ·split at hr
  ·simp only[cE]at hr;simp[builtin,Builtin.min_,LD hr]
  ·rename_i x y z;simp only[cE]at hr;unfold zb0 at hr;split at hr
   ·rename_i a ha;simp[builtin,Builtin.min_,LD ha,LD hr]
   ·cases hr
  ·cases hr
 ·cases hr
theorem JD {h:ah}{b:Nat}(H:nV h b=true):∃c t,h[b]? =some (.cells c t (0,0)):=by
 unfold nV at H;split at H
 ·rename_i c t hb;exact⟨c,t,hb⟩
 ·cases H
theorem zaG [kY P]{op:BinOp}{t e:TypeId}{n:Nat}{x y v:Value}(he:Nb P t=.p)(hu:P.underlying t=some (.pointer e))(hn:fb P e=some (n+1))(h:peV w.heap op x y=some v)(x' y':Operand):
  (do eqGuard op t x' y' x y;binOp op t x y:Sem Value).run P w=.ok v w:=by
 unfold peV at h;split at h
 ·rename_i a b;have hi:∃j,P.info? e=some j∧j.size≠0:=by
   unfold fb at hn;cases hj:P.info? e with
   |none=>rw[hj]at hn;cases hn
   |some j=>rw[hj]at hn;simp only[cI,cE]at hn;exact⟨j,rfl,by omega⟩
  obtain⟨j,hj,hsz⟩:=hi;have same:∀d:Nat,(Op.equalIn (d+1) t (.pointer (some a)) (.pointer (some a))).run P w=.ok true w:=λd=>by
   simp[Op.equalIn,cX hu,sizeOf,typeInfo,hj,run_sameAddr_same]
  have other:∀(hne:a≠b),(nV w.heap a.block&&nV w.heap b.block)=true→∀d:Nat,(Op.equalIn (d+1) t (.pointer (some a)) (.pointer (some b))).run P w=.ok false w:=λhne hpl d=>by
   rw[dh]at hpl;obtain⟨ca,ta,ha⟩:=JD hpl.1;obtain⟨cb,tb,hb⟩:=JD hpl.2;simp[Op.equalIn,cX hu,sizeOf,typeInfo,hj,hsz,run_sameAddr_other w hne ha hb]
  simp only[bR,rH x' y' (show(∀c,Value.pointer (some a)≠ .agg c)∧Value.pointer (some a)≠ .nilIface from⟨by simp,by simp⟩),bK];split at h
  ·split at h
   ·rename_i hab;subst hab;cases h;simp only[binOp];simp[Op.equal,Op.maxDepth,same 9999]
   ·rename_i hab;split at h
    ·rename_i hpl;cases h;simp only[binOp];simp[Op.equal,Op.maxDepth,other hab hpl 9999]
    ·cases h
  ·split at h
   ·rename_i hab;subst hab;cases h;simp only[binOp];simp[Op.equal,Op.maxDepth,same 9999]
   ·rename_i hab;split at h
    ·rename_i hpl;cases h;simp only[binOp];simp[Op.equal,Op.maxDepth,other hab hpl 9999]
    ·cases h
  ·cases h
 ·exact LG (P:=P) (w:=w) (t:=t) he (by intro h;cases h) h x' y'
theorem yl [kY P] {op:Op} {r:Option Value} {v:Value} (o:Oper) (ho:o.op=op) (hr:roV P ρ op w.heap=some r) (hv:r=some v):(execOp (ev ρ) o).run P w=.ok (.value v) w:=by
 subst hv;unfold roV at hr;split at hr
 case h_1|h_2=>simp at hr;subst hr;simp[execOp,ho]
 case h_3=>
  simp at hr;unfold aE at hr;split at hr<;>simp at hr
  rename_i c b hc;subst hr;simp only[execOp,ho,hc,asBool];cases b<;>simp
 case h_4 t x=>
  split at hr
  ·rename_i ht;simp only[cE]at hr;unfold ldV at hr;split at hr
   ·rename_i a hx;simp[execOp,ho,Instr.loadAt,hx,Instr.sureAddr,As ht hr]
   ·cases hr
  ·rename_i ht;split at hr
   ·rename_i n hn;simp only[cE]at hr;unfold aO at hr;split at hr
    ·rename_i a hx;cases hl:eJ w.heap a 0 n with
     |none=>simp[hl]at hr
     |some l=>
      simp[hl]at hr;subst hr;simp[execOp,ho,Instr.loadAt,hx,Instr.sureAddr,Au ht hn hl]
    ·cases hr
   ·cases hr
  ·cases hr
 case h_5 x=>
  simp only[cE]at hr;unfold aR at hr;simp only[execOp,ho];split at hr
  ·cases hr
  ·cases hr
  ·cases hr
  ·cases hr
  ·simp only[cE]at hr;subst hr;split<;>simp_all
 case h_6 op t x y _=>
  split at hr
  ·cases hr
  ·rename_i hp;split at hr
   ·simp only[cE]at hr;have:=LG (P:=P) (w:=w) (t:=t) hp (by intro h;cases h) hr x y;simp only[execOp,ho];simp only[bR]at this ⊢;rw[this];rfl
   ·split at hr
    ·rename_i e hu;split at hr
     ·rename_i n hn;simp only[cE]at hr;have:=zaG (P:=P) (w:=w) hp hu hn hr x y;simp only[execOp,ho];simp only[bR]at this ⊢;rw[this];rfl
     ·cases hr
    ·cases hr
  ·rename_i e he _;simp only[cE]at hr;have:=LG (P:=P) (w:=w) (t:=t) rfl he hr x y;simp only[execOp,ho];simp only[bR]at this ⊢;rw[this];rfl
 case h_7 op t x=>
  simp only[cE]at hr;unfold unV at hr;split at hr<;>simp at hr
  all_goals(rename_i hx;subst hr;simp[execOp,ho,hx,Op.unary,Op.intArith,Op.intBits])
 case h_8 s d x=>
  split at hr
  ·rename_i h1 h2;simp only[cE]at hr;unfold gd at hr;split at hr<;>simp at hr
   rename_i hx;subst hr;simp[execOp,ho,hx,convert,cX h1,cX h2,Conv.intToInt]
  ·rename_i h1 h2;simp only[cE]at hr;unfold zb5 at hr;split at hr<;>simp at hr
   rename_i hx;subst hr;simp[execOp,ho,hx,convert,cX h1,cX h2,Conv.intToString]
  ·cases hr
 case h_9 t x lo hi=>
  simp only[execOp,ho];split at hr
  ·rename_i e ht;split at hr
   ·rename_i n hn;simp only[cE]at hr;have:=Gk (P:=P) (w:=w) ht hn hr;simp[this]
   ·cases hr
  ·rename_i ht;simp only[cE]at hr;have:=Eo (P:=P) (w:=w) ht hr;simp[this]
  ·cases hr
 case h_10 s x f=>
  split at hr
  ·rename_i fs hs;split at hr
   ·rename_i fd hf;split at hr
    ·cases hr
    ·rename_i n hn;simp only[cE]at hr;have:=SQ (P:=P) (w:=w) hs hf hn rfl hr;simp[execOp,ho,this]
    ·cases hr
   ·cases hr
  ·cases hr
 case h_11 t x f=>
  split at hr
  ·rename_i fs hs;split at hr
   ·rename_i fd hf;split at hr
    ·rename_i b n hb hn;simp only[cE]at hr;have hr':=hr;unfold pS at hr;split at hr
     ·rename_i cs hx;rw[hx]at hr';have:=Ir (P:=P) (w:=w) hb hn hr';simp[execOp,ho,hx,Instr.field,cX hs,hf,asAgg,this]
     ·cases hr
    ·cases hr
   ·cases hr
  ·cases hr
 case h_12 t x i=>
  simp only[execOp,ho];split at hr
  ·rename_i e ht;split at hr
   ·rename_i n hn;simp only[cE]at hr;simp[Gm (P:=P) (w:=w) ht hn hr]
   ·cases hr
  ·rename_i len e ht;split at hr
   ·rename_i n hn;simp only[cE]at hr;simp[Gn (P:=P) (w:=w) ht hn hr]
   ·cases hr
  ·cases hr
 case h_13 t x i=>
  split at hr
  ·rename_i ht;simp only[cE]at hr;simp[execOp,ho,Is (P:=P) (w:=w) ht hr]
  ·cases hr
 case h_14 t i=>
  simp only[cE]at hr;unfold aL at hr;split at hr
  ·rename_i vs hx;simp[execOp,ho,hx,Instr.extract,hr]
  ·cases hr
 case h_15 t x=>
  split at hr
  ·cases hr
  ·rename_i d hd _;simp only[cE]at hr;subst hr;simp only[execOp,ho,Instr.makeInterface,bR];rename_i hq;simp only[cX hq,bK];rfl
  ·cases hr
 case h_16 fn first captured=>
  simp only[cE]at hr;subst hr;simp[execOp,ho,Instr.makeFunc]
 case h_17 t x k ok=>
  split at hr
  ·rename_i kt et ht;split at hr
   ·rename_i kd z hk hz;simp only[cE]at hr;simp[execOp,ho,Xu (P:=P) (w:=w) ht hk hz hr]
   ·cases hr
  ·cases hr
 case h_18 t parts=>
  split at hr
  ·rename_i z pl hz hp;split at hr
   ·rename_i l hl;simp only[cE]at hr;cases hf:aM z.cells l with
    |none=>simp[hf]at hr
    | some cs=>
     simp[hf]at hr;subst hr;have hfill:=R0 _ _ _ _ hl hf;rw[←RS]at hfill;unfold SZ at hp;simp only[execOp,ho,Instr.build,bR,bA hz,bK,cN];cases hu:P.underlying t with
     |none=>simp[hu]at hp
     | some d=>
      rw[cX hu];simp only[hu]at hp;cases d with
      | struct fs=>
       simp only at hp;cases hq:wQ P fs.toList with
       |none=>simp[hq]at hp
       |some l'=>
        simp only[hq,cI,cE]at hp;subst hp;simp only[bK,bR,SO hq];have e:(λi:Nat=>(l'.toArray)[i]?)=λi:Nat=>l'[i]? :=by funext i;simp
        rw[e,hfill];rfl
      | array n e=>
       simp only at hp;cases hq:fb P e with
       |none=>simp[hq]at hp
       |some s=>
        simp only[hq,cI,cE]at hp;subst hp;simp only[bK,bR,bD hq];rw[hfill];rfl
      |_=>simp at hp
   ·cases hr
  ·cases hr
 case h_19 c=>
  split at hr
  ·rename_i b hb;have:=Xw (P:=P) (w:=w) (ty:=o.type) (cs:=c.args.map λ| .const _=>true|_=>false) hr;rw[CW]at this;simp only[execOp,ho,resolve,hb,bR,cN,bK,invoke];exact this
  ·cases hr
 case h_20=>cases hr
end
def M7:nD:=λ_ _=>False
def aW (c:Array Value)(t:TypeId):nD:=λh K=>K (.pointer (some ⟨h.size,0,none⟩)) (h.push (.cells c t))
def stK (n:Nat)(x v:Value):nD:=λh K=>
 match x with
 | .pointer (some a)=>if v.cells.size=n then(match kb h a 0 v.cells.toList with|some h'=>K undef h'|none=>False)else False
 |_=>False
def jk (z:Value)(n:Nat):Array Value:=(Array.range n).map (λi=>z.cells[i%z.cells.size]!)
def df (c:Array Value)(e:TypeId)(len:Nat)(l:List (Nat×Nat×Value)):nD:=λh K=>
 match aM c l with
 |some c'=>K (.slice (some ⟨h.size,0,none⟩) len len) (h.push (.cells c' e))
 |none=>False
def mkK (z:Value)(e:TypeId)(size bytes:Nat)(l c:Value):nD:=λh K=>
 match l,c with
 | .int _ l,.int _ c=>
  0≤IntKind.i64.wrap l∧IntKind.i64.wrap l≤IntKind.i64.wrap c∧(bytes:Int)*IntKind.i64.wrap c≤2^48∧
   K (.slice (some ⟨h.size,0,none⟩) (IntKind.i64.wrap l).toNat (IntKind.i64.wrap c).toNat) (h.push (.cells (jk z ((IntKind.i64.wrap c).toNat*size)) e))
 |_,_=>False
def V2:nD:=λh K=>K (.map (some h.size)) (h.push (.map #[] 0))
def fo (h:ah)(r:Nat)(o:Obj):ah:=h.setIfInBounds r o
def ud (kd:TypeDesc)(m k v:Value):nD:=λh K=>
 match m with
 | .map (some r)=>match h[r]? with
  |some (.map es c)=>match Instr.findNow kd k es.toList 0 with
   |some (some (i,_))=>Instr.sameBits 10000 (((es[i]?).map (·.key)).getD k) k=true∧K undef (fo h r (.map (es.modify i λe=>{e with key:=k,val:=v}) c))
   |some none=>K undef (fo h r (.map (es.push {key:=k,val:=v,born:=c}) (c+1)))
   |none=>False
  |_=>False
 |_=>False
def IM (kd:TypeDesc)(z:Value)(m k:Value):nD:=λh K=>
 match m with
 | .map (some r)=>match h[r]? with
  |some (.map es c)=>match Instr.findNow kd k es.toList 0 with
   | some (some (i,v))=>Instr.sameBits 10000 (((es[i]?).map (·.key)).getD k) k=true∧
     K (.tuple #[v,.int .i64 (((es[i]?).map λe=>(e.born:Int)).getD 0)]) (fo h r (.map (es.modify i λe=>{e with key:=k}) c))
   |some none=>K (.tuple #[z,.int .i64 (c:Nat)]) (fo h r (.map (es.push {key:=k,val:=z,born:=c}) (c+1)))
   |none=>False
  |_=>False
 |_=>False
def Na (m s v:Value):nD:=λh K=>
 match m,s with
 | .map (some r),.int _ n=>match h[r]? with
  |some (.map es c)=>match es.findIdx? (λe=>(e.born:Int)==n)with
   |some i=>K undef (fo h r (.map (es.modify i λe=>{e with val:=v}) c))
   |none=>False
  |_=>False
 |_,_=>False
def oA (kd:TypeDesc)(m k:Value):nD:=λh K=>
 match m with
 | .map none=>K (.tuple #[]) h
 | .map (some r)=>match h[r]? with
  |some (.map es c)=>match Instr.findNow kd k es.toList 0 with
   |some (some (i,_))=>K (.tuple #[]) (fo h r (.map (es.eraseIdxIfInBounds i) c))
   |some none=>K (.tuple #[]) (fo h r (.map es c))
   |none=>False
  |_=>False
 |_=>False
def Ix (m:Value):nD:=λh K=>
 match m with
 | .map none=>K (.pointer (some ⟨h.size,0,none⟩)) (h.push (.mapIter none 0 #[] 0))
 | .map (some r)=>match h[r]? with
  |some (.map _ c)=>K (.pointer (some ⟨h.size,0,none⟩)) (h.push (.mapIter (some r) c #[] c))
  |_=>False
 |_=>False
def CF (s:Value):nD:=λh K=>
 match s with
 | .string s=>K (.pointer (some ⟨h.size,0,none⟩)) (h.push (.stringIter s 0))
 |_=>False
def GM (it:Value):nD:=λh K=>
 match it with
 | .pointer (some ⟨r,0,_⟩)=>match h[r]? with
  |some (.stringIter s pos)=>
   if pos<s.size then K (.tuple #[.bool true,.int .i64 (pos:Nat),.int .i32 (Utf8.decode s pos).1]) (fo h r (.stringIter s (pos+(Utf8.decode s pos).2)))
   else K (.tuple #[.bool false]) h
  |_=>False
 |_=>False
def My (it:Value):nD:=λh K=>
 match it with
 | .pointer (some ⟨r,0,_⟩)=>match h[r]? with
  |some (.mapIter none _ _ _)=>K (.tuple #[.bool false]) h
  | some (.mapIter (some m) since seen last)=>match h[m]? with
   |some (.map es clock)=>
    (!seen.isEmpty&& !es.isEmpty&&es.all (·.born≥last))=false∧
    (∀e∈es,seen.contains e.born=false→K (.tuple #[.bool true,e.key,e.val]) (fo h r (.mapIter (some m) since (seen.push e.born) clock)))∧
    ((∀e∈es,seen.contains e.born=false→since≤e.born)→K (.tuple #[.bool false]) h)
   |_=>False
  |_=>False
 |_=>False
def Vf (it:Value):nD:=λh K=>
 match it with
 | .pointer (some ⟨r,0,_⟩)=>match h[r]? with
  | some (.mapIter (some m) _ seen stepped)=>match h[m]? with
   | some (.map es clock)=>if clock≠stepped then False else match seen.back? with
    |some stamp=>match es.find? (·.born==stamp)with
     |some e=>K (.tuple #[e.key,e.val]) h
     |none=>False
    |none=>False
   |_=>False
  |_=>False
 |_=>False
def wj (size:Nat)(h:ah)(n:Nat)(x:Value):Option (List Value):=
 match x with
 | .slice (some a) _ _=>eJ h a 0 (n*size)
 | .slice none _ _=>some []
 | .string s=>some ((s.extract 0 n).data.map λb=>Value.int .u8 b.toNat).toList
 |_=>none
def OT (x:Value):Option Nat:=
 match x with
 | .slice _ n _=>some n
 | .string s=>some s.size
 |_=>none
def di (z:Value) (e:TypeId) (size bytes:Nat) (s x:Value):nD:=λh K=>
 match s,OT x with
 | .slice base sLen sCap,some n=>
  if sLen+n≤sCap then
   match wj size h n x with
   | some news=>match base with
    |some a=>match kb h (a.add (sLen*size)) 0 news with
     |some h'=>K (.slice base (sLen+n) sCap) h'
     |none=>False
    |none=>K (.slice none (sLen+n) sCap) h
   |none=>False
  else
   ((sLen+n:Nat):Int)≤IntKind.i64.max∧Builtin.nextslicecap (sLen+n) sCap*bytes≤2^48∧
   match wj size h sLen s,wj size h n x with
   | some olds,some news=>∀newCap,sLen+n≤newCap→newCap≤2^63-1→
     K (.slice (some ⟨h.size,0,none⟩) (sLen+n) newCap) (h.push (.cells (olds.toArray++news.toArray++Builtin.zeroCells z.cells (newCap-(sLen+n))) e))
   |_,_=>False
 |_,_=>False
def Fi (size:Nat) (d x:Value):nD:=λh K=>
 match d,OT x with
 | .slice base dLen _,some n=>
  match wj size h (Nat.min n dLen) x with
  | some news=>match base with
   |some a=>match kb h a 0 news with
    |some h'=>K (.int .i64 (Nat.min n dLen:Nat)) h'
    |none=>False
   |none=>K (.int .i64 (Nat.min n dLen:Nat)) h
  |none=>False
 |_,_=>False
def rO (P:Program)(f:FuncId):Bool:=
 match P.funcs[f]? with
 |some fn=> !(fn.name== "runtime.NumGoroutine")&&fn.body.isSome
 |none=>false
def zcb (P:Program)(f:FuncId)(args:Array Value):nD:=λh K=>
 rO P f=true∧∀w:World,w.heap=h→Calls P f args w λe w'=>∃v,e=.returned v∧dD w w'∧K v w'.heap
def ag (P:Program)(f:FuncId)(args:Array Value):nD:=λh K=>
 zcb P f args h K∨∀w:World,w.heap=h→∃v w',(callFunc f args).run P w=.ok (.value v) w'∧dD w w'∧K v w'.heap
theorem ag.mono {P:Program}{f:FuncId}{args:Array Value}{h:ah}{K K':Value→ah→Prop}(hc:ag P f args h K)(hk:∀v h',K v h'→K' v h'):ag P f args h K':=
 hc.imp (λhc=>⟨hc.1,λw hw=>(hc.2 w hw).mono λ_ _ ⟨v,he,hs,hK⟩=>⟨v,he,hs,hk _ _ hK⟩⟩)
  λhc w hw=>let⟨v,w',a,b,c⟩:=hc w hw;⟨v,w',a,b,hk _ _ c⟩
theorem ag.ofCalls {P:Program}{f:FuncId}{args:Array Value}{h:ah}{K:Value→ah→Prop}(hc:rO P f=true)
  (H:∀w:World,w.heap=h→Calls P f args w λe w'=>∃v,e=.returned v∧dD w w'∧K v w'.heap):ag P f args h K:=.inl ⟨hc,H⟩
theorem ag.ofRun {P:Program}{f:FuncId}{args:Array Value}{h:ah}{K:Value→ah→Prop}
  (H:∀w:World,w.heap=h→∃v w',(callFunc f args).run P w=.ok (.value v) w'∧dD w w'∧K v w'.heap):ag P f args h K:=.inr H
def clK (P:Program)(f:Value)(args:Array Value)(h:ah)(K:Value→ah→Prop):Prop:=
 match f with
 | .func (.func f) first captured=>ag P f (first++args++captured) h K
 |_=>False
def zcG (P:Program) (b:Builtin) (args:List Value) (ts:List TypeId) (h:ah) (K:Value→ah→Prop):Prop:=
 match b with
 | .append=>match args,ts with
  | [s,x],[t,u]=>match P.underlying t,P.underlying u with
   |some (.slice e),some (.slice _)|some (.slice e),some .string=>match(P.info? e).bind λi=>i.zero.map λz=>(z,i.size,i.bytes)with
    |some (z,size,bytes)=>di z e size bytes s x h K
    |none=>False
   |_,_=>False
  |_,_=>False
 | .copy=>match args,ts with
  | [d,x],t::_=>match P.underlying t with
   |some (.slice e)=>match fb P e with
    |some size=>Fi size d x h K
    |none=>False
   |_=>False
  |_,_=>False
 | .delete=>match args,ts with
  | [m,k],t::_=>match P.underlying t with
   |some (.map kt _)=>match lH P kt with
    |some kd=>oA kd m k h K
    |none=>False
   |_=>False
  |_,_=>False
 |_=>False
def ND:List Value→Option (List UInt8)
 | []=>some []
 | v::r=>match v with
  | .int .u8 n=>match ND r with
   |some l=>some (UInt8.ofNat n.toNat::l)
   |none=>none
  |_=>none
def bsK (x:Value):nD:=λh K=>
 match x with
 | .slice none _ _=>K (.string ByteArray.empty) h
 | .slice (some a) n _=>match eJ h a 0 n with
  |some l=>match ND l with
   |some b=>K (.string ⟨⟨b⟩⟩) h
   |none=>False
  |none=>False
 |_=>False
def zbf (P:Program) (ρ:Env) (op:Op) (h:ah) (K:Value→ah→Prop):Prop:=
 match op with
 | .alloc t=>match xi P t with
  |some z=>aW z.cells t h K
  |none=>False
 | .box t x=>aW (ev ρ x).cells t h K
 | .buildSlice t len parts=>match P.underlying t with
  | some (.slice e)=>match fb P e,xi P e with
   |some s,some z=>if len*s>2^24 then False else match Bv (λi=>some (i*s,s)) ρ parts.toList with
    |some l=>df (jk z (len*s)) e len l h K
    |none=>False
   |_,_=>False
  |_=>False
 | .store t a x=>match fb P t with
  |some n=>stK n (ev ρ a) (ev ρ x) h K
  |none=>False
 | .makeSlice t l c=>match P.underlying t with
  |some (.slice e)=>match(P.info? e).bind λi=>i.zero.map λz=>(z,i.size,i.bytes)with
   |some (z,size,bytes)=>mkK z e size bytes (ev ρ l) (ev ρ c) h K
   |none=>False
  |_=>False
 | .makeMap _ none=>V2 h K
 | .mapUpdate t m k x| .insert t m k x=>match P.underlying t with
  |some (.map kt _)=>match lH P kt with
   |some kd=>ud kd (ev ρ m) (ev ρ k) (ev ρ x) h K
   |none=>False
  |_=>False
 | .mapEntry t m k=>match P.underlying t with
  |some (.map kt et)=>match lH P kt,xi P et with
   |some kd,some z=>IM kd z (ev ρ m) (ev ρ k) h K
   |_,_=>False
  |_=>False
 | .entryStore _ m s x=>Na (ev ρ m) (ev ρ s) (ev ρ x) h K
 | .range t x=>match P.underlying t with
  |some (.map _ _)=>Ix (ev ρ x) h K
  |some .string=>CF (ev ρ x) h K
  |_=>False
 | .next it s=>bif s then GM (ev ρ it) h K else My (ev ρ it) h K
 | .entry it=>Vf (ev ρ it) h K
 | .call c=>match c.callee with
  | .builtin b=>zcG P b (c.args.map (ev ρ)).toList c.argTypes.toList h K
  | .value (.func f)=>ag P f (c.args.map (ev ρ)) h K
  | .value x=>clK P (ev ρ x) (c.args.map (ev ρ)) h K
  |_=>False
 | .convert s d x=>match P.underlying s,P.underlying d with
  |some (.slice e),some .string=>match P.underlying e with
   |some (.int .u8)=>bsK (ev ρ x) h K
   |_=>False
  |_,_=>False
 |_=>False
def ki (P:Program)(K:Value→ah→Prop)(w:World):Result Next→Prop
 | .ok (.value v) w'=>dD w w'∧K v w'.heap
 | .ok .skip w'=>dD w w'∧K undef w'.heap
 | .ok (.enter f args) w'=>w'=w∧zcb P f args w.heap K
 |_=>False
section
variable {P:Program}{ρ:Env}{w:World}{K:Value→ah→Prop}
theorem US (v:Value):aQ v=v.oneCell':=by cases v<;>rfl
theorem tP (a:Addr):∀(l:List Value) (i:Nat) (w:World) (h':ah),kb w.heap a i l=some h'→
  ∃w',(storeCells a l i).run P w=.ok () w'∧dD w w'∧w'.heap=h'
 | [],i,w,h',h=>by simp[kb]at h;exact⟨w,by simp[storeCells],dD.refl w,h⟩
 | v ::l,i,w,h',h=>by
  unfold kb at h;cases hc:aG w.heap (a.add i)with
  |none=>simp[hc]at h
  | some old=>
   simp only[hc]at h;cases ho:(aQ v&& !vE w.heap (a.add i))with
   |false=>rw[ho]at h;cases h
   | true=>
    rw[ho]at h;simp only[sS]at h;rw[dh]at ho;obtain⟨w',hr,hs,hh⟩:=tP a l (i+1) (w.setCell (a.add i) v) h' h;refine⟨w',?_,⟨hs.1,hs.2.1,hs.2.2⟩,hh⟩;have h1:w.cell? (a.add i)=some old:=hc;have h2:w.frozen? (a.add i)=false:=by
     show vE w.heap (a.add i)=false;simpa using ho.2
    simp only[storeCells,bR];rw[run_store P w _ _ _ (by rw[←US];exact ho.1)];simp[h1,h2,hr]
theorem CD {size n:Nat}{x:Value}{l:List Value}(h:wj size w.heap n x=some l):(Builtin.firstCells size n x).run P w=.ok l.toArray w:=by
 unfold wj at h;split at h
 ·rename_i a _ _;have:=wO (P:=P) a _ 0 #[] l h;simp[Builtin.firstCells,loadCells,this]
 ·simp at h;subst h;simp[Builtin.firstCells]
 ·simp only[cE]at h;subst h;simp only[Builtin.firstCells,CW];rfl
 ·cases h
theorem SP {x:Value}{n:Nat}(h:OT x=some n):(Builtin.lenOf x).run P w=.ok n w:=by
 unfold OT at h;split at h<;>simp at h<;>subst h<;>simp[Builtin.lenOf]
theorem ki.value {s:Sem Value}{v:Value}{w':World}(hr:s.run P w=.ok v w')(hs:dD w w')(hK:K v w'.heap):
  ki P K w ((do pure (.value (←s)):Sem Next).run P w):=by
 simp only[bR,hr,bK,cN];exact⟨hs,hK⟩
theorem ki.unit {s:Sem Unit}{w':World}(hr:s.run P w=.ok () w')(hs:dD w w')(hK:K undef w'.heap):
  ki P K w ((do s;pure .skip:Sem Next).run P w):=by
 simp only[bR,hr,bK,cN];exact⟨hs,hK⟩
theorem gj (o:Obj):(newObj o).run P w=.ok w.heap.size {w with heap:=w.heap.push o}:=rfl
theorem Xq {t n:Nat}{x v:Value}(hn:fb P t=some n)(h:stK n x v w.heap K):∃w',(Instr.storeAt t x v).run P w=.ok () w'∧dD w w'∧K undef w'.heap:=by
 unfold stK at h;split at h
 ·rename_i a;split at h
  ·rename_i hv;cases hq:kb w.heap a 0 v.cells.toList with
   |none=>simp[hq]at h
   |some h'=>
    simp only[hq]at h;obtain⟨w',hr,hs,hh⟩:=tP (P:=P) a _ 0 w h' hq;refine⟨w',?_,hs,hh▸h⟩;simp[Instr.storeAt,Instr.sureAddr,storeVar,bD hn,hv,hr]
  ·exact h.elim
 ·exact h.elim
theorem jO {r:Nat}{o o':Obj}(h:w.heap[r]? =some o)(hn:∀c e f,o≠ .cells c e f):(setObj r o').run P w=.ok () {w with heap:=fo w.heap r o'}:=by
 simp only[setObj,Sem.run,h];cases o<;>first|rfl|exact absurd rfl (hn _ _ _)
theorem yj {a b:Value}(h:Instr.sameBits 10000 a b=true):(Instr.keyThatStays a b).run P w=.ok b w:=by
 simp[Instr.keyThatStays,h]
theorem OP {t kt et:TypeId}{kd:TypeDesc}{m k v:Value}(ht:P.underlying t=some (.map kt et))(hk:lH P kt=some kd)(h:ud kd m k v w.heap K):
  ∃w',(Instr.mapUpdate t m k v).run P w=.ok () w'∧dD w w'∧K undef w'.heap:=by
 unfold ud at h;split at h
 ·rename_i r;split at h
  ·rename_i es c hm;simp only[Instr.mapUpdate,bR,cX ht,bK,jP hm];rw[show(10000:Nat)=9999+1 from rfl,lD hk];simp only[bK];split at h
   ·rename_i i u hf;rw[jJ hk hf];simp only[bK,bR];rw[yj h.1];simp only[bK];exact⟨_,jO hm (by simp),⟨rfl,rfl,rfl⟩,h.2⟩
   ·rename_i hf;rw[jJ hk hf];exact⟨_,jO hm (by simp),⟨rfl,rfl,rfl⟩,h⟩
   ·exact h.elim
  ·exact h.elim
 ·exact h.elim
theorem Kz {t kt et:TypeId}{kd:TypeDesc}{z m k:Value}(ht:P.underlying t=some (.map kt et))(hk:lH P kt=some kd)(hz:xi P et=some z)(h:IM kd z m k w.heap K):
  ∃v w',(Instr.mapEntry t m k).run P w=.ok v w'∧dD w w'∧K v w'.heap:=by
 unfold IM at h;split at h
 ·rename_i r;split at h
  ·rename_i es c hm;simp only[Instr.mapEntry,bR,cX ht,bK,jP hm];rw[show(10000:Nat)=9999+1 from rfl,lD hk];simp only[bK];split at h
   ·rename_i i u hf;rw[jJ hk hf];simp only[bK,bR];rw[yj h.1];simp only[bK];rw[jO hm (by simp)];exact⟨_,_,rfl,⟨rfl,rfl,rfl⟩,h.2⟩
   ·rename_i hf;rw[jJ hk hf];simp only[bK,bR,bA hz];rw[jO hm (by simp)];exact⟨_,_,rfl,⟨rfl,rfl,rfl⟩,h⟩
   ·exact h.elim
  ·exact h.elim
 ·exact h.elim
theorem M9 {t:TypeId}{m s v:Value}(h:Na m s v w.heap K):∃w',(Instr.entryStore t m s v).run P w=.ok () w'∧dD w w'∧K undef w'.heap:=by
 unfold Na at h;split at h
 ·rename_i r k n;split at h
  ·rename_i es c hm;split at h
   ·rename_i i hf;simp only[Instr.entryStore,bR,jP hm,bK,asInt,asIntOf,cN];simp only[hf];exact⟨_,jO hm (by simp),⟨rfl,rfl,rfl⟩,h⟩
   ·exact h.elim
  ·exact h.elim
 ·exact h.elim
theorem OR {t kt et:TypeId}{ty:TypeId}{kd:TypeDesc}{m k:Value}{ts:Array TypeId}(h0:ts[0]? =some t)(ht:P.underlying t=some (.map kt et))(hk:lH P kt=some kd)(h:oA kd m k w.heap K):
  ∃v w',(Builtin.delete_ ts ty #[m,k]).run P w=.ok v w'∧dD w w'∧K v w'.heap:=by
 have h10:(10000:Nat)=9999+1:=rfl;unfold oA at h;split at h
 ·refine⟨.tuple #[],w,?_,dD.refl w,h⟩;simp[Builtin.delete_,h0,cX ht];rw[h10,lD hk];rfl
 ·rename_i r;split at h
  ·rename_i es c hm;simp only[Builtin.delete_,h0];simp[cX ht,jP hm];rw[h10,lD hk];simp only[bK];split at h
   ·rename_i i u hf;rw[jJ hk hf];simp only[bK];rw[K3,jO hm (by simp)];exact⟨_,_,rfl,⟨rfl,rfl,rfl⟩,h⟩
   ·rename_i hf;rw[jJ hk hf];simp only[bK];rw[K3,jO hm (by simp)];exact⟨_,_,rfl,⟨rfl,rfl,rfl⟩,h⟩
   ·exact h.elim
  ·exact h.elim
 ·exact h.elim
theorem Kb {t kt et:TypeId}{m:Value}(ht:P.underlying t=some (.map kt et))(h:Ix m w.heap K):∃v w',(Instr.range t m).run P w=.ok v w'∧dD w w'∧K v w'.heap:=by
 unfold Ix at h;split at h
 ·simp only[Instr.range,bR,cX ht,bK,cN,gj];exact⟨_,_,rfl,⟨rfl,rfl,rfl⟩,h⟩
 ·rename_i r;split at h
  ·rename_i es c hm;simp only[Instr.range,bR,cX ht,bK,cN,jP hm,gj];exact⟨_,_,rfl,⟨rfl,rfl,rfl⟩,h⟩
  ·exact h.elim
 ·exact h.elim
theorem Ka {t:TypeId}{s:Value}(ht:P.underlying t=some .string)(h:CF s w.heap K):∃v w',(Instr.range t s).run P w=.ok v w'∧dD w w'∧K v w'.heap:=by
 unfold CF at h;split at h
 ·simp only[Instr.range,bR,cX ht,bK,cN,gj];exact⟨_,_,rfl,⟨rfl,rfl,rfl⟩,h⟩
 ·exact h.elim
theorem zw {r:Nat}{o:Obj}(h:w.heap[r]? =some o)(hn:∀c e f,o≠ .cells c e f):(getObj r).run P w=.ok o w:=by
 simp only[getObj,Sem.run,h]
theorem Mw {t:TypeId}{it:Value}(h:GM it w.heap K):∃v w',(Instr.next it true t).run P w=.ok v w'∧dD w w'∧K v w'.heap:=by
 unfold GM at h;split at h
 ·rename_i r sp;split at h
  ·rename_i s pos hm;simp only[Instr.next,bR,zw hm (by simp),bK];split at h
   ·rename_i hp;simp only[hp,cJ,bR,jO hm (by simp),bK,cN];exact⟨_,_,rfl,⟨rfl,rfl,rfl⟩,h⟩
   ·rename_i hp;simp only[hp,cF,cN];exact⟨_,_,rfl,dD.refl w,h⟩
  ·exact h.elim
 ·exact h.elim
theorem Mx {t:TypeId} {it:Value} (h:My it w.heap K):∃v w',(Instr.next it false t).run P w=.ok v w'∧dD w w'∧K v w'.heap:=by
 unfold My at h;split at h
 ·rename_i r sp;split at h
  ·rename_i hm;simp only[Instr.next,bR,zw hm (by simp),bK,cN];exact⟨_,_,rfl,dD.refl w,h⟩
  ·rename_i m since seen last hm;split at h
   ·rename_i es clock hes;obtain⟨h0,h1,h2⟩:=h;simp only[Instr.next,bR,zw hm (by simp),jP hes,bK];rw[az (by rw[h0];simp)];simp only[bR,run_choose];generalize hL:(es.filter λe=> !seen.contains e.born)=left;generalize hO:left.filter (λe=>decide (e.born<since))=old;generalize hN:left.filter (λe=>decide (e.born≥since))=new;generalize hC:(if old.isEmpty=true then #[none]else #[])++(old++new).map some=cand;have key:∀(j:Nat) (w1:World),j<cand.size→dD w w1→w1.heap=w.heap→
      ∃ v w',(Sem.run P (match cand[j]? with
       |some (some e)=>do
        setObj r (.mapIter (some m) since (seen.push e.born) clock)
        pure (.tuple #[.bool true,e.key,e.val])
       |some none=>pure (.tuple #[.bool false])
       |none=>stuck "Next: no such candidate") w1)=.ok v w'∧dD w w'∧K v w'.heap:=by
     intro j w1 hj hs hh;rw[qs hj];have hmem:cand[j]∈cand:=Array.getElem_mem hj;generalize cand[j]=x at hmem ⊢;rw[←hC,Array.mem_append]at hmem;cases x with
     | none=>
      refine⟨_,_,rfl,hs,?_⟩;rw[hh];refine h2 λe he hns=>?_
      have hold:old=#[]:=by
       rcases hmem with hmem|hmem
       ·by_cases ho:old.isEmpty=true
        ·simpa using ho
        ·simp[ho]at hmem
       ·simp at hmem
      rcases oE e.born since with hlt|hge
      ·exfalso;have:e∈old:=by
        rw[←hO,←hL];simp only[K2];exact⟨⟨he,by simpa using hns⟩,by simpa using hlt⟩
       rw[hold]at this;simp at this
      ·exact hge
     | some e=>
      have hin:e∈es∧seen.contains e.born=false:=by
       have:e∈left:=by
        rcases hmem with hmem|hmem
        ·split at hmem<;>simp at hmem
        ·simp only[Array.mem_map,cE]at hmem;obtain⟨e',he',rfl⟩:=hmem;rw[Array.mem_append]at he';rcases he' with he'|he'
         ·rw[←hO]at he';exact(K2.1 he').1
         ·rw[←hN]at he';exact(K2.1 he').1
       rw[←hL]at this;have:=K2.1 this;exact⟨this.1,by simpa using this.2⟩
      simp only[bR];rw[jO (w:=w1) (by rw[hh];exact hm) (by simp)];refine⟨_,_,rfl,hs,?_⟩;simp only[hh];exact h1 e hin.1 hin.2
    have hpos:0<cand.size:=by
     rw[←hC];by_cases ho:old.isEmpty=true
     ·simp[ho];omega
     ·have:0<old.size:=by
       rcases w8 old.size with h0|h0
       ·exact absurd (by simpa using h0) ho
       ·exact h0
      simp[ho];omega
    split
    ·exact key _ _ hpos (dD.refl w) rfl
    ·exact key _ _ (by simp only[Question.cut];exact gT _ hpos) ⟨rfl,rfl,rfl⟩ rfl
   ·exact h.elim
  ·exact h.elim
 ·exact h.elim
theorem R1 {it:Value}(h:Vf it w.heap K):∃v w',(Instr.entry it).run P w=.ok v w'∧dD w w'∧K v w'.heap:=by
 unfold Vf at h;split at h
 ·rename_i r sp;split at h
  ·rename_i m _ seen stepped hm;split at h
   ·rename_i es clock hes;split at h
    ·exact h.elim
    ·rename_i hc;split at h
     ·rename_i stamp hb;split at h
      ·rename_i e he;simp only[Instr.entry,bR,zw hm (by simp),jP hes,bK,hb];rw[az (by simpa using hc)];simp only[he,cN];exact⟨_,_,rfl,dD.refl w,h⟩
      ·exact h.elim
     ·exact h.elim
   ·exact h.elim
  ·exact h.elim
 ·exact h.elim
theorem JN {e:TypeId}{z:Value}{size bytes:Nat}(h:(P.info? e).bind (λi=>i.zero.map λz=>(z,i.size,i.bytes))=some (z,size,bytes)):
  ∃i,P.info? e=some i∧i.zero=some z∧i.size=size∧i.bytes=bytes:=by
 cases hi:P.info? e with
 |none=>simp[hi]at h
 |some i=>
  cases hz:i.zero with
  |none=>simp[hi,hz]at h
  |some z'=>simp[hi,hz]at h;exact⟨i,rfl,by rw[hz,h.1],h.2.1,h.2.2⟩
theorem UK (f:Nat→Value):(Array.range 0).map f=#[]:=by simp
theorem XG {t e:TypeId}{z:Value}{size bytes:Nat}{l c:Value}(ht:P.underlying t=some (.slice e))
  (hi:(P.info? e).bind (λi=>i.zero.map λz=>(z,i.size,i.bytes))=some (z,size,bytes)) (h:mkK z e size bytes l c w.heap K):
  ∃v w',(Instr.makeSlice t l c).run P w=.ok v w'∧dD w w'∧K v w'.heap:=by
 obtain⟨i,hj,hz,rfl,rfl⟩:=JN hi
 clear hi
 unfold mkK at h;split at h
 ·rename_i k l k' c;obtain⟨h1,h2,h3,hK⟩:=h;simp only[Instr.makeSlice,bR,cX ht,bK,asInt,asIntOf,cN,typeInfo,un,hj];rw[az (by simp;omega)];simp only[bR,run_askRoom,bK,sizeOf,typeInfo,un,hj,cN];by_cases h0:(IntKind.i64.wrap c).toNat*i.size=0
  ·simp only[h0,cJ,cN,bK,newRow,bR,gj];refine⟨_,_,rfl,⟨rfl,rfl,rfl⟩,?_⟩;rw[jk,h0,UK]at hK;rw[UK];exact hK
  ·simp only[h0,cF,bR,zeroValue,typeInfo,un,hj,hz,cN,bK,newRow,gj];exact⟨_,_,rfl,⟨rfl,rfl,rfl⟩,hK⟩
 ·exact h.elim
theorem UG {t e:TypeId}{s len:Nat}{z:Value}{parts:Array (Nat×Operand)}{l:List (Nat×Nat×Value)}(ht:P.underlying t=some (.slice e))(hs:fb P e=some s)(hz:xi P e=some z)
  (hsmall:¬len*s>2^24) (hl:Bv (λi=>some (i*s,s)) ρ parts.toList=some l) (h:df (jk z (len*s)) e len l w.heap K):
  ∃v w',(Instr.buildSlice t len (parts.map λ(i,x)=>(i,ev ρ x))).run P w=.ok v w'∧dD w w'∧K v w'.heap:=by
 unfold df at h;cases hf:aM (jk z (len*s)) l with
 |none=>simp[hf]at h
 | some c=>
  simp only[hf]at h;have hfill:=R0 _ _ _ _ hl hf;rw[←RS]at hfill;simp only[Instr.buildSlice,bR,cX ht,bK,bD hs,hsmall,cF];by_cases h0:len*s=0
  ·simp only[h0,cJ,bR,cN,bK];have e:jk z (len*s)=#[]:=by simp[jk,h0]
   rw[e]at hfill;rw[UK,hfill];simp only[newRow,bR,gj,bK,cN];exact⟨_,_,rfl,⟨rfl,rfl,rfl⟩,h⟩
  ·simp only[h0,cF,bR,bA hz,bK,cN];unfold jk at hfill;rw[hfill];simp only[newRow,bR,gj,bK,cN];exact⟨_,_,rfl,⟨rfl,rfl,rfl⟩,h⟩
theorem NK {t u e ty:TypeId}{z:Value}{size bytes:Nat}{s x:Value}{ts:Array TypeId}(hts:ts.toList=[t,u])(ht:P.underlying t=some (.slice e))(hu:∃d,P.underlying u=some d∧∀k,d≠ .int k)
  (hi:(P.info? e).bind (λi=>i.zero.map λz=>(z,i.size,i.bytes))=some (z,size,bytes)) (h:di z e size bytes s x w.heap K):
  ∃v w',(Builtin.append_ ts ty #[s,x]).run P w=.ok v w'∧dD w w'∧K v w'.heap:=by
 obtain⟨i,hj,hz,rfl,rfl⟩:=JN hi
 clear hi
 obtain⟨d,hu,hd⟩:=hu;obtain rfl:ts=#[t,u]:=by apply Hs;simpa using hts
 unfold di at h;split at h
 ·rename_i base sLen sCap n hn;simp only[Builtin.append_,y4,CY,BL,bR,cX ht,cX hu,bK,cN,sizeOf,typeInfo,un,hj];rw[az (by simp)];simp only[bR,SP hn,bK];simp only[Bool.not_false,cJ];split at h
  ·rename_i hroom;simp only[hroom,cJ];split at h
   ·rename_i news hsrc;simp only[bR,CD hsrc,bK];split at h
    ·rename_i a;split at h
     ·rename_i h' hst;obtain⟨w',hr,hs,hh⟩:=tP (P:=P) _ _ 0 w h' hst;simp only[bR,hr,bK,cN];exact⟨_,_,rfl,hs,hh▸h⟩
     ·exact h.elim
    ·simp only[cN];exact⟨_,_,rfl,dD.refl w,h⟩
   ·exact h.elim
  ·rename_i hroom;obtain⟨hlen,hcap,h⟩:=h;simp only[hroom,cF];split at h
   ·rename_i olds news ho hn';simp only[bR,un,bK,hj,cN];rw[az (by omega)];simp only[bR,un,bK,hj,cN];rw[az (by omega)];simp only[bR,un,bK,hj,cN,run_choose,Question.forced,gF,cF,run_askRoom];have hH:∀m l,wj i.size w.heap m l=wj i.size ({w with drawn:=w.drawn+1}:World).heap m l:=λ_ _=>rfl
    rw[hH]at ho hn';rw[CD ho];simp only[bR,bK];rw[CD hn'];simp only[bR,bK,newRow,gj,cN,zeroValue,typeInfo,un,hj,hz];refine⟨_,_,rfl,⟨rfl,rfl,rfl⟩,?_⟩;refine h _ ?_ ?_
    ·simp only[Question.cut];omega
    ·simp only[Question.cut];have h63:((sLen+n:Nat):Int)≤2^63-1:=by simpa[IntKind.max,IntKind.signed,IntKind.bits]using hlen
     have:=gT (w.tape w.drawn (.appendCap (sLen+n) sCap e)) (show 0<2^63-(sLen+n)by omega);omega
   ·exact h.elim
 ·exact h.elim
theorem Vm {t e ty:TypeId}{size:Nat}{d x:Value}{ts:Array TypeId}(h0:ts[0]? =some t)(ht:P.underlying t=some (.slice e))(hs:fb P e=some size)(h:Fi size d x w.heap K):
  ∃v w',(Builtin.copy_ ts ty #[d,x]).run P w=.ok v w'∧dD w w'∧K v w'.heap:=by
 unfold Fi at h;split at h
 ·rename_i base dLen dCap _ n hn;simp only[Builtin.copy_,h0];simp only[y4,CY,BL,bR,cX ht,bK,SP hn,bD hs];split at h
  ·rename_i news hsrc;rw[CD hsrc];simp only[bK];split at h
   ·rename_i a;split at h
    ·rename_i h' hst;obtain⟨w',hr,hs,hh⟩:=tP (P:=P) _ _ 0 w h' hst;simp only[bR,hr,bK,cN];exact⟨_,_,rfl,hs,hh▸h⟩
    ·exact h.elim
   ·simp only[cN];exact⟨_,_,rfl,dD.refl w,h⟩
  ·exact h.elim
 ·exact h.elim
theorem ki.of {s:Sem Value}(h:∃v w',s.run P w=.ok v w'∧dD w w'∧K v w'.heap):ki P K w ((do pure (.value (←s)):Sem Next).run P w):=by
 obtain⟨v,w',h1,h2,h3⟩:=h;exact ki.value h1 h2 h3
theorem ki.ofU {s:Sem Unit}(h:∃w',s.run P w=.ok () w'∧dD w w'∧K undef w'.heap):ki P K w ((do s;pure .skip:Sem Next).run P w):=by
 obtain⟨w',h1,h2,h3⟩:=h;exact ki.unit h1 h2 h3
theorem yP {f:FuncId}{args:Array Value}(h:rO P f=true):(callFunc f args).run P w=.ok (.enter f args) w:=by
 unfold rO at h;cases hf:P.funcs[f]? with
 |none=>simp[hf]at h
 |some fn=>
  simp only[hf,dh,K4]at h;simp only[callFunc,bR,un,bK,hf];rw[az (by rw[h.1];simp)];have hb:fn.body.isNone=false:=by cases hb:fn.body<;>simp_all
  rw[az (by rw[hb];simp)];rfl
theorem ag.done {f:FuncId}{args:Array Value}(h:ag P f args w.heap K):ki P K w ((callFunc f args).run P w):=by
 rcases h with h|h
 ·rw[yP h.1];exact⟨rfl,h⟩
 ·obtain⟨v,w',h1,h2,h3⟩:=h w rfl;rw[h1];exact⟨h2,h3⟩
theorem ag.calls {f:FuncId}{args:Array Value}{h:ah}(hok:rO P f=true)(H:ag P f args h K)(w:World)(hw:w.heap=h):Calls P f args w λe w'=>∃v,e=.returned v∧dD w w'∧K v w'.heap:=by
 rcases H with H|H
 ·exact H.2 w hw
 ·obtain⟨v,w',h1,_⟩:=H w hw;rw[yP hok]at h1;cases h1
theorem X0 {x:Value}{args:Array Value}(h:clK P x args w.heap K):ki P K w ((do let d←Deferred.ofValue x args;invoke d.target d.args:Sem Next).run P w):=by
 unfold clK at h;split at h
 ·simp only[Deferred.ofValue,bR,cN,bK,invoke];exact h.done
 ·exact h.elim
theorem Vj {b:Builtin}{args:List Value}{ts:Array TypeId}{ty:TypeId}{cs:Array Bool}(h:zcG P b args ts.toList w.heap K):ki P K w ((builtin b ts ty cs args.toArray).run P w):=by
 unfold zcG at h;split at h
 ·split at h
  ·rename_i s x t u hts;split at h
   ·rename_i e d ht hu;split at h
    ·rename_i z size bytes hi;exact ki.of (NK hts ht ⟨_,hu,by simp⟩ hi h)
    ·exact h.elim
   ·rename_i e ht hu;split at h
    ·rename_i z size bytes hi;exact ki.of (NK hts ht ⟨_,hu,by simp⟩ hi h)
    ·exact h.elim
   ·exact h.elim
  ·exact h.elim
 ·split at h
  ·rename_i d x t rest hts;have h0:ts[0]? =some t:=by rw[←um,hts];rfl
   split at h
   ·rename_i e ht;split at h
    ·rename_i size hs;exact ki.of (Vm h0 ht hs h)
    ·exact h.elim
   ·exact h.elim
  ·exact h.elim
 ·split at h
  ·rename_i m k t rest hts;have h0:ts[0]? =some t:=by rw[←um,hts];rfl
   split at h
   ·rename_i kt et ht;split at h
    ·rename_i kd hk;exact ki.of (OR h0 ht hk h)
    ·exact h.elim
   ·exact h.elim
  ·exact h.elim
 ·exact h.elim
theorem NC (f:Value→ByteArray→Sem (ForInStep ByteArray))(hf:∀n s,f (.int .u8 n) s=pure (.yield (s.push (UInt8.ofNat n.toNat)))):
  ∀(l:List Value) (b:List UInt8) (s:ByteArray),ND l=some b→(forIn l s f).run P w=.ok ⟨s.data++b.toArray⟩ w
 | [],b,s,h=>by
  simp only[ND,cE]at h;subst h;simp
 | v::r,b,s,h=>by
  unfold ND at h;split at h
  ·rename_i n;split at h
   ·rename_i l hl;simp only[cE]at h;subst h;have:=NC f hf r l (s.push (UInt8.ofNat n.toNat)) hl;simp only[List.forIn_cons,hf,bR,cN,bK,this]
    congr 1
    apply ByteArray.ext;apply Hs;show(s.data.push (UInt8.ofNat n.toNat)++l.toArray).toList=_;simp
   ·cases h
  ·cases h
theorem Yr {x:Value}(h:bsK x w.heap K):∃v w',(Conv.bytesToString x).run P w=.ok v w'∧dD w w'∧K v w'.heap:=by
 unfold bsK at h;split at h
 ·exact⟨_,w,rfl,dD.refl w,h⟩
 ·rename_i a n c;split at h
  ·rename_i l hl;split at h
   ·rename_i b hb;refine⟨_,w,?_,dD.refl w,h⟩;have h1:=wO (P:=P) a _ 0 #[] l hl;simp only[Conv.bytesToString,loadCells,bR,h1,bK,Array.empty_append,List.forIn_toArray];rw[NC _ (λn s=>rfl) l b ByteArray.empty hb];simp
   ·exact h.elim
  ·exact h.elim
 ·exact h.elim
theorem Nc {op:Op}(o:Oper)(ho:o.op=op)(h:zbf P ρ op w.heap K):ki P K w ((execOp (ev ρ) o).run P w):=by
 unfold zbf at h;split at h
 case h_1 t=>
  split at h
  ·rename_i z hz;simp only[execOp,ho];refine ki.of ⟨.pointer (some ⟨w.heap.size,0,none⟩),{w with heap:=w.heap.push (.cells z.cells t)},?_,⟨rfl,rfl,rfl⟩,h⟩;simp only[Instr.alloc,bR,bA hz,bK,newVar,newRow,gj,cN]
  ·exact h.elim
 case h_2 t x=>
  simp only[execOp,ho];refine ki.of ⟨.pointer (some ⟨w.heap.size,0,none⟩),{w with heap:=w.heap.push (.cells (ev ρ x).cells t)},?_,⟨rfl,rfl,rfl⟩,h⟩;simp only[Instr.box,bR,bK,newVar,newRow,gj,cN]
 case h_3 t len parts=>
  split at h
  ·rename_i e ht;split at h
   ·rename_i s z hs hz;split at h
    ·exact h.elim
    ·rename_i hsmall;split at h
     ·rename_i l hl;simp only[execOp,ho];exact ki.of (UG ht hs hz hsmall hl h)
     ·exact h.elim
   ·exact h.elim
  ·exact h.elim
 case h_4 t a x=>
  split at h
  ·rename_i n hn;simp only[execOp,ho];exact ki.ofU (Xq hn h)
  ·exact h.elim
 case h_5 t l c=>
  split at h
  ·rename_i e ht;split at h
   ·rename_i z size bytes hi;simp only[execOp,ho];exact ki.of (XG ht hi h)
   ·exact h.elim
  ·exact h.elim
 case h_6 t=>
  simp only[execOp,ho];refine ki.of ⟨.map (some w.heap.size),{w with heap:=w.heap.push (.map #[] 0)},?_,⟨rfl,rfl,rfl⟩,h⟩;simp only[Instr.makeMap,KZ,bR,gj,bK,cN]
 case h_7 t m k x|h_8 t m k x=>
  split at h
  ·rename_i kt et ht;split at h
   ·rename_i kd hk;simp only[execOp,ho];exact ki.ofU (OP ht hk h)
   ·exact h.elim
  ·exact h.elim
 case h_9 t m k=>
  split at h
  ·rename_i kt et ht;split at h
   ·rename_i kd z hk hz;simp only[execOp,ho];exact ki.of (Kz ht hk hz h)
   ·exact h.elim
  ·exact h.elim
 case h_10 t m s x=>
  simp only[execOp,ho];exact ki.ofU (M9 h)
 case h_11 t x=>
  split at h
  ·rename_i kt et ht;simp only[execOp,ho];exact ki.of (Kb ht h)
  ·rename_i ht;simp only[execOp,ho];exact ki.of (Ka ht h)
  ·exact h.elim
 case h_12 it s=>
  simp only[execOp,ho];cases s
  ·exact ki.of (Mx h)
  ·exact ki.of (Mw h)
 case h_13 it=>
  simp only[execOp,ho];exact ki.of (R1 h)
 case h_14 c=>
  split at h
  ·rename_i b hb;have:=Vj (P:=P) (w:=w) (ty:=o.type) (cs:=c.args.map λ| .const _=>true|_=>false) h;rw[CW]at this;simp only[execOp,ho,resolve,hb,bR,cN,bK,invoke];exact this
  ·rename_i f hb;simp only[execOp,ho,resolve,hb,ev,Deferred.ofValue,bR,cN,bK,invoke];simp only[Array.empty_append,Array.append_empty];exact h.done
  ·rename_i x _ hb;simp only[execOp,ho,resolve,hb];exact X0 h
  ·exact h.elim
 case h_15 s d x=>
  split at h
  ·rename_i e h1 h2;split at h
   ·rename_i h3;simp only[execOp,ho];refine ki.of ?_;obtain⟨v,w',h4,h5,h6⟩:=Yr (P:=P) h;refine⟨v,w',?_,h5,h6⟩;simp only[convert,bR,cX h1,cX h2,cX h3,bK];generalize ev ρ x=y at h h4 ⊢;cases y<;>first|exact h4|(simp only[bR,cX h3,bK];exact h4)|exact h.elim
   ·exact h.elim
  ·exact h.elim
 case h_16=>exact h.elim
end
end
end Go.Crisp
namespace Go.Crisp
section
def gV (g:Value)(want:Bool)(r:Option Value):Option Value:=
 match g with
 | .bool b=>bif b==want then r else some undef
 |_=>some undef
def gK (g:Value)(want:Bool)(m:(Value→ah→Prop)→Prop)(h:ah)(K:Value→ah→Prop):Prop:=
 match g with
 | .bool b=>bif b==want then m K else K undef h
 |_=>K undef h
def gOf (all:Array Oper)(ρ:Env)(j:Nat):Value:=
 match(all[j]?).bind (·.dst)with
 |some t=>ρ t
 |none=>undef
def roG (P:Program)(all:Array Oper)(ρ:Env)(o:Oper)(h:ah):Option (Option Value):=
 match roV P ρ o.op h with
 |some r=>match o.guard with
  |none=>some r
  |some (j,want)=>some (gV (gOf all ρ j) want r)
 |none=>none
def effG (P:Program)(all:Array Oper)(ρ:Env)(o:Oper)(h:ah)(K:Value→ah→Prop):Prop:=
 match o.guard with
 |none=>zbf P ρ o.op h K
 |some (j,want)=>gK (gOf all ρ j) want (λK=>zbf P ρ o.op h K) h K
def zbP (P:Program)(all:Array Oper)(ρ:Env)(o:Oper)(h:ah)(K:Value→ah→Prop):Prop:=
 match roG P all ρ o h with
 |some r=>vK r λv=>K v h
 |none=>effG P all ρ o h K
def zaw (P:Program)(ρ:Env)(o:Oper):Option Value:=
 match o.guard with
 |some _=>none
 | none=>match o.op with
  | .move x=>some (ev ρ x)
  | .assign x=>some (ev ρ x)
  | .makeInterface t x=>match P.underlying t with
   |some (.interface _)=>none
   |some _=>some (.iface t (ev ρ x))
   |none=>none
  | .makeFunc fn first captured=>some (.func fn (first.map (ev ρ)) (captured.map (ev ρ)))
  |_=>none
theorem VN {P:Program}{all:Array Oper}{ρ:Env}{o:Oper}{v:Value}(h:zaw P ρ o=some v)(hp:ah):roG P all ρ o hp=some (some v):=by
 unfold zaw at h;split at h
 ·cases h
 ·rename_i hg;unfold roG;split at h
  ·rename_i x ho;simp only[ho,roV,hg,h]
  ·rename_i x ho;simp only[ho,roV,hg,h]
  ·rename_i t x ho;simp only[ho,roV,hg];cases hu:P.underlying t with
   |none=>simp[hu]at h
   |some d=>cases d<;>simp_all
  ·rename_i ho;simp only[ho,roV,hg,h]
  ·cases h
def cOp (P:Program)(all:Array Oper)(ρ:Env)(o:Oper)(h:ah)(K:Value→ah→Prop):Prop:=
 match zaw P ρ o with
 |some v=>K v h
 |none=>zbP P all ρ o h K
theorem zah {P:Program}{all:Array Oper}{ρ:Env}{o:Oper}{h:ah}{K:Value→ah→Prop}(H:cOp P all ρ o h K):zbP P all ρ o h K:=by
 unfold cOp at H;split at H
 ·rename_i v hv;unfold zbP;rw[VN hv h];exact H
 ·exact H
def roK (P:Program)(all:Array Oper)(ρ:Env)(o:Oper)(h:ah)(K:Value→Prop):Prop:=
 match zaw P ρ o with
 |some v=>K v
 |none=>match roG P all ρ o h with
  |some r=>vK r K
  |none=>False
theorem YH {P:Program}{all:Array Oper}{ρ:Env}{o:Oper}{h:ah}{K:Value→Prop}(H:roK P all ρ o h K):match roG P all ρ o h with|some r=>vK r K|none=>False:=by
 unfold roK at H;split at H
 ·rename_i v hv;rw[VN hv h];exact H
 ·exact H
noncomputable def zag (P:Program)(all:Array Oper)(l:List Oper):Env→ah→(Env→ah→Prop)→Prop:=
 List.rec (motive:=λ_=>Env→ah→(Env→ah→Prop)→Prop) (λρ h Q=>Q ρ h)
  (λo _ ih ρ h Q=>cOp P all ρ o h λv h=>ih (up ρ o.dst v) h Q) l
theorem Yp {P:Program}{all:Array Oper}{o:Oper}{l:List Oper}{ρ:Env}{h:ah}{Q:Env→ah→Prop}:zag P all (o::l) ρ h Q=cOp P all ρ o h λv h=>zag P all l (up ρ o.dst v) h Q:=rfl
noncomputable def Xc (P:Program)(all:Array Oper)(l:List Oper):Env→ah→(Env→ah→Prop)→Prop:=
 List.rec (motive:=λ_=>Env→ah→(Env→ah→Prop)→Prop) (λρ h Q=>Q ρ h)
  (λo _ ih ρ h Q=>roK P all ρ o h λv=>ih (up ρ o.dst v) h Q) l
def qK (S:ah→Prop)(r:ah→Option Value)(K:Value→Prop):Prop:=∃v,(∀h,S h→r h=some v)∧K v
def bJ (h:ah)(body:(ah→Prop)→Prop):Prop:=∃S:ah→Prop,S h∧body S
def BP (P:Program):Op→Bool
 | .load .. | .lookup .. | .call _=>false
 | .binOp _ t x y _=>match Nb P t with
  | .p=>To x||To y
  |_=>true
 |_=>true
inductive PK where
 |e|r|f|n
inductive PT where
 |nil
 |op (i:Nat) (q:PK) (t:PT)
 |alt (x y:PT)
noncomputable def Cd (P:Program)(all:Array Oper)(plan:PT):(ah→Prop)→Env→ah→(Env→ah→Prop)→Prop:=
 PT.rec (motive:=λ_=>(ah→Prop)→Env→ah→(Env→ah→Prop)→Prop) (λ_ ρ h Q=>Q ρ h)
  (λi q _ ih S ρ h Q=>match all[i]? with
   |none=>False
   | some o=>match q with
    | .r=>match BP P o.op with
     |true=>roK P all ρ o h (λv=>ih S (up ρ o.dst v) h Q)
     |false=>qK S (λh=>match roG P all ρ o h with|some r=>r|none=>none) (λv=>ih S (up ρ o.dst v) h Q)
    | .e=>cOp P all ρ o h λv h=>S h∧ih S (up ρ o.dst v) h Q
    | .f=>cOp P all ρ o h λv h=>bJ h λS=>ih S (up ρ o.dst v) h Q
    | .n=>cOp P all ρ o h λv h=>ih (λ_=>True) (up ρ o.dst v) h Q)
  (λ_ _ ihx ihy S ρ h Q=>ihx S ρ h Q∧ihy S ρ h Q) plan
theorem Yq {P:Program}{all:Array Oper}{x y:PT}{S:ah→Prop}{ρ:Env}{h:ah}{Q:Env→ah→Prop}:Cd P all (.alt x y) S ρ h Q=(Cd P all x S ρ h Q∧Cd P all y S ρ h Q):=rfl
theorem VF {P:Program}{all:Array Oper}{S:ah→Prop}{i:Nat}{q:PK}{l:PT}{ρ:Env}{h:ah}{Q:Env→ah→Prop}:Cd P all (.op i q l) S ρ h Q=match all[i]? with
  |none=>False
  | some o=>match q with
   | .r=>match BP P o.op with
    |true=>roK P all ρ o h (λv=>Cd P all l S (up ρ o.dst v) h Q)
    |false=>qK S (λh=>match roG P all ρ o h with|some r=>r|none=>none) (λv=>Cd P all l S (up ρ o.dst v) h Q)
   | .e=>cOp P all ρ o h λv h=>S h∧Cd P all l S (up ρ o.dst v) h Q
   | .f=>cOp P all ρ o h λv h=>bJ h λS=>Cd P all l S (up ρ o.dst v) h Q
   | .n=>cOp P all ρ o h λv h=>Cd P all l (λ_=>True) (up ρ o.dst v) h Q:=by cases q<;>rfl
inductive Ex where
 |nx|br (n:Nat)|rt
inductive Ann where
 |z
 |s (x y:Ann)
 |j (ws:Nat) (cs:List Nat) (x y:Ann)
 |m (ws:Nat) (cs:List Nat) (x:Ann)
 |l (ws:Nat) (cs:List Nat) (x:Ann)
 |d (plan:PT)
def ix (xs:List Value)(i:Nat):Value:=xs.getD i undef
def Pg (t:Nat):Nat→List Nat→Option Nat
 |_,[]=>none
 |k,c::cs=>bif Nat.beq t c then some k else Pg t (k+1) cs
def gO:Code→List Tmp
 | .region _ ops _=>ops.toList.filterMap (·.dst)
 | .seq x y=>gO x++gO y
 | .cond _ x y=>gO x++gO y
 | .block _ x=>gO x
 | .loop x=>gO x
 |_=>[]
def yX (t:Nat):List Nat→Bool
 | []=>false
 |c::cs=>bif Nat.beq t c then true else yX t cs
def pT (ws t:Nat):Bool:=Nat.beq (Nat.land (Nat.shiftRight ws t) 1) 1
def Cy (ws:Nat):List Nat→Bool
 | []=>true
 |c::cs=>pT ws c&&Cy ws cs
def MW (ρ ρj:Env)(ws:Nat)(cs:List Nat)(xs:List Value):Env:=λt=>
 match Pg t 0 cs with
 |some i=>ix xs i
 |none=>match pT ws t with
  |true=>ρj t
  |false=>ρ t
def eK (body:(List Value→ah→Prop)→Prop)(rest:List Value→Env→ah→Prop):Prop:=
 ∃J:List Value→ah→Prop,body J∧∀xs ρj h,J xs h→rest xs ρj h
def aZ (init:List Value)(h:ah)(body:List Value→Env→ah→(List Value→ah→Prop)→Prop):Prop:=
 ∃(I:List Value→ah→Prop) (m:List Value→ah→Nat),I init h∧∀xs ρj h,I xs h→body xs ρj h λys h'=>I ys h'∧m ys h'<m xs h
def aF (c:Value)(x y:Prop):Prop:=
 match c with
 | .bool b=>bif b then x else y
 |_=>False
abbrev CK:=Ann→Env→ah→(Ex→Env→ah→Prop)→Prop
def seqC (x y:CK):CK:=λan ρ h Q=>match an with
 | .s a b=>x a ρ h λe ρ h=>match e with
  | .nx=>y b ρ h Q
  |e=>Q e ρ h
 | .j ws cs a b=>eK (λJ=>x a ρ h λe ρ h=>match e with
   | .nx=>J (cs.map ρ) h
   |e=>Q e ρ h) λxs ρj h=>y b (MW ρ ρj ws cs xs) h Q
 |_=>False
def condC (c:Operand)(x y:CK):CK:=λan ρ h Q=>match an with
 | .s a b=>aF (ev ρ c) (x a ρ h Q) (y b ρ h Q)
 |_=>False
def zc6 (id:Nat) (x:CK):CK:=λan ρ h Q=>match an with
 | .m ws cs a=>eK (λJ=>x a ρ h λe ρ h=>match e with
   | .nx=>J (cs.map ρ) h
   | .br n=>match Nat.beq n id with
    |true=>J (cs.map ρ) h
    |false=>Q (.br n) ρ h
   | .rt=>Q .rt ρ h) λxs ρj h=>Q .nx (MW ρ ρj ws cs xs) h
 | a=>x a ρ h λe ρ h=>match e with
  | .nx=>Q .nx ρ h
  | .br n=>match Nat.beq n id with
   |true=>Q .nx ρ h
   |false=>Q (.br n) ρ h
  | .rt=>Q .rt ρ h
def loopC (x:CK):CK:=λan ρ h Q=>match an with
 | .l ws cs a=>aZ (cs.map ρ) h λxs ρj h again=>x a (MW ρ ρj ws cs xs) h λe ρ h=>match e with
  | .nx=>again (cs.map ρ) h
  |e=>Q e ρ h
 |_=>False
noncomputable def zaK (P:Program)(ops:Array Oper)(draw:Bool):CK:=λan ρ h Q=>match an with
 | .d plan=>bJ h λS=>Cd P ops plan S ρ h (Q .nx)
 |_=>match draw with
  |true=>Xc P ops ops.toList ρ h (Q .nx)
  |false=>zag P ops ops.toList ρ h (Q .nx)
noncomputable def P6 (P:Program)(c:Code):CK:=
 Code.rec (motive:=λ_=>CK)
  (λ_ ρ h Q=>Q .nx ρ h)
  (λ_ ops draw=>zaK P ops draw)
  (λ_ _ ihx ihy=>seqC ihx ihy)
  (λc _ _ ihx ihy=>condC c ihx ihy)
  (λid _ ih=>zc6 id ih)
  (λ_ ih=>loopC ih)
  (λ_ _ _ _ _ _=>λ_ _ _ _=>False)
  (λid _ ρ h Q=>Q (.br id) ρ h)
  (λ_ _=>λ_ _ _ _=>False)
  (λ_=>λ_ _ _ _=>False)
  (λ_=>λ_ _ _ _=>False)
  (λ_ ρ h Q=>Q .rt ρ h)
  (λ_=>λ_ _ _ _=>False)
  c
def rL (ops:Array Oper):Nat→Nat→Nat→Bool
 |0,_,_=>false
 |n+1,k,i=>match ops[k]? with
  |some o=>o.after.any λe=>Region.binds .any e&&(e.on==i||rL ops n e.on i)
  |none=>false
def TO:List Edge→Nat→Nat
 | [],m=>m
 |e::l,m=>TO l (match Region.binds .any e with|true=>Nat.lor m (Nat.pow 2 e.on)|false=>m)
def zbS (ops:Array Oper):Nat→Nat→Nat
 |0,m=>m
 | j+1,m=>zbS ops j (match pT m j with
  |true=>match ops[j]? with
   |some o=>TO o.after.toList m
   |none=>m
  |false=>m)
def YV (ops:Array Oper)(k i:Nat):Bool:=pT (zbS ops ops.size (match ops[k]? with|some o=>TO o.after.toList 0|none=>0)) i
def ia:PT→List Nat
 | .nil=>[]
 | .op i q t=>match q with
  | .f=>[i]
  | .n=>[i]
  |_=>ia t
 | .alt x y=>ia x++ia y
def vD:PT→List Nat
 | .nil=>[]
 | .op i _ _=>[i]
 | .alt x y=>vD x++vD y
def xB:PT→Nat
 | .nil=>0
 | .op _ _ t=>xB t+1
 | .alt x y=>Nat.max (xB x) (xB y)
def UN (P:Program)(ops:Array Oper)(i:Nat):Bool:=
 match ops[i]? with
 |some o=>BP P o.op
 |none=>false
def nU (P:Program)(ops:Array Oper):PT→Bool→List Nat→Array Bool→Bool
 | .nil,root,_,listed=>root&&(Region.ready .any ops listed).isEmpty
 | .op i q t,root,fs,listed=>(match q with
   | .r=>root&&(Region.free .any ops listed i&&(Region.ready .any ops listed).contains i&&(ia t).all λk=> !(k==i)&&(UN P ops i||YV ops k i))
   | .e=>(bif root then Region.ready .any ops listed==[i]else(Region.ready .any ops listed).contains i)&& !((bif root then ia t else fs).contains i)
   |_=>bif root then Region.ready .any ops listed==[i]else(Region.ready .any ops listed).contains i)&&nU P ops t true [] (listed.setIfInBounds i true)
 | .alt x y,root,fs,listed=>(bif root then(Region.ready .any ops listed).all λi=>(vD x++vD y).contains i else true)&&
   (nU P ops x false (bif root then ia x++ia y else fs) listed&&nU P ops y false (bif root then ia x++ia y else fs) listed)
def Ec (n:Nat):List Oper→Bool
 | []=>true
 |o::l=>(match o.dst with|some d=>Nat.blt d n|none=>true)&&Ec n l
def gB (P:Program)(n:Nat):Code→Ann→Bool
 | .skip,_=>true
 | .region _ ops draw,an=>Ec n ops.toList&&match an with
  | .d plan=>draw&&Region.noSelect ops&&Nat.ble (xB plan) ops.size&&nU P ops plan true [] (Array.replicate ops.size false)
  |_=>bif draw then Region.lexB .any ops else true
 | .seq x y,an=>match an with
  | .s a b=>gB P n x a&&gB P n y b
  | .j ws _ a b=>Cy ws (gO x)&&(gB P n x a&&gB P n y b)
  |_=>false
 | .cond _ x y,an=>match an with
  | .s a b=>gB P n x a&&gB P n y b
  |_=>false
 | .block _ x,an=>match an with
  | .m ws _ a=>Cy ws (gO x)&&gB P n x a
  |a=>gB P n x a
 | .loop x,an=>match an with
  | .l ws _ a=>Cy ws (gO x)&&gB P n x a
  |_=>false
 | .exit _,_=>true
 | .ret,_=>true
 |_,_=>false
def Rel (n:Nat)(a:Act)(ρ:Env):Prop:=a.tmps.size=n∧a.defers=[]∧∀t,a.tmps.getD t undef=ρ t
theorem Rel.eval {n:Nat}{a:Act}{ρ:Env}(h:Rel n a ρ):a.eval=ev ρ:=by
 funext x
 cases x<;>simp only[Act.eval,ev]
 exact h.2.2 _
theorem Rel.put {n:Nat}{a:Act}{ρ:Env}(h:Rel n a ρ){d:Option Tmp}(hd:(match d with|some d=>Nat.blt d n|none=>true)=true)(v:Value):Rel n (a.put d v) (up ρ d v):=by
 cases d with
 |none=>exact h
 | some d=>
  refine⟨by simp[Act.put,h.1],h.2.1,λt=>?_⟩;have hd':d<a.tmps.size:=by rw[h.1];simpa[Nat.blt_eq]using hd
  simp only[Act.put,up];have:=h.2.2 t;by_cases ht:t=d
  ·subst ht;simp[hd']
  ·have hb:Nat.beq t d=false:=by rw[Hp];intro hb;exact ht (zt hb)
   simp only[hb];rw[←this];simp only[RR];rw[Ww (ie ht)]
def Ii (n:Nat)(ρ:Env)(ws:List Tmp)(w0:World)(Q:Ex→Env→ah→Prop):Exit→Act→World→Prop:=λe a w=>
 ∃ρ2,Rel n a ρ2∧(∀t,yX t ws=false→ρ2 t=ρ t)∧dD w0 w∧match e with
  | .normal=>Q .nx ρ2 w.heap
  | .exit id=>Q (.br id) ρ2 w.heap
  | .ret=>Q .rt ρ2 w.heap
  |_=>False
theorem rT (t:Nat):∀a b:List Nat,yX t (a++b)=(yX t a||yX t b)
 | [],b=>by simp[yX]
 |c::a,b=>by
  simp only[mY,yX,rT t a b];cases Nat.beq t c<;>simp
theorem FD {n:Nat}{a:Act}{ρ:Env}(hr:Rel n a ρ){all:Array Oper}{j:Nat}{want:Bool}{o:Oper}(hg:o.guard=some (j,want)):
  Region.wanted o (yielded all a.tmps)=(match gOf all ρ j with| .bool b=>b==want|_=>false):=by
 unfold Region.wanted;rw[hg];simp only;unfold yielded gOf;cases hd:(all[j]?).bind (·.dst)with
 |none=>rfl
 |some t=>
  have h2:=hr.2.2 t;simp only[Option.bind_some];rw[←h2];simp only[RR];cases h3:a.tmps[t]? with
  |none=>rfl
  |some v=>cases v<;>simp
section
variable {P:Program}{ρ:Env}{w:World}{n:Nat}{a:Act}
theorem yH {o:Oper}{K:Value→ah→Prop}{next:Act→World→Prop}{Q:Exit→Act→World→Prop}(h:ki P K w ((execOp a.eval o).run P w))
  (hn:∀v w',dD w w'→K v w'.heap→next (a.put o.dst v) w'):o.wp P a w next Q:=by
 unfold Oper.wp;generalize(execOp a.eval o).run P w=r at h;unfold ki at h;split at h
 ·exact hn _ _ h.1 h.2
 ·exact hn _ _ h.1 h.2
 ·obtain⟨rfl,hc⟩:=h;refine(hc.2 _ rfl).mono ?_;rintro e w' ⟨v,rfl,hs,hk⟩;exact hn v w' hs hk
 ·exact h.elim
theorem P5 [kY P]{all:Array Oper}{o:Oper}{K:Value→ah→Prop}{next:Act→World→Prop}{Q:Exit→Act→World→Prop}(hr:Rel n a ρ)(h:cOp P all ρ o w.heap K)
  (hn:∀v w',dD w w'→K v w'.heap→next (a.put o.dst v) w'):
  if Region.wanted o (yielded all a.tmps)then o.wp P a w next Q∨(o.asks P a w∧LetsOut Q)else next (a.put o.dst undef) w:=by
 have h:=zah h;unfold zbP at h;cases hro:roV P ρ o.op w.heap with
 | some r=>
  simp only[roG,hro]at h;cases hg:o.guard with
  | none=>
   simp only[hg]at h;have hw:Region.wanted o (yielded all a.tmps)=true:=by simp[Region.wanted,hg]
   rw[aA hw];refine .inl ?_;unfold vK at h;split at h
   ·rename_i v;refine yH (K:=K) ?_ hn;rw[hr.eval,yl o rfl hro rfl];exact⟨dD.refl w,h⟩
   ·exact h.elim
  | some p=>
   obtain⟨j,want⟩:=p;simp only[hg]at h;rw[FD hr hg];unfold gV at h;split at h
   ·rename_i b hb;by_cases hbw:(b==want)=true
    ·rw[hbw]at h;simp only[sS]at h;rw[aA hbw];refine .inl ?_;unfold vK at h;split at h
     ·rename_i v;refine yH (K:=K) ?_ hn;rw[hr.eval,yl o rfl hro rfl];exact⟨dD.refl w,h⟩
     ·exact h.elim
    ·have hbw':(b==want)=false:=by simpa using hbw
     rw[hbw']at h;simp only[xz,vK]at h;rw[az hbw];exact hn _ _ (dD.refl w) h
   ·rename_i hb;simp only[vK]at h;rw[az (by simp)];exact hn _ _ (dD.refl w) h
 | none=>
  simp only[roG,hro,effG]at h;cases hg:o.guard with
  |none=>
   simp only[hg]at h;have hw:Region.wanted o (yielded all a.tmps)=true:=by simp[Region.wanted,hg]
   rw[aA hw];refine .inl (yH (K:=K) ?_ hn);rw[hr.eval];exact Nc o rfl h
  | some p=>
   obtain⟨j,want⟩:=p;simp only[hg]at h;rw[FD hr hg];unfold gK at h;split at h
   ·rename_i b hb;by_cases hbw:(b==want)=true
    ·rw[hbw]at h;simp only[sS]at h;rw[aA hbw];refine .inl (yH (K:=K) ?_ hn);rw[hr.eval];exact Nc o rfl h
    ·have hbw':(b==want)=false:=by simpa using hbw
     rw[hbw']at h;simp only[xz]at h;rw[az hbw];exact hn _ _ (dD.refl w) h
   ·rename_i hb;rw[az (by simp)];exact hn _ _ (dD.refl w) h
theorem Ev {o:Oper}{l:List Oper}(h:Ec n (o::l)=true):(match o.dst with|some d=>Nat.blt d n|none=>true)=true∧Ec n l=true:=by
 simpa[Ec]using h
theorem Sp {d:Option Tmp}{v:Value}{t:Nat}{rest:List Tmp}(ht:yX t (match d with|some d=>d::rest|none=>rest)=false):up ρ d v t=ρ t∧yX t rest=false:=by
 cases d with
 |none=>exact⟨rfl,ht⟩
 |some d=>
  simp only[yX]at ht;simp only[up];cases hb:Nat.beq t d with
  |true=>rw[hb]at ht;cases ht
  |false=>rw[hb]at ht;exact⟨rfl,ht⟩
theorem NB [kY P]{all:Array Oper}{Q:Ex→Env→ah→Prop}{Q':Exit→Act→World→Prop}:∀(l:List Oper) (k:Nat) (ρ:Env) (a:Act) (w:World),all.toList.drop k=l→Ec n l=true→Rel n a ρ→
  zag P all l ρ w.heap (Q .nx)→(∀e a' w',Ii n ρ (l.filterMap (·.dst)) w Q e a' w'→Q' e a' w')→wpOps P all Q' (List.range' k l.length) a w
 | [],k,ρ,a,w,_,_,hr,h,hQ=>by
  simp only[kr,List.range'_zero,wpOps];exact hQ _ _ _ ⟨ρ,hr,λ_ _=>rfl,dD.refl w,h⟩
 | o::l,k,ρ,a,w,hd,hok,hr,h,hQ=>by
  have hk:all[k]? =some o:=by
   rw[←um];have:(all.toList.drop k)[0]? =some o:=by rw[hd];rfl
   simpa using this
  have hd':all.toList.drop (k+1)=l:=by
   have:(all.toList.drop k).drop 1=l:=by rw[hd];rfl
   simpa[Hn]using this
  obtain⟨h1,h2⟩:=Ev hok;simp only[oD,List.range'_succ,wpOps,hk];rw[Yp]at h;refine P5 (n:=n) hr h λv w' hs hK=>?_
  refine NB l (k+1) (up ρ o.dst v) _ w' hd' h2 (hr.put h1 v) hK λe a' w'' ⟨ρ2,g1,g2,g3,g4⟩=>hQ e a' w'' ⟨ρ2,g1,λt ht=>?_,hs.trans g3,g4⟩
  have:=Sp (ρ:=ρ) (d:=o.dst) (v:=v) (t:=t) (rest:=l.filterMap (·.dst)) (by cases hdst:o.dst<;>simp[hdst]at ht ⊢ <;>exact ht);rw[g2 t this.2,this.1]
theorem Qd [kY P]{all:Array Oper}{o:Oper}{C:World→Prop}{K:Act→Prop}{h:ah}{K0:Value→Prop}(hr:Rel n a ρ)(hC:∀w,C w→w.heap=h)
  (hv:roK P all ρ o h K0) (hn:∀v,K0 v→K (a.put o.dst v)):
  if Region.wanted o (yielded all a.tmps)then o.quiet P a C K else K (a.put o.dst undef):=by
 have hv:=YH hv;unfold roG at hv;cases hro:roV P ρ o.op h with
 |none=>simp[hro]at hv
 | some r=>
  simp only[hro]at hv;have hq:∀v,r=some v→∀w,C w→o.quietAt P a C w v:=by
   intro v hrv w hw;unfold Oper.quietAt;rw[hr.eval,yl (w:=w) o rfl (by rw[hC w hw];exact hro) hrv];exact⟨rfl,rfl⟩
  cases hg:o.guard with
  | none=>
   simp only[hg]at hv;rw[aA (by simp[Region.wanted,hg])];unfold vK at hv;split at hv
   ·rename_i v;exact⟨v,hq v rfl,hn v hv⟩
   ·exact hv.elim
  | some p=>
   obtain⟨j,want⟩:=p;simp only[hg]at hv;rw[FD hr hg];unfold gV at hv;split at hv
   ·rename_i b hb;by_cases hbw:(b==want)=true
    ·rw[hbw]at hv;simp only[sS]at hv;rw[aA hbw];unfold vK at hv;split at hv
     ·rename_i v;exact⟨v,hq v rfl,hn v hv⟩
     ·exact hv.elim
    ·have hbw':(b==want)=false:=by simpa using hbw
     rw[hbw']at hv;simp only[xz,vK]at hv;rw[az hbw];exact hn _ hv
   ·rename_i hb;simp only[vK]at hv;rw[az (by simp)];exact hn _ hv
theorem JW [kY P]{all:Array Oper}{Q:Ex→Env→ah→Prop}{C:World→Prop}{h:ah}{Q':Act→Prop}(hC:∀w,C w→w.heap=h):∀(l:List Oper) (ρ:Env) (a:Act),Ec n l=true→Rel n a ρ→
  Xc P all l ρ h (Q .nx)→(∀a' ρ2,Rel n a' ρ2→(∀t,yX t (l.filterMap (·.dst))=false→ρ2 t=ρ t)→Q .nx ρ2 h→Q' a')→wpQuiet P all C Q' l a
 | [],ρ,a,_,hr,hh,hQ=>hQ _ ρ hr (λ_ _=>rfl) hh
 |o::l,ρ,a,hok,hr,hh,hQ=>by
  obtain⟨h1,h2⟩:=Ev hok;simp only[wpQuiet];refine Qd (n:=n) (h:=h) hr hC (K0:=λv=>Xc P all l (up ρ o.dst v) h (Q .nx)) hh λv hK=>?_
  refine JW hC l (up ρ o.dst v) _ h2 (hr.put h1 v) hK λa' ρ2 g1 g2 g3=>hQ a' ρ2 g1 (λt ht=>?_) g3
  have:=Sp (ρ:=ρ) (d:=o.dst) (v:=v) (t:=t) (rest:=l.filterMap (·.dst)) (by cases hdst:o.dst<;>simp[hdst]at ht ⊢ <;>exact ht);rw[g2 t this.2,this.1]
theorem LB (w:World):dD w {w with drawn:=w.drawn+1}:=⟨rfl,rfl,rfl⟩
theorem Region.wanted_eq {all:Array Oper}{o:Oper}(hr:Rel n a ρ):Region.wanted o (yielded all a.tmps)=match o.guard with
  |none=>true
  |some (j,want)=>match gOf all ρ j with| .bool b=>b==want|_=>false:=by
 cases hg:o.guard with
 |none=>simp[Region.wanted,hg]
 |some p=>obtain⟨j,want⟩:=p;exact FD hr hg
theorem Jn [kY P]{all:Array Oper}{o:Oper}{S:ah→Prop}{v:Value}{h0:ah}(hr:Rel n a ρ)(h0S:S h0)
  (hv:∀h,S h→(match roG P all ρ o h with|some r=>r|none=>none)=some v):YieldsIf P all (λw=>S w.heap) o v a:=by
 unfold YieldsIf;rw[Region.wanted_eq hr];have key:∀h,S h→∃r,roV P ρ o.op h=some r∧(match o.guard with|none=>r|some (j,want)=>gV (gOf all ρ j) want r)=some v:=by
  intro h hh;have:=hv h hh;unfold roG at this;cases hro:roV P ρ o.op h with
  |none=>simp[hro]at this
  |some r=>
   simp only[hro]at this;refine⟨r,rfl,?_⟩;cases hg:o.guard with
   |none=>simpa[hg]using this
   |some p=>simpa[hg]using this
 cases hg:o.guard with
 |none=>
  refine .inl ⟨rfl,λw hw=>?_⟩;obtain⟨r,h1,h2⟩:=key _ hw;simp only[hg]at h2;rw[hr.eval];exact yl o rfl h1 h2
 | some p=>
  obtain⟨j,want⟩:=p;simp only[hg]at key;cases hgo:gOf all ρ j with
  | bool b=>
   simp only[hgo,gV]at key;cases hbw:(b==want)with
   |true=>
    refine .inl ⟨by simp only[hgo];exact hbw,λw hw=>?_⟩;obtain⟨r,h1,h2⟩:=key _ hw;rw[hbw,sS]at h2;rw[hr.eval];exact yl o rfl h1 h2
   |false=>
    obtain⟨r,h1,h2⟩:=key _ h0S;rw[hbw,xz]at h2;exact .inr ⟨by simp only[hgo];exact hbw,(sQ h2).symm⟩
  |_=>
   obtain⟨r,h1,h2⟩:=key _ h0S;simp only[hgo,gV]at h2;exact .inr ⟨by simp only[hgo],(sQ h2).symm⟩
theorem AI [kY P]{all:Array Oper}{i:Nat}{o:Oper}{K:Value→ah→Prop}{next:Act→World→Prop}{Q:Exit→Act→World→Prop}(hi:all[i]? =some o)(hr:Rel n a ρ)(h:cOp P all ρ o w.heap K)
  (hn:∀v w',dD w w'→K v w'.heap→next (a.put o.dst v) w'):wpOp P all Q i next a w:=by
 unfold wpOp;simp only[hi];exact P5 hr h hn
theorem XB {o:Oper}:∀(l:List Oper) (i:Nat),Ec n l=true→l[i]? =some o→(match o.dst with|some d=>Nat.blt d n|none=>true)=true:=by
 intro l;induction l with
 |nil=>intro i _ h;simp at h
 | cons o' l ih=>
  intro i h hi;obtain⟨h1,h2⟩:=Ev h;cases i with
  |zero=>
   simp only[CY,cE]at hi;subst hi;exact h1
  |succ i=>
   simp only[BL]at hi;exact ih i h2 hi
theorem JF:∀{t:Nat} {l:List Nat},t∈l→yX t l=true
 | t,c::l,h=>by
  simp only[yX];cases hb:Nat.beq t c with
  |true=>rfl
  |false=>
   rcases kq.1 h with rfl|h
   ·simp at hb
   ·exact JF h
theorem Qm {all:Array Oper}{o:Oper}(h:BP P o.op=true)(h1 h2:ah):roG P all ρ o h1=roG P all ρ o h2:=by
 have:roV P ρ o.op h1=roV P ρ o.op h2:=by
  cases ho:o.op with
  | binOp op t x y z=>
   rw[ho]at h;have h:(match Nb P t with| .p=>To x||To y|_=>true)=true:=h;unfold roV;cases he:Nb P t with
   |p=>
    rw[he]at h;have h:(To x||To y)=true:=h;simp only[h]
   |_=>simp only[he]
  |_=>first|rfl|(rename_i m;cases m<;>rfl)|(exfalso;rw[ho]at h;cases h)
 unfold roG;rw[this]
def Fz (ops:Array Oper)(listed:Array Bool):Prop:=
 ∀k o,ops[k]? =some o→listed.getD k false=true→∀e∈o.after,Region.binds .any e=true→listed.getD e.on false=true
theorem Fz.step {ops:Array Oper}{listed:Array Bool}{j:Nat}(h:Fz ops listed)(hj:j∈Region.ready .any ops listed):Fz ops (listed.setIfInBounds j true):=by
 intro k o hk hl e he hb;refine getD_set_true ?_;by_cases hkj:k=j
 ·subst hkj;obtain⟨_,o',ho',hall⟩:=zq.1 hj;rw[hk]at ho';cases ho';exact hall e he hb
 ·exact h k o hk (by rw[←getD_set_ne false (ie hkj)];exact hl) e he hb
theorem JE {ops:Array Oper}{listed:Array Bool}(h:Fz ops listed){i:Nat}:∀(n k:Nat),rL ops n k i=true→(∀o,ops[k]? =some o→∀e∈o.after,Region.binds .any e=true→listed.getD e.on false=true)→listed.getD i false=true
 |0,k,hp,_=>by simp[rL]at hp
 | n+1,k,hp,hk=>by
  unfold rL at hp;cases ho:ops[k]? with
  |none=>simp[ho]at hp
  |some o=>
   simp only[ho,Hm,dh,xv,CV]at hp;obtain⟨e,he,hb,hp⟩:=hp;have hl:=hk o ho e he hb;rcases hp with rfl|hp
   ·exact hl
   ·exact JE h n e.on hp λo' ho' e' he' hb'=>h e.on o' ho' hl e' he' hb'
theorem zai (m e i:Nat):pT (Nat.lor m (Nat.pow 2 e)) i=true→pT m i=true∨i=e:=by
 have hb:∀m t,pT m t=m.testBit t:=by
  intro m t;unfold pT;have h1:Nat.land (Nat.shiftRight m t) 1=(m>>>t)%2:=Hl _;rw[h1,RQ,Nat.testBit_eq_decide_div_mod_eq];cases h:Nat.beq (m/2^t%2) 1 with
  |true=>simp[zt h]
  |false=>have:¬m/2^t%2=1:=Nat.ne_of_beq_eq_false h;simp[this]
 rw[hb,hb];intro h;have h:(m|||2^e).testBit i=true:=h;rw[Nat.testBit_or,Nat.testBit_two_pow,xv,dS]at h;rcases h with h|h
 ·exact .inl h
 ·exact .inr h.symm
theorem LQ {ops:Array Oper}{j i:Nat}{o:Oper}(ho:ops[j]? =some o){e:Edge}(he:e∈o.after)(hb:Region.binds .any e=true)(hi:e.on=i):∀(n k:Nat),rL ops n k j=true→∃n,rL ops n k i=true
 |0,k,h=>by simp[rL]at h
 | n+1,k,h=>by
  unfold rL at h;cases hk:ops[k]? with
  |none=>simp[hk]at h
  | some o'=>
   simp only[hk,Hm,dh,xv,CV]at h;obtain⟨e',he',hb',h⟩:=h;have fin:∀m,rL ops m e'.on i=true→∃n,rL ops n k i=true:=λm hm=>⟨m+1,by
    unfold rL;simp only[hk,Hm,dh,xv,CV];exact⟨e',he',hb',.inr hm⟩⟩
   rcases h with h|h
   ·refine fin 1 ?_;unfold rL;rw[h];simp only[ho,Hm,dh,xv,CV];exact⟨e,he,hb,.inl hi⟩
   ·obtain⟨m,hm⟩:=LQ ho he hb hi n e'.on h;exact fin m hm
theorem IZ {i:Nat}:∀(l:List Edge) (m:Nat),pT (TO l m) i=true→pT m i=true∨∃e∈l,Region.binds .any e=true∧e.on=i
 | [],m,h=>.inl h
 | e::l,m,h=>by
  unfold TO at h;rcases IZ l _ h with h1|⟨e',h1,h2⟩
  ·cases hb:Region.binds .any e with
   |true=>
    simp only[hb]at h1;rcases zai _ _ _ h1 with h1|h1
    ·exact .inl h1
    ·exact .inr ⟨e,by simp,hb,h1.symm⟩
   |false=>
    simp only[hb]at h1;exact .inl h1
  ·exact .inr ⟨e',by simp[h1],h2⟩
theorem Uo {ops:Array Oper}{k:Nat}:∀(j m:Nat),(∀i,pT m i=true→∃n,rL ops n k i=true)→∀i,pT (zbS ops j m) i=true→∃n,rL ops n k i=true
 |0,m,H,i,h=>H i h
 | j +1,m,H,i,h=>by
  unfold zbS at h;refine Uo j _ ?_ i h;intro i h;cases hb:pT m j with
  |false=>simp only[hb]at h;exact H i h
  | true=>
   simp only[hb]at h;cases ho:ops[j]? with
   |none=>simp only[ho]at h;exact H i h
   | some o=>
    simp only[ho]at h;rcases IZ _ _ h with h|⟨e,h1,h2,h3⟩
    ·exact H i h
    ·obtain⟨n,hn⟩:=H j hb;exact LQ ho (by simpa using h1) h2 h3 n k hn
theorem S6 {ops:Array Oper}{k i:Nat}(h:YV ops k i=true):∃n,rL ops n k i=true:=by
 refine Uo ops.size _ ?_ i h;intro i h;cases ho:ops[k]? with
 |none=>
  simp only[ho]at h;simp[pT,RQ]at h
 | some o=>
  simp only[ho]at h;rcases IZ _ _ h with h|⟨e,h1,h2,h3⟩
  ·have:Nat.land (Nat.shiftRight 0 i) 1=0:=by
    have h1:Nat.land (Nat.shiftRight 0 i) 1=(0>>>i)%2:=Hl _;rw[h1,RQ];simp
   unfold pT at h;rw[this]at h;cases h
  ·refine⟨1,?_⟩;unfold rL;simp only[ho,Hm,dh,xv,CV];exact⟨e,by simpa using h1,h2,.inl h3⟩
def pY (P:Program)(ops:Array Oper)(Q:Exit→Act→World→Prop)(S:World→Prop)(F:Nat→Bool):Nat→Array Bool→Act→World→Prop
 |0,listed,a,w=>Region.ready .any ops listed=[]∧Q .normal a w
 |fuel+1,listed,a,w=>
  (Region.ready .any ops listed=[]→Q .normal a w)∧
  ∀i∈Region.ready .any ops listed,wpOp P ops Q i (λa' w'=>if F i=true then wpAny P .any ops Q fuel (listed.setIfInBounds i true) a' w' else S w'∧pY P ops Q S F fuel (listed.setIfInBounds i true) a' w') a w
theorem uK {P:Program}{ops:Array Oper}{Q:Exit→Act→World→Prop}{S:World→Prop}{F:Nat→Bool}:∀(fuel:Nat) (listed:Array Bool) (a:Act) (w:World),pY P ops Q S F fuel listed a w→wpAny P .any ops Q fuel listed a w
 |0,_,_,_,h=>h
 | fuel+1,_,_,_,h=>⟨h.1,λi hi=>w7 (λa' w' h'=>by
   split at h'
   ·exact h'
   ·exact uK fuel _ a' w' h'.2) (h.2 i hi)⟩
theorem Qc {P:Program}{ops:Array Oper}{Q:Exit→Act→World→Prop}{S:World→Prop}{F:Nat→Bool}{i:Nat}{oi:Oper}{v:Value}(hi:ops[i]? =some oi)(hsel:∀(j:Nat) (o:Oper) cs b,ops[j]? =some o→o.op≠ .select cs b)
  (hQ:∀c a w,Q (.panic c) (a.put oi.dst v) w→Q (.panic c) a w) (hFi:F i=false) (hF:∀k,F k=true→∃n,rL ops n k i=true):
  ∀(fuel:Nat) (listed:Array Bool) (a:Act) (w:World),
   (∀j oj,ops[j]? =some oj→j≠i→listed.getD j true=false→(∀e∈oj.after,Region.binds .any e=true→e.on≠i)→oi.apart ops oj=true)→
   Fz ops listed→i∈Region.ready .any ops listed→YieldsIf P ops S oi v a→S w→
   pY P ops Q S F fuel (listed.setIfInBounds i true) (a.put oi.dst v) w→pY P ops Q S F (fuel+1) listed a w:=by
 have notF:∀{listed:Array Bool} {j:Nat},Fz ops listed→i∈Region.ready .any ops listed→j∈Region.ready .any ops listed→¬F j=true:=by
  intro listed j hc hr hj hfj;obtain⟨n,hn⟩:=hF j hfj;obtain⟨_,oj,hoj,hall⟩:=zq.1 hj;have h1:=JE hc n j hn λo ho e he hb=>by rw[hoj]at ho;cases ho;exact hall e he hb
  have h0:=(zq.1 hr).1;rcases oE i listed.size with h'|h'
  ·simp[h']at h0 h1;rw[h0]at h1;cases h1
  ·simp[zo h']at h1
 have hnF:¬F i=true:=by rw[hFi];simp
 intro fuel;induction fuel with
 | zero=>
  intro listed a w _ hc hr hy hS H;refine⟨λh=>(by rw[h]at hr;cases hr),λj hj=>?_⟩;by_cases hji:j=i
  ·subst hji;exact hy.wpOp hi hS (by rw[az hnF];exact⟨hS,H⟩)
  ·have:=zn hj hji;rw[H.1]at this;cases this
 | succ fuel ih=>
  intro listed a w hfree hc hr hy hS H;refine⟨λh=>(by rw[h]at hr;cases hr),λj hj=>?_⟩;by_cases hji:j=i
  ·subst hji;exact hy.wpOp hi hS (by rw[az hnF];exact⟨hS,H⟩)
  ·have h1:=H.2 j (zn hj hji);have hnFj:=notF hc hr hj;simp only[az hnFj]at h1 ⊢;obtain⟨hjun,oj,hoj,hall⟩:=zq.1 hj;have hnot:∀e∈oj.after,Region.binds .any e=true→e.on≠i:=λe he hb heq=>by
    have h1:=hall e he hb;have h0:=(zq.1 hr).1;rw[heq]at h1;rcases oE i listed.size with h'|h'
    ·simp[h']at h0 h1;rw[h0]at h1;cases h1
    ·simp[zo h']at h1
   have h2:=wpOp_putIf hoj (hfree j oj hoj hji hjun hnot) (λcs b=>hsel i oi cs b hi) (λcs b=>hsel j oj cs b hoj) hQ hy h1;have hfree':∀k ok,ops[k]? =some ok→k≠i→(listed.setIfInBounds j true).getD k true=false→
     (∀e∈ok.after,Region.binds .any e=true→e.on≠i)→oi.apart ops ok=true:=λk ok hk hki hun hno=>by
    refine hfree k ok hk hki ?_ hno;by_cases hjk:j=k
    ·subst hjk;exact hjun
    ·rw[getD_set_ne true hjk]at hun;exact hun
   refine w7 (λa' w' h3=>⟨h3.2.1,ih (listed.setIfInBounds j true) a' w' hfree' (hc.step hj) (zn hr (ie hji)) h3.1 h3.2.1 ?_⟩) h2;rw[RP _ _ hji];exact h3.2.2
theorem NQ {P:Program}{ops:Array Oper}{Q:Exit→Act→World→Prop}{S:World→Prop}{F:Nat→Bool}{i:Nat}{oi:Oper}{v:Value}(hi:ops[i]? =some oi)(hsel:∀(j:Nat) (o:Oper) cs b,ops[j]? =some o→o.op≠ .select cs b)
  (hQ:∀c a w,Q (.panic c) (a.put oi.dst v) w→Q (.panic c) a w) (hFi:F i=false):
  ∀(fuel:Nat) (listed:Array Bool) (a:Act) (w:World),
   (∀j oj,ops[j]? =some oj→j≠i→listed.getD j true=false→(∀e∈oj.after,Region.binds .any e=true→e.on≠i)→oi.apart ops oj=true)→
   i∈Region.ready .any ops listed→Yields P ops oi v a→S w→
   pY P ops Q S F fuel (listed.setIfInBounds i true) (a.put oi.dst v) w→pY P ops Q S F (fuel+1) listed a w:=by
 have hnF:¬F i=true:=by rw[hFi];simp
 intro fuel;induction fuel with
 | zero=>
  intro listed a w _ hr hy hS H;refine⟨λh=>(by rw[h]at hr;cases hr),λj hj=>?_⟩;by_cases hji:j=i
  ·subst hji;exact hy.wpOp hi (by rw[az hnF];exact⟨hS,H⟩)
  ·have:=zn hj hji;rw[H.1]at this;cases this
 | succ fuel ih=>
  intro listed a w hfree hr hy hS H;refine⟨λh=>(by rw[h]at hr;cases hr),λj hj=>?_⟩;by_cases hji:j=i
  ·subst hji;exact hy.wpOp hi (by rw[az hnF];exact⟨hS,H⟩)
  ·have h1:=H.2 j (zn hj hji);obtain⟨hjun,oj,hoj,hall⟩:=zq.1 hj;have hnot:∀e∈oj.after,Region.binds .any e=true→e.on≠i:=λe he hb heq=>by
    have h1:=hall e he hb;have h0:=(zq.1 hr).1;rw[heq]at h1;rcases oE i listed.size with h'|h'
    ·simp[h']at h0 h1;rw[h0]at h1;cases h1
    ·simp[zo h']at h1
   have h2:=wpOp_put hoj (hfree j oj hoj hji hjun hnot) (λcs b=>hsel i oi cs b hi) (λcs b=>hsel j oj cs b hoj) hQ hy h1;have hfree':∀k ok,ops[k]? =some ok→k≠i→(listed.setIfInBounds j true).getD k true=false→
     (∀e∈ok.after,Region.binds .any e=true→e.on≠i)→oi.apart ops ok=true:=λk ok hk hki hun hno=>by
    refine hfree k ok hk hki ?_ hno;by_cases hjk:j=k
    ·subst hjk;exact hjun
    ·rw[getD_set_ne true hjk]at hun;exact hun
   refine w7 (λa' w' h3=>?_) h2;obtain⟨hy',h3⟩:=h3;by_cases hF:F j=true
   ·rw[aA hF]at h3 ⊢;rw[RP _ _ (ie hji)]at h3;exact wpAny_first hi hsel hQ fuel (listed.setIfInBounds j true) a' w' hfree' (zn hr (ie hji)) hy' h3
   ·rw[az hF]at h3 ⊢;refine⟨h3.1,ih (listed.setIfInBounds j true) a' w' hfree' (zn hr (ie hji)) hy' h3.1 ?_⟩;rw[RP _ _ hji];exact h3.2
theorem Jo {P:Program}{ops:Array Oper}{Q:Exit→Act→World→Prop}{S:World→Prop}{F F':Nat→Bool}(hF:∀k,F k=true→F' k=true):∀(fuel:Nat) (listed:Array Bool) (a:Act) (w:World),pY P ops Q S F fuel listed a w→pY P ops Q S F' fuel listed a w
 |0,_,_,_,h=>h
 | fuel+1,_,_,_,h=>⟨h.1,λi hi=>w7 (λa' w' h'=>by
   by_cases h1:F i=true
   ·rw[aA h1]at h';rw[aA (hF i h1)];exact h'
   ·rw[az h1]at h';by_cases h2:F' i=true
    ·rw[aA h2];exact uK fuel _ a' w' h'.2
    ·rw[az h2];exact⟨h'.1,Jo hF fuel _ a' w' h'.2⟩) (h.2 i hi)⟩
theorem Sm {P:Program}{ops:Array Oper}{Q:Exit→Act→World→Prop}{S:World→Prop}{F:Nat→Bool}{listed:Array Bool}{a:Act}{w:World}(h0:Region.ready .any ops listed=[])(hQ:Q .normal a w):∀fuel,pY P ops Q S F fuel listed a w
 |0=>⟨h0,hQ⟩
 |fuel+1=>⟨λ_=>hQ,λi hi=>by rw[h0]at hi;cases hi⟩
theorem Eb {ops:Array Oper}{listed:Array Bool}:∀(t:PT) (gs:List Nat),nU P ops t false gs listed=true→Region.ready .any ops listed≠[]
 | .nil,gs,h=>by simp[nU]at h
 | .op i q t,gs,h=>by
  intro h0;cases q<;>simp[nU,h0]at h
 | .alt x y,gs,h=>by
  simp only[nU,dh,xz]at h;exact Eb x gs h.2.1
theorem jL [kY P]{all:Array Oper}{Q:Ex→Env→ah→Prop}{Q':Exit→Act→World→Prop}{ρ0:Env}{w0:World}(hns:Region.noSelect all=true)(hok:Ec n all.toList=true)
  (hQp:∀c a w,¬Q' (.panic c) a w):∀(plan:PT) (root:Bool) (fs:List Nat) (S:ah→Prop) (listed:Array Bool) (ρ:Env) (a:Act) (w:World) (fuel:Nat),nU P all plan root fs listed=true→xB plan≤fuel→Fz all listed→Rel n a ρ→(∀t,yX t (all.toList.filterMap (·.dst))=false→ρ t=ρ0 t)→dD w0 w→S w.heap→
  Cd P all plan S ρ w.heap (Q .nx)→(∀e a' w',Ii n ρ0 (all.toList.filterMap (·.dst)) w0 Q e a' w'→Q' e a' w')→
  (root=true→pY P all Q' (λw=>S w.heap) (λj=>(ia plan).contains j) fuel listed a w)∧
  (root=false→(∀k,(ia plan).contains k=true→fs.contains k=true)→∀i∈Region.ready .any all listed,i∈vD plan→∃fuel',fuel=fuel'+1∧
   wpOp P all Q' i (λa' w'=>if fs.contains i=true then wpAny P .any all Q' fuel' (listed.setIfInBounds i true) a' w' else S w'.heap∧pY P all Q' (λw=>S w.heap) (λj=>fs.contains j) fuel' (listed.setIfInBounds i true) a' w') a w)
 | .nil,root,fs,S,listed,ρ,a,w,fuel,hp,hf,hcl,hr,hρ,hs,hS,h,hQ=>by
  simp only[nU,dh]at hp;refine⟨λ_=>Sm (by simpa using hp.2) (hQ _ _ _ ⟨ρ,hr,hρ,hs,h⟩) fuel,λh0=>?_⟩;rw[h0]at hp;cases hp.1
 | .alt x y,root,fs,S,listed,ρ,a,w,fuel,hp,hf,hcl,hr,hρ,hs,hS,h,hQ=>by
  simp only[nU,dh]at hp;obtain⟨hp0,hp1,hp2⟩:=hp;rw[Yq]at h;have hfx:xB x≤fuel:=bh (Nat.le_max_left _ _) hf;have hfy:xB y≤fuel:=bh (Nat.le_max_right _ _) hf;have key:∀gs:List Nat,nU P all x false gs listed=true→nU P all y false gs listed=true→(∀k,(ia x++ia y).contains k=true→gs.contains k=true)→∀i∈Region.ready .any all listed,i∈vD (.alt x y)→∃fuel',fuel=fuel'+1∧
    wpOp P all Q' i (λa' w'=>if gs.contains i=true then wpAny P .any all Q' fuel' (listed.setIfInBounds i true) a' w' else S w'.heap∧pY P all Q' (λw=>S w.heap) (λj=>gs.contains j) fuel' (listed.setIfInBounds i true) a' w') a w:=by
   intro gs g1 g2 g3 i hi hih;rcases gS.1 hih with hih|hih
   ·exact(jL hns hok hQp x false gs S listed ρ a w fuel g1 hfx hcl hr hρ hs hS h.1 hQ).2 rfl (λk hk=>g3 k (by simp at hk ⊢;exact .inl hk)) i hi hih
   ·exact(jL hns hok hQp y false gs S listed ρ a w fuel g2 hfy hcl hr hρ hs hS h.2 hQ).2 rfl (λk hk=>g3 k (by simp at hk ⊢;exact .inr hk)) i hi hih
  refine⟨λh0=>?_,λh0 hk=>?_⟩
  ·subst h0;simp only[sS]at hp0 hp1 hp2;have k2:=key _ hp1 hp2 (λk hk=>hk);have hne:=Eb x _ hp1;cases fuel with
   |zero=>
    obtain⟨i,hi⟩:=List.exists_mem_of_ne_nil _ hne;have:=CX.1 hp0 i hi;obtain⟨fuel',h1,_⟩:=k2 i hi (by simpa[vD]using this);cases h1
   | succ fuel=>
    refine⟨λhnone=>absurd hnone hne,λi hi=>?_⟩
    ·have hih:=CX.1 hp0 i hi;obtain⟨fuel',h1,h2⟩:=k2 i hi (by simpa[vD]using hih);cases h1;exact h2
  ·subst h0;simp only[xz]at hp1 hp2;exact key fs hp1 hp2 (λk hk'=>hk k hk')
 | .op i q plan,root,fs,S,listed,ρ,a,w,fuel,hp,hf,hcl,hr,hρ,hs,hS,h,hQ=>by
  obtain⟨fuel,rfl⟩:∃f,fuel=f+1:=⟨fuel-1,by simp only[xB]at hf;omega⟩
  have hf':xB plan≤fuel:=by simp only[xB]at hf;omega
  simp only[nU,dh]at hp;obtain⟨hp1,hp2⟩:=hp;rw[VF]at h;cases hi:all[i]? with
  |none=>simp[hi]at h
  | some o=>
   simp only[hi]at h;have hd:=XB (o:=o) all.toList i hok (by simpa using hi);have hρ':∀v t,yX t (all.toList.filterMap (·.dst))=false→up ρ o.dst v t=ρ0 t:=by
    intro v t ht;rw[←hρ t ht];cases hdst:o.dst with
    |none=>rfl
    | some d=>
     simp only[up];cases hb:Nat.beq t d with
     |false=>rfl
     |true=>
      have htd:=zt hb;subst htd;rw[JF (List.mem_filterMap.2 ⟨o,zk (i:=i) (by simpa using hi),hdst⟩)]at ht;cases ht
   cases q with
   | r =>
    simp only[dh]at hp1;obtain⟨hroot,⟨hfree,hready⟩,hnext⟩:=hp1;refine⟨λ_=>?_,λh0=>by rw[hroot]at h0;cases h0⟩;have hin:i∈Region.ready .any all listed:=by simpa using hready
    simp only at h;have hall:∀k,(ia plan).contains k=true→¬k=i∧(UN P all i=true∨YV all k i=true):=by
     intro k hk;have:=CX.1 hnext k (by simpa using hk);simpa using this
    have hFi:(ia plan).contains i=false:=by
     rw[Hp];intro hc;exact(hall i hc).1 rfl
    cases hl:BP P o.op with
    |false=>
     simp only[hl]at h;obtain⟨v,hv,hK⟩:=h;have ih:=(jL hns hok hQp plan true [] S _ _ _ w fuel hp2 hf' (hcl.step hin) (hr.put hd v) (hρ' v) hs hS hK hQ).1 rfl;refine Qc (F:=λj=>(ia plan).contains j) hi (Region.noSelect_spec hns) (λc a w hq=>absurd hq (hQp _ _ _)) hFi ?_ fuel listed a w (Region.free_spec hi hfree) hcl hin (Jn hr hS hv) hS ih;intro k hk;rcases(hall k hk).2 with h1|h1
     ·simp[UN,hi,hl]at h1
     ·exact S6 h1
    | true=>
     simp only[hl]at h;have h:=YH h;cases hg:roG P all ρ o w.heap with
     |none=>rw[hg]at h;exact h.elim
     | some r=>
      rw[hg]at h;simp only[vK]at h;split at h
      ·rename_i v;have ih:=(jL hns hok hQp plan true [] S _ _ _ w fuel hp2 hf' (hcl.step hin) (hr.put hd v) (hρ' v) hs hS h hQ).1 rfl;have hyI:=Jn (all:=all) (S:=λ_=>True) (v:=v) (h0:=w.heap) hr trivial (λh' _=>by rw[Qm hl h' w.heap,hg]);have hy:Yields P all o v a:=hyI.imp (λ⟨g1,g2⟩=>⟨g1,λw=>g2 w trivial⟩) id;exact NQ (F:=λj=>(ia plan).contains j) hi (Region.noSelect_spec hns) (λc a w hq=>absurd hq (hQp _ _ _)) hFi fuel listed a w (Region.free_spec hi hfree) hin hy hS ih
      ·exact h.elim
   | e=>
    simp only[dh,K4]at hp1;obtain⟨hready,hnext⟩:=hp1;have step:∀gs:List Nat,gs.contains i=false→(∀k,(ia plan).contains k=true→gs.contains k=true)→i∈Region.ready .any all listed→
      wpOp P all Q' i (λa' w'=>if gs.contains i=true then wpAny P .any all Q' fuel (listed.setIfInBounds i true) a' w' else S w'.heap∧pY P all Q' (λw=>S w.heap) (λj=>gs.contains j) fuel (listed.setIfInBounds i true) a' w') a w:=by
     intro gs hg hsub hin;refine AI hi hr h λv w' hs' hK=>?_
     refine Eq.mpr (az (by rw[hg];exact Bool.false_ne_true)) ?_;exact⟨hK.1,Jo hsub _ _ _ _ ((jL hns hok hQp plan true [] S _ _ _ w' fuel hp2 hf' (hcl.step hin) (hr.put hd v) (hρ' v) (hs.trans hs') hK.1 hK.2 hQ).1 rfl)⟩
    refine⟨λh0=>?_,λh0 hsub j hj hjh=>?_⟩
    ·subst h0;simp only[sS]at hready hnext;have hready:Region.ready .any all listed=[i]:=by simpa using hready
     refine⟨λh0=>(by rw[h0]at hready;cases hready),λj hj=>?_⟩;obtain rfl:j=i:=by rw[hready]at hj;simpa using hj
     exact step (ia plan) hnext (λk hk=>hk) hj
    ·subst h0;obtain rfl:j=i:=by simpa[vD]using hjh
     simp only[xz]at hnext;exact⟨fuel,rfl,step fs hnext hsub hj⟩
   | f=>
    have step:i∈Region.ready .any all listed→wpOp P all Q' i (λa' w'=>wpAny P .any all Q' fuel (listed.setIfInBounds i true) a' w') a w:=by
     intro hin;refine AI hi hr h λv w' hs' hK=>?_
     obtain⟨S',hS',hK⟩:=hK;exact uK _ _ _ _ ((jL hns hok hQp plan true [] S' _ _ _ w' fuel hp2 hf' (hcl.step hin) (hr.put hd v) (hρ' v) (hs.trans hs') hS' hK hQ).1 rfl)
    refine⟨λh0=>?_,λh0 hsub j hj hjh=>?_⟩
    ·subst h0;have hready:Region.ready .any all listed=[i]:=by simpa using hp1
     refine⟨λh0=>(by rw[h0]at hready;cases hready),λj hj=>?_⟩;obtain rfl:j=i:=by rw[hready]at hj;simpa using hj
     exact w7 (λa' w' h'=>Eq.mpr (aA (by simp[ia])) h') (step hj)
    ·obtain rfl:j=i:=by simpa[vD]using hjh
     exact⟨fuel,rfl,w7 (λa' w' h'=>Eq.mpr (aA (hsub j (by simp[ia]))) h') (step hj)⟩
   | n=>
    have step:i∈Region.ready .any all listed→wpOp P all Q' i (λa' w'=>wpAny P .any all Q' fuel (listed.setIfInBounds i true) a' w') a w:=by
     intro hin;refine AI hi hr h λv w' hs' hK=>?_
     exact uK _ _ _ _ ((jL hns hok hQp plan true [] (λ_=>True) _ _ _ w' fuel hp2 hf' (hcl.step hin) (hr.put hd v) (hρ' v) (hs.trans hs') trivial hK hQ).1 rfl)
    refine⟨λh0=>?_,λh0 hsub j hj hjh=>?_⟩
    ·subst h0;have hready:Region.ready .any all listed=[i]:=by simpa using hp1
     refine⟨λh0=>(by rw[h0]at hready;cases hready),λj hj=>?_⟩;obtain rfl:j=i:=by rw[hready]at hj;simpa using hj
     exact w7 (λa' w' h'=>Eq.mpr (aA (by simp[ia])) h') (step hj)
    ·obtain rfl:j=i:=by simpa[vD]using hjh
     exact⟨fuel,rfl,w7 (λa' w' h'=>Eq.mpr (aA (hsub j (by simp[ia]))) h') (step hj)⟩
theorem wh {ws:Nat}:∀{l:List Nat},Cy ws l=true→∀{t:Nat},pT ws t=false→yX t l=false
 | [],_,_,_=>rfl
 | c::l,h,t,ht=>by
  simp only[Cy,dh]at h;simp only[yX];cases hb:Nat.beq t c with
  |true=>
   have:=zt hb;subst this;rw[h.1]at ht;cases ht
  |false=>exact wh h.2 ht
theorem Fa {ρ ρ':Env}{ws:Nat}{cs:List Nat}(h:∀t,pT ws t=false→ρ' t=ρ t):MW ρ ρ' ws cs (cs.map ρ')=ρ':=by
 funext t
 have key:∀(cs:List Nat) (k:Nat),match Pg t k cs with|some i=>k≤i∧cs[i-k]? =some t|none=>True:=by
  intro cs;induction cs with
  |nil=>intro k;simp[Pg]
  | cons c cs ih=>
   intro k;simp only[Pg];cases hb:Nat.beq t c with
   |true=>have:=zt hb;subst this;simp
   | false=>
    simp only[xz];have:=ih (k+1);split
    ·rename_i i hi;rw[hi]at this;refine⟨by omega,?_⟩;rw[show i-k=(i-(k+1))+1 from by omega];simpa using this.2
    ·trivial
 have k0:=key cs 0;unfold MW;cases hp:Pg t 0 cs with
 |some i=>
  rw[hp]at k0;simp only;have:cs[i]? =some t:=by simpa using k0.2
  unfold ix;rw[dQ,w6,this];rfl
 |none=>
  simp only;cases hm:pT ws t with
  |true=>rfl
  |false=>exact(h t hm).symm
theorem Uk [kY P](hm:P.follows .mixedOrders=true):∀(c:Code) (an:Ann) (ρ:Env) (a:Act) (w:World) (Q:Ex→Env→ah→Prop),gB P n c an=true→Rel n a ρ→P6 P c an ρ w.heap Q→
  c.wp P (Ii n ρ (gO c) w Q) a w:=by
 intro c;induction c with
 |skip=>intro an ρ a w Q _ hr h;exact wp_skip ⟨ρ,hr,λ_ _=>rfl,dD.refl w,h⟩
 |exit id=>intro an ρ a w Q _ hr h;exact wp_exit ⟨ρ,hr,λ_ _=>rfl,dD.refl w,h⟩
 |ret=>intro an ρ a w Q _ hr h;exact wp_ret ⟨ρ,hr,λ_ _=>rfl,dD.refl w,h⟩
 | region id ops draw=>
  intro an ρ a w Q hok hr h;have hops:Ec n ops.toList=true:=by simp only[gB,dh]at hok;exact hok.1
  have seqCase:zag P ops ops.toList ρ w.heap (Q .nx)→(Code.region id ops false).wp P (Ii n ρ (gO (.region id ops false)) w Q) a w:=by
   intro h;refine wp_region ?_;have:=NB (Q:=Q) (Q':=Ii n ρ (ops.toList.filterMap (·.dst)) w Q) ops.toList 0 ρ a w (by simp) hops hr h (λ_ _ _ h=>h);rw[RN];have e:wpOps P ops (Ii n ρ (ops.toList.filterMap (·.dst)) w Q) (List.range' 0 ops.size) a w:=by simpa using this
   exact e
  have roCase:Region.lexB .any ops=true→Xc P ops ops.toList ρ w.heap (Q .nx)→(Code.region id ops true).wp P (Ii n ρ (gO (.region id ops true)) w Q) a w:=by
   intro hl h;refine wp_region_quiet (C:=λw'=>dD w w'∧w'.heap=w.heap) hm hl ⟨LB w,rfl⟩ ?_;refine JW (C:=λw'=>dD w w'∧w'.heap=w.heap) (λw' h=>h.2) ops.toList ρ a hops hr h λa' ρ2 g1 g2 g3 w' hw'=>?_
   exact⟨ρ2,g1,g2,hw'.1,by simp only[hw'.2];exact g3⟩
  have other:(∀plan,an≠ .d plan)→(Code.region id ops draw).wp P (Ii n ρ (gO (.region id ops draw)) w Q) a w:=by
   intro hne;cases draw with
   |false=>cases an<;>first|exact absurd rfl (hne _)|exact seqCase h
   |true=>cases an<;>first|exact absurd rfl (hne _)|exact roCase (by simp only[gB,dh]at hok;exact hok.2) h
  by_cases hd:∃plan,an=.d plan
  ·obtain⟨plan,rfl⟩:=hd;simp only[gB,dh]at hok;obtain⟨_,⟨⟨h1,h2⟩,h3⟩,h4⟩:=hok;subst h1;obtain⟨S,hS,h⟩:=h;refine wp_region_any hm ?_;have:=jL (P:=P) (Q:=Q) (Q':=Ii n ρ (ops.toList.filterMap (·.dst)) w Q) (ρ0:=ρ) (w0:=w) h2 hops (λc a w hq=>by obtain⟨_,_,_,_,hf⟩:=hq;exact hf)
    plan true [] S (Array.replicate ops.size false) ρ a {w with drawn:=w.drawn+1} ops.size h4 (Nat.le_of_ble_eq_true h3) (λk o hk hl=>by simp[Wv]at hl;split at hl<;>simp at hl) hr (λ_ _=>rfl) (LB w) hS h (λ_ _ _ h=>h)
   exact uK _ _ _ _ (this.1 rfl)
  ·exact other (λplan he=>hd ⟨plan,he⟩)
 | seq x y ihx ihy=>
  intro an ρ a w Q hok hr h;have lift:∀{ρ1:Env} {w1:World} (_:∀t,yX t (gO x)=false→ρ1 t=ρ t) (_:dD w w1) (e:Exit) (a2:Act) (w2:World),Ii n ρ1 (gO y) w1 Q e a2 w2→Ii n ρ (gO (.seq x y)) w Q e a2 w2:=by
   intro ρ1 w1 h1 h2 e a2 w2 ⟨ρ2,g1,g2,g3,g4⟩;refine⟨ρ2,g1,λt ht=>?_,h2.trans g3,g4⟩;simp only[gO,rT,KY]at ht;rw[g2 t ht.2,h1 t ht.1]
  have liftx:∀(e:Exit) (a2:Act) (w2:World),Ii n ρ (gO x) w Q e a2 w2→Ii n ρ (gO (.seq x y)) w Q e a2 w2:=by
   intro e a2 w2 ⟨ρ2,g1,g2,g3,g4⟩;refine⟨ρ2,g1,λt ht=>?_,g3,g4⟩;simp only[gO,rT,KY]at ht;exact g2 t ht.1
  cases an with
  |s p q=>
   simp only[gB,dh]at hok;refine wp_seq (xu (ihx p ρ a w _ hok.1 hr h) ?_);intro e a1 w1 ⟨ρ1,g1,g2,g3,g4⟩;cases e with
   |normal=>exact xu (ihy q ρ1 a1 w1 Q hok.2 g1 g4) (lift g2 g3)
   |exit id=>exact liftx (.exit id) a1 w1 ⟨ρ1,g1,g2,g3,g4⟩
   |ret=>exact liftx .ret a1 w1 ⟨ρ1,g1,g2,g3,g4⟩
   |_=>exact g4.elim
  | j ws cs p q=>
   simp only[gB,dh]at hok;obtain⟨hws,hok⟩:=hok;obtain⟨J,h1,h2⟩:=h;refine wp_seq (xu (ihx p ρ a w _ hok.1 hr h1) ?_);intro e a1 w1 ⟨ρ1,g1,g2,g3,g4⟩;cases e with
   |normal=>
    have this:P6 P y q (MW ρ ρ1 ws cs (cs.map ρ1)) w1.heap Q:=h2 (cs.map ρ1) ρ1 w1.heap g4;rw[Fa (λt ht=>g2 t (wh hws ht))]at this;exact xu (ihy q ρ1 a1 w1 Q hok.2 g1 this) (lift g2 g3)
   |exit id=>exact liftx (.exit id) a1 w1 ⟨ρ1,g1,g2,g3,g4⟩
   |ret=>exact liftx .ret a1 w1 ⟨ρ1,g1,g2,g3,g4⟩
   |_=>exact g4.elim
  |_=>simp[gB]at hok
 | cond c x y ihx ihy=>
  intro an ρ a w Q hok hr h;cases an with
  | s p q=>
   simp only[gB,dh]at hok;have h:aF (ev ρ c) (P6 P x p ρ w.heap Q) (P6 P y q ρ w.heap Q):=h;unfold aF at h;split at h
   ·rename_i b hb;refine wp_cond (t:=b) (by rw[hr.eval];exact hb) ?_;cases b with
    |true=>
     refine xu (ihx p ρ a w Q hok.1 hr h) ?_;intro e a2 w2 ⟨ρ2,g1,g2,g3,g4⟩;refine⟨ρ2,g1,λt ht=>?_,g3,g4⟩;simp only[gO,rT,KY]at ht;exact g2 t ht.1
    |false=>
     refine xu (ihy q ρ a w Q hok.2 hr h) ?_;intro e a2 w2 ⟨ρ2,g1,g2,g3,g4⟩;refine⟨ρ2,g1,λt ht=>?_,g3,g4⟩;simp only[gO,rT,KY]at ht;exact g2 t ht.2
   ·exact h.elim
  |_=>simp[gB]at hok
 | block id x ih=>
  intro an ρ a w Q hok hr h;have plain:∀an',gB P n x an'=true→P6 P x an' ρ w.heap (λe ρ h=>match e with
   | .nx=>Q .nx ρ h
   | .br n=>bif Nat.beq n id then Q .nx ρ h else Q (.br n) ρ h
   | .rt=>Q .rt ρ h)→(Code.block id x).wp P (Ii n ρ (gO (.block id x)) w Q) a w:=by
   intro an' hok h;refine wp_block (xu (ih an' ρ a w _ hok hr h) ?_);intro e a1 w1 ⟨ρ1,g1,g2,g3,g4⟩;cases e with
   |normal=>exact⟨ρ1,g1,g2,g3,g4⟩
   | exit id'=>
    simp only[Exit.inBlock];simp only at g4;by_cases hid:id'=id
    ·subst hid;rw[aA rfl];simp only[Nat.beq_refl]at g4;exact⟨ρ1,g1,g2,g3,g4⟩
    ·rw[az hid];have hb:Nat.beq id' id=false:=by rw[Hp];intro hb;exact hid (zt hb)
     simp only[hb]at g4;exact⟨ρ1,g1,g2,g3,g4⟩
   |ret=>exact⟨ρ1,g1,g2,g3,g4⟩
   |_=>exact g4.elim
  cases an with
  | m ws cs p=>
   simp only[gB,dh]at hok;obtain⟨hws,hok⟩:=hok;obtain⟨J,h1,h2⟩:=h;refine wp_block (xu (ih p ρ a w _ hok hr h1) ?_);intro e a1 w1 ⟨ρ1,g1,g2,g3,g4⟩;have meet:J (cs.map ρ1) w1.heap→Q .nx ρ1 w1.heap:=by
    intro hJ;have this:Q .nx (MW ρ ρ1 ws cs (cs.map ρ1)) w1.heap:=h2 (cs.map ρ1) ρ1 w1.heap hJ
    rwa [Fa (λt ht=>g2 t (wh hws ht))]at this
   cases e with
   |normal=>exact⟨ρ1,g1,g2,g3,meet g4⟩
   | exit id'=>
    simp only[Exit.inBlock];simp only at g4;by_cases hid:id'=id
    ·subst hid;rw[aA rfl];simp only[Nat.beq_refl]at g4;exact⟨ρ1,g1,g2,g3,meet g4⟩
    ·rw[az hid];have hb:Nat.beq id' id=false:=by rw[Hp];intro hb;exact hid (zt hb)
     simp only[hb]at g4;exact⟨ρ1,g1,g2,g3,g4⟩
   |ret=>exact⟨ρ1,g1,g2,g3,g4⟩
   |_=>exact g4.elim
  |_=>exact plain _ hok h
 | loop x ih=>
  intro an ρ a w Q hok hr h;cases an with
  | l ws cs p=>
   simp only[gB,dh]at hok;obtain⟨hws,hok⟩:=hok;obtain⟨I,m,h0,h1⟩:=h
   let val:Act→Nat→Value:=λa t=>a.tmps.getD t undef
   refine wp_loop (λa' w'=>Rel n a' (val a')∧(∀t,yX t (gO x)=false→val a' t=ρ t)∧dD w w'∧I (cs.map (val a')) w'.heap) (λa' w'=>m (cs.map (val a')) w'.heap) ?_ ?_
   ·have e:val a=ρ:=funext hr.2.2;rw[e];exact⟨hr,λ_ _=>rfl,dD.refl w,h0⟩
   ·intro a' w' ⟨i1,i2,i3,i4⟩;have hb:=h1 (cs.map (val a')) (val a') w'.heap i4;simp only at hb;rw[Fa (λt ht=>i2 t (wh hws ht))]at hb;refine xu (ih p (val a') a' w' _ hok i1 hb) ?_;intro e a2 w2 ⟨ρ2,g1,g2,g3,g4⟩;have e2:val a2=ρ2:=funext g1.2.2;cases e with
    |normal=>
     simp only[Exit.then];rw[e2];exact⟨⟨g1,λt ht=>by rw[g2 t ht,i2 t ht],i3.trans g3,g4.1⟩,g4.2⟩
    |exit id=>exact⟨ρ2,g1,λt ht=>by rw[g2 t ht,i2 t ht],i3.trans g3,g4⟩
    |ret=>exact⟨ρ2,g1,λt ht=>by rw[g2 t ht,i2 t ht],i3.trans g3,g4⟩
    |_=>exact g4.elim
  |_=>simp[gB]at hok
 |_=>intro an ρ a w Q hok hr h;simp[gB]at hok
end
noncomputable def J0 (P:Program)(rs:List ResultVar):List Value→Env→ah→(Value→ah→Prop)→Prop:=
 List.rec (motive:=λ_=>List Value→Env→ah→(Value→ah→Prop)→Prop)
  (λacc _ h R=>R (match acc with| [v]=>v|l=>.tuple l.reverse.toArray) h)
  (λr _ ih acc ρ h R=>match r with
   | .tmp t=>ih (ρ t::acc) ρ h R
   | .cell a t=>match z8 P t with
    |some false=>vK (ldV h (ρ a)) λv=>ih (v::acc) ρ h R
    |some true=>match fb P t with
     |some n=>vK (aO n h (ρ a)) λv=>ih (v::acc) ρ h R
     |none=>False
    |none=>False) rs
theorem YJ {P:Program}{acc:List Value}{ρ:Env}{h:ah}{R:Value→ah→Prop}:J0 P [] acc ρ h R=R (match acc with| [v]=>v|l=>.tuple l.reverse.toArray) h:=rfl
theorem YI {P:Program}{t:Tmp}{rs:List ResultVar}{acc:List Value}{ρ:Env}{h:ah}{R:Value→ah→Prop}:J0 P (.tmp t::rs) acc ρ h R=J0 P rs (ρ t::acc) ρ h R:=rfl
theorem Xx {P:Program}{a:Tmp}{t:TypeId}{rs:List ResultVar}{acc:List Value}{ρ:Env}{h:ah}{R:Value→ah→Prop}:J0 P (.cell a t::rs) acc ρ h R=match z8 P t with
  |some false=>vK (ldV h (ρ a)) λv=>J0 P rs (v::acc) ρ h R
  |some true=>match fb P t with
   |some n=>vK (aO n h (ρ a)) λv=>J0 P rs (v::acc) ρ h R
   |none=>False
  |none=>False:=rfl
def ZA (args:List Value):Env:=λt=>args.getD t undef
noncomputable def zb7 (P:Program)(c:Code)(an:Ann)(rs:List ResultVar)(args:List Value)(h:ah)(R:Value→ah→Prop):Prop:=
 P6 P c an (ZA args) h λe ρ h=>match e with
  | .nx=>J0 P rs [] ρ h R
  | .rt=>J0 P rs [] ρ h R
  | .br _=>False
theorem Bq {P:Program} {w:World} {R:Value→ah→Prop} {tmps:Array Value}:∀(rs:List ResultVar) (acc:List Value),J0 P rs acc (λt=>tmps.getD t undef) w.heap R→
  ∃l,(rs.mapM (λ| .tmp t=>pure (tmps.getD t undef)| .cell a t=>do loadVar t (←asAddr (tmps.getD a undef)):ResultVar→Sem Value)).run P w=.ok l w∧R (match l.reverse++acc with| [v]=>v|l=>.tuple l.reverse.toArray) w.heap
 | [],acc,h=>⟨[],rfl,by rw[YJ]at h;simpa using h⟩
 | .tmp t::rs,acc,h=>by
  rw[YI]at h;obtain⟨l,h1,h2⟩:=Bq rs (tmps.getD t undef::acc) h;refine⟨tmps.getD t undef::l,?_,by simpa using h2⟩;simp only[Hq,bR,cN,bK,h1]
 | .cell a t::rs,acc,h=>by
  rw[Xx]at h;cases hta:z8 P t with
  |none=>simp[hta]at h
  | some b=>
   simp only[hta]at h;have key:∀v,(∃ad,tmps.getD a undef=.pointer (some ad)∧(loadVar t ad).run P w=.ok v w)→J0 P rs (v::acc) (λt=>tmps.getD t undef) w.heap R→∃l,((ResultVar.cell a t::rs).mapM (λ| .tmp t=>pure (tmps.getD t undef)| .cell a t=>do loadVar t (←asAddr (tmps.getD a undef)):ResultVar→Sem Value)).run P w=.ok l w∧R (match l.reverse++acc with| [v]=>v|l=>.tuple l.reverse.toArray) w.heap:=by
    intro v ⟨ad,hp,hl⟩ h;obtain⟨l,h1,h2⟩:=Bq rs (v::acc) h;refine⟨v::l,?_,by simpa using h2⟩;have has:(asAddr (tmps.getD a undef)).run P w=.ok ad w:=by rw[hp];rfl
    simp only[Hq,bR,cN,bK,has,hl,h1]
   cases b with
   | false=>
    simp only at h;unfold vK at h;split at h
    ·rename_i v hv;refine key v ?_ h;unfold ldV at hv;split at hv
     ·rename_i ad hp;exact⟨ad,hp,As hta hv⟩
     ·cases hv
    ·exact h.elim
   | true=>
    simp only at h;cases hs:fb P t with
    |none=>simp[hs]at h
    | some n=>
     simp only[hs]at h;unfold vK at h;split at h
     ·rename_i v hv;refine key v ?_ h;unfold aO at hv;split at hv
      ·rename_i ad hp;cases hl:eJ w.heap ad 0 n with
       |none=>simp[hl]at hv
       |some l=>
        simp only[hl,cI,cE]at hv;subst hv;exact⟨ad,hp,Au hta hs hl⟩
      ·cases hv
     ·exact h.elim
theorem UI {P:Program}{ρ:Env}{w:World}{R:Value→ah→Prop}{fn:Func}{tmps:Array Value}(ht:∀t,tmps.getD t undef=ρ t)(h:J0 P fn.results.toList [] ρ w.heap R):
  ∃v,(results fn tmps).run P w=.ok v w∧R v w.heap:=by
 obtain rfl:ρ=λt=>tmps.getD t undef:=funext λt=>(ht t).symm
 obtain⟨l,h1,h2⟩:=Bq _ [] h;have e:(fn.results.mapM (λ| .tmp t=>pure (tmps.getD t undef)| .cell a t=>do loadVar t (←asAddr (tmps.getD a undef)):ResultVar→Sem Value)).run P w=.ok l.toArray w:=by
  rw[Wx,K3,h1];rfl
 have hres:results fn tmps=(do
  let vs←fn.results.mapM (λ| .tmp t=>pure (tmps.getD t undef)| .cell a t=>do loadVar t (←asAddr (tmps.getD a undef)):ResultVar→Sem Value)
  pure (if h:vs.size=1 then vs[0]else .tuple vs)):=rfl
 rw[hres];simp only[bR];rw[e];simp only[bK,cN];refine⟨_,rfl,?_⟩;cases l with
 |nil=>simpa using h2
 | cons v l=>
  cases l with
  |nil=>simpa using h2
  | cons u l=>
   have:¬((v::u::l).toArray.size=1):=by simp
   rw[dif_neg this];simp only[gR]at h2;split at h2
   ·rename_i hh;have:=congrArg List.length hh;simp at this
   ·simpa using h2
theorem Zz {P:Program}[kY P](hm:P.follows .mixedOrders=true){f:FuncId}{fn:Func}{c:Code}{an:Ann}(hf:P.funcs[f]? =some fn)(hb:fn.body=some c)(hc:rO P f=true)
  (hok:gB P fn.ntmps c an=true) {args:Array Value} (ha:Nat.ble args.size fn.ntmps=true) {h:ah} {R:Value→ah→Prop} (H:zb7 P c an fn.results.toList args.toList h R):ag P f args h R:=by
 refine ag.ofCalls hc λw hw=>?_
 subst hw;have ha':args.size≤fn.ntmps:=by simpa using ha
 have hr:Rel fn.ntmps {tmps:=args++Array.replicate (fn.ntmps-args.size) undef,defers:=[]} (ZA args.toList):=by
  refine⟨by simp;omega,rfl,λt=>?_⟩;simp only[ZA,RR,dQ,Array.getElem?_append,um];split
  ·rfl
  ·rw[Wv,zo (by omega)];split<;>rfl
 refine calls_of_wp hf hb (xu (Uk hm c an _ _ w _ hok hr H) ?_);intro e a' w' ⟨ρ2,g1,_,g3,g4⟩;have fin:J0 P fn.results.toList [] ρ2 w'.heap R→a'.defers=[]∧∃v,(results fn a'.tmps).run P w'=.ok v w'∧∃u,Ending.returned v=.returned u∧dD w w'∧R u w'.heap:=by
  intro hret;obtain⟨v,h1,h2⟩:=UI g1.2.2 hret;exact⟨g1.2.1,v,h1,v,rfl,g3,h2⟩
 cases e with
 |normal=>exact fin g4
 |ret=>exact fin g4
 |exit id=>exact g4.elim
 |_=>exact g4.elim
def fkB (P:Program)(f:FuncId)(fn:Func)(an:Ann)(n:Nat):Bool:=P.follows .mixedOrders&&(fn.body.isSome&&(rO P f&&(gB P fn.ntmps (fn.body.getD .skip) an&&Nat.ble n fn.ntmps)))
theorem fk {P:Program}[kY P](fn:Func)(an:Ann){f:FuncId}{args:Array Value}{h:ah}{R:Value→ah→Prop}{X:Prop}(H:X)
  (hf:P.funcs[f]? =some fn:=by kernel_rfl) (hb:fkB P f fn an args.size=true:=by kernel_rfl) (e:X=zb7 P (fn.body.getD .skip) an fn.results.toList args.toList h R:=by kernel_rfl):ag P f args h R:=by
 unfold fkB at hb;simp only[dh]at hb;obtain⟨h1,h2,h3,h4,h5⟩:=hb;obtain⟨c,hc⟩:=Option.isSome_iff_exists.1 h2;rw[hc,Option.getD_some]at h4 e;exact Zz h1 hf hc h3 h4 h5 (e.mp H)
end
end Go.Crisp
namespace Go.Crisp
open Go
theorem aj (v:Value)(K:Value→Prop):vK (some v) K=K v:=cR rfl rfl
theorem Le (r:Option (Array Value))(c:Array Value)(h:r=some c)(K:Value→Prop):vK (r.map .agg) K=K (.agg c):=by rw[h];rfl
theorem iI (x y:Prop):aF (.bool true) x y=x:=cR rfl rfl
theorem cK (x y:Prop):aF (.bool false) x y=y:=cR rfl rfl
theorem jU {b:Bool}{x y:Prop}(h1:b=true→x)(A:b=false→y):aF (.bool b) x y:=by
 cases b
 ·exact A rfl
 ·exact h1 rfl
theorem ao {p:Prop}[Decidable p]{x y:Prop}(h1:p→x)(A:¬p→y):aF (.bool (decide p)) x y:=
 jU (λh=>h1 (CU h)) (λh=>A (of_decide_eq_false h))
theorem gv (r:Option Value):gV (.bool true) true r=r:=cR rfl rfl
theorem jz (r:Option Value):gV (.bool false) false r=r:=cR rfl rfl
theorem gV_tf (r:Option Value):gV (.bool true) false r=some undef:=cR rfl rfl
theorem gV_ft (r:Option Value):gV (.bool false) true r=some undef:=cR rfl rfl
theorem zct (w:Bool)(r:Option Value):gV undef w r=some undef:=cR rfl rfl
theorem RZ (m:(Value→ah→Prop)→Prop)(h:ah)(K:Value→ah→Prop):gK (.bool true) true m h K=m K:=cR rfl rfl
theorem TG (m:(Value→ah→Prop)→Prop)(h:ah)(K:Value→ah→Prop):gK (.bool false) false m h K=m K:=cR rfl rfl
theorem gK_tf (m:(Value→ah→Prop)→Prop)(h:ah)(K:Value→ah→Prop):gK (.bool true) false m h K=K undef h:=cR rfl rfl
theorem gK_ft (m:(Value→ah→Prop)→Prop)(h:ah)(K:Value→ah→Prop):gK (.bool false) true m h K=K undef h:=cR rfl rfl
theorem zcz (w:Bool)(m:(Value→ah→Prop)→Prop)(h:ah)(K:Value→ah→Prop):gK undef w m h K=K undef h:=cR rfl rfl
theorem qe (x y:Value):aE (.bool true) x y=some x:=cR rfl rfl
theorem rK (x y:Value):aE (.bool false) x y=some y:=cR rfl rfl
theorem gX (a:Value)(l:List Value):ix (a::l) 0=a:=cR rfl rfl
theorem vC (a b:Value)(l:List Value):ix (a::b::l) 1=b:=cR rfl rfl
theorem za1 (a b c:Value)(l:List Value):ix (a::b::c::l) 2=c:=cR rfl rfl
theorem zcr (a b c d:Value)(l:List Value):ix (a::b::c::d::l) 3=d:=cR rfl rfl
theorem ix_4 (a b c d e:Value)(l:List Value):ix (a::b::c::d::e::l) 4=e:=cR rfl rfl
theorem ix_5 (a b c d e f:Value)(l:List Value):ix (a::b::c::d::e::f::l) 5=f:=cR rfl rfl
theorem du (e:EK)(k:IntKind)(a b:Int):ak e .add (.int k a) (.int k b)=some (.int k (k.wrap (a+b))):=by simp[ak,HI]
theorem ig (e:EK)(k:IntKind)(a b:Int):ak e .sub (.int k a) (.int k b)=some (.int k (k.wrap (a-b))):=by simp[ak,HI]
theorem ms (e:EK)(k:IntKind)(a b:Int):ak e .mul (.int k a) (.int k b)=some (.int k (k.wrap (a*b))):=by simp[ak,HI]
theorem mq (e:EK)(k:IntKind)(a b:Int)(h:b≠0):ak e .quo (.int k a) (.int k b)=some (.int k (k.wrap (a.tdiv b))):=by simp[ak,HI,h]
theorem dP (e:EK)(k:IntKind)(a b:Int)(h:b≠0):ak e .rem (.int k a) (.int k b)=some (.int k (a.tmod b)):=by simp[ak,HI,h]
theorem cq (e:EK)(k:IntKind)(a b:Int):ak e .lss (.int k a) (.int k b)=some (.bool (decide (a<b))):=by simp[ak,HI]
theorem NE (e:EK)(k:IntKind)(a b:Int):ak e .leq (.int k a) (.int k b)=some (.bool (decide (a≤b))):=by simp[ak,HI]
theorem sr (e:EK)(k:IntKind)(a b:Int):ak e .gtr (.int k a) (.int k b)=some (.bool (decide (b<a))):=by simp[ak,HI]
theorem NF (e:EK)(k:IntKind)(a b:Int):ak e .geq (.int k a) (.int k b)=some (.bool (decide (b≤a))):=by simp[ak,HI]
theorem mu (e:EK)(k:IntKind)(a b:Int):ak e .eql (.int k a) (.int k b)=some (.bool (decide (a=b))):=by
 simp[ak,HI];rw[Bool.eq_iff_iff];simp
theorem yz (e:EK)(k:IntKind)(a b:Int):ak e .neq (.int k a) (.int k b)=some (.bool (!decide (a=b))):=by
 simp[ak,HI];rw[Bool.eq_iff_iff];simp
theorem zak (a b:Bool):ak .b .eql (.bool a) (.bool b)=some (.bool (a==b)):=cR rfl rfl
theorem zaj (a b:Bool):ak .b .neq (.bool a) (.bool b)=some (.bool !(a==b)):=cR rfl rfl
theorem VP (b:Bool):unV .not (.bool b)=some (.bool !b):=cR rfl rfl
theorem zax (k:IntKind)(a:Int):unV .neg (.int k a)=some (.int k (k.wrap (0-a))):=cR rfl rfl
theorem BX (k k':IntKind)(a:Int):gd k (.int k' a)=some (.int k (k.wrap a)):=cR rfl rfl
theorem MD (k:IntKind)(a b:Int):jS (.int k a) (.int k b)=some (.int k (max a b)):=by
 simp only[jS,cE,Value.int.injEq,CT];split<;>omega
theorem MA (k:IntKind)(a b:Int):rR (.int k a) (.int k b)=some (.int k (min a b)):=by
 simp only[rR,cE,Value.int.injEq,CT];split<;>omega
theorem w64 {n:Int}(h1: -9223372036854775808≤n)(A:n≤9223372036854775807):IntKind.i64.wrap n=n:=by
 show(if(true&&decide (n%(2^64:Int)≥(2^63:Int)))=true then n%(2^64:Int)-(2^64:Int)else n%(2^64:Int))=n;split
 ·rename_i hh;simp only[Hk,dS]at hh;omega
 ·rename_i hh;simp only[Hk,dS]at hh;omega
theorem wu16 {n:Int}(h1:0≤n)(A:n≤65535):IntKind.u16.wrap n=n:=by
 simp only[IntKind.wrap,IntKind.bits,IntKind.signed];simp;omega
theorem wu64 {n:Int}(h1:0≤n)(A:n≤18446744073709551615):IntKind.u64.wrap n=n:=by
 simp only[IntKind.wrap,IntKind.bits,IntKind.signed];simp;omega
theorem IS (a:Option Addr)(n c:Nat):aD (.slice a n c)=some (af n):=cR rfl rfl
theorem XM (s:ByteArray):IR (.string s)=some (af s.size):=cR rfl rfl
theorem zcF (a:Value)(l:List Value):aL (.tuple ⟨a::l⟩) 0=some a:=cR rfl rfl
theorem zcE (a b:Value)(l:List Value):aL (.tuple ⟨a::b::l⟩) 1=some b:=cR rfl rfl
theorem zcD (a b c:Value)(l:List Value):aL (.tuple ⟨a::b::c::l⟩) 2=some c:=cR rfl rfl
theorem zcC (a b c d:Value)(l:List Value):aL (.tuple ⟨a::b::c::d::l⟩) 3=some d:=cR rfl rfl
theorem Y2 (a:Addr):aR (.pointer (some a))=some (.pointer (some a)):=cR rfl rfl
theorem zcA (b o:Nat):aB 0 (.pointer (some ⟨b,o,none⟩))=some (.pointer (some ⟨b,o,none⟩)):=cR rfl rfl
theorem mG (b o n:Nat):(⟨b,o,none⟩:Addr).add n=⟨b,o+n,none⟩:=by
 unfold Addr.add;split<;>simp_all
theorem TH (n b o:Nat):aB n (.pointer (some ⟨b,o,none⟩))=some (.pointer (some ⟨b,o+n,none⟩)):=by
 show some (Value.pointer (some ((⟨b,o,none⟩:Addr).add n)))=_;rw[mG]
theorem qS (h:ah)(a:Addr):ldV h (.pointer (some a))=aG h a:=cR rfl rfl
theorem rY {s b o len cap:Nat}{k:IntKind}{i:Nat}(hi:i<len):bu s (.slice (some ⟨b,o,none⟩) len cap) (.int k (i:Int))=some (.pointer (some ⟨b,o+i*s,none⟩)):=by
 show(if 0≤(i:Int)∧(i:Int)<(len:Int)then some (Value.pointer (some ((⟨b,o,none⟩:Addr).add ((i:Int).toNat*s))))else none)=_;rw[aA ae,mG,eT]
theorem am {h:ah}{b o:Nat}{c:Array Value}{t:TypeId}{f:Nat×Nat}(A:h[b]? =some (.cells c t f)):aG h ⟨b,o,none⟩=c[o]? :=by
 unfold aG;simp[A]
theorem YP {h:ah}{o:Obj}{b:Nat}(A:b<h.size):(h.push o)[b]? =h[b]? :=by
 rw[Array.getElem?_push,az ae]
theorem rJ {h:ah}{o:Obj}:(h.push o)[h.size]? =some o:=by simp
def Ext (h h':ah):Prop:=h.size≤h'.size∧∀b,b<h.size→h'[b]? =h[b]?
theorem Ext.refl (h:ah):Ext h h:=⟨bU _,λ_ _=>rfl⟩
theorem Ext.trans {a b c:ah}(h:Ext a b)(k:Ext b c):Ext a c:=⟨bh h.1 k.1,λi hi=>(k.2 i (bT hi h.1)).trans (h.2 i hi)⟩
theorem Ext.push (h:ah)(o:Obj):Ext h (h.push o):=⟨by simp,λb A=>YP A⟩
theorem Ext.cell {h h':ah}(e:Ext h h'){a:Addr}{v:Value}(hc:aG h a=some v):aG h' a=some v:=by
 unfold aG at*;rcases oE a.block h.size with A|A
 ·rw[e.2 _ A];exact hc
 ·rw[zo A]at hc;cases hc
theorem YB {r A:Option Value}{K:Value→Prop}(h:r=A):vK r K=vK A K:=by rw[h]
theorem U8 {c c':Value}{x y:Prop}(h:c=c'):aF c x y=aF c' x y:=by rw[h]
theorem Ut {P:Program}{f:FuncId}{args A:Array Value}{h h':ah}{K:Value→ah→Prop}(D:args=A)(hh:h=h'):ag P f args h K=ag P f A h' K:=by rw[D,hh]
theorem Ts {a A:List Value}{h h':ah}{body:List Value→Env→ah→(List Value→ah→Prop)→Prop}(D:a=A)(hh:h=h'):aZ a h body=aZ A h' body:=by rw[D,hh]
theorem Zt {g A:Value}{w:Bool}{m:(Value→ah→Prop)→Prop}{h:ah}{K:Value→ah→Prop}(D:g=A):gK g w m h K=gK A w m h K:=by rw[D]
theorem UY {c c':Array Value}{t:TypeId}{h:ah}{K:Value→ah→Prop}(hc:c=c'):aW c t h K=aW c' t h K:=by rw[hc]
theorem Xr {n:Nat}{x D v A:Value}{h:ah}{K:Value→ah→Prop}(G:x=D)(F:v=A):stK n x v h K=stK n D A h K:=by rw[G,F]
theorem UH {c:Array Value}{e:TypeId}{n:Nat}{l A:List (Nat×Nat×Value)}{h:ah}{K:Value→ah→Prop}(D:l=A):df c e n l h K=df c e n A h K:=by rw[D]
theorem XH {z:Value}{e:TypeId}{s b:Nat}{l A c c':Value}{h:ah}{K:Value→ah→Prop}(D:l=A)(hc:c=c'):mkK z e s b l c h K=mkK z e s b A c' h K:=by rw[D,hc]
theorem VH {z:Value}{e:TypeId}{s b:Nat}{l A c c':Value}{h:ah}{K:Value→ah→Prop}(D:l=A)(hc:c=c'):di z e s b l c h K=di z e s b A c' h K:=by rw[D,hc]
theorem Vn {s:Nat}{l A c c':Value}{h:ah}{K:Value→ah→Prop}(D:l=A)(hc:c=c'):Fi s l c h K=Fi s A c' h K:=by rw[D,hc]
theorem TR {h h':ah}{b:(ah→Prop)→Prop}(hh:h=h'):bJ h b=bJ h' b:=by rw[hh]
theorem YO {S:ah→Prop}{r A:ah→Option Value}{K:Value→Prop}(D:r=A):qK S r K=qK S A K:=by rw[D]
theorem OQ {d:TypeDesc}{m A k k' v D:Value}{h:ah}{K:Value→ah→Prop}(h1:m=A)(F:k=k')(G:v=D):ud d m k v h K=ud d A k' D h K:=by rw[h1,F,G]
theorem OS {d:TypeDesc}{m A k k':Value}{h:ah}{K:Value→ah→Prop}(h1:m=A)(D:k=k'):oA d m k h K=oA d A k' h K:=by rw[h1,D]
attribute [congr] YB U8 Ut Ts Zt UY Xr UH XH VH Vn TR YO OQ OS
theorem aI {c:Array Value}{t:TypeId}{h:ah}{K:Value→ah→Prop}(H:∀b h',h'[b]? =some (.cells c t (0,0))→Ext h h'→h.size≤b→K (.pointer (some ⟨b,0,none⟩)) h'):aW c t h K:=
 H h.size (h.push (.cells c t)) rJ (Ext.push h _) (bU _)
theorem Ext.row {h h':ah}(e:Ext h h'){b:Nat}{o:Obj}(A:h[b]? =some o):h'[b]? =some o:=by
 rw[e.2 b (lY.1 A).1];exact A
theorem bO (c:Array Value):Value.cells (.agg c)=c:=cR rfl rfl
theorem U5 (h:ah)(b o i n:Nat):eJ h ⟨b,o,none⟩ i (n+1)=match aG h ⟨b,o+i,none⟩with
  |some v=>match eJ h ⟨b,o,none⟩ (i+1) n with
   |some l=>some (v::l)
   |none=>none
  |none=>none:=by
 have e:eJ h ⟨b,o,none⟩ i (n+1)=match aG h ((⟨b,o,none⟩:Addr).add i)with
  |some v=>match eJ h ⟨b,o,none⟩ (i+1) n with
   |some l=>some (v::l)
   |none=>none
  |none=>none:=rfl
 rw[e,mG]
theorem Za (n:Nat)(h:ah)(a:Addr):aO n h (.pointer (some a))=(eJ h a 0 n).map λl=>.agg l.toArray:=cR rfl rfl
theorem CI {h:ah}{b o:Nat}:∀(l:List Value) (i:Nat),(∀j (A:j<l.length),aG h ⟨b,o+i+j,none⟩=some l[j])→eJ h ⟨b,o,none⟩ i l.length=some l
 | [],_,_=>rfl
 | v::l,i,H=>by
  rw[oD,U5];have h0:=H 0 (by simp);simp only[iE,CS]at h0;rw[h0];have:=CI l (i+1) λj A=>by
   have:=H (j+1) (by simpa using A);simpa[ul,CR 1 j]using this
  simp only[this]
theorem HC {h:ah}{b o:Nat}(l:List Value)(n:Nat)(A:l.length=n)(H:∀j (D:j<l.length),aG h ⟨b,o+j,none⟩=some l[j]):aO n h (.pointer (some ⟨b,o,none⟩))=some (.agg l.toArray):=by
 subst A;rw[Za,CI l 0 (by simpa using H)];rfl
theorem aU {h:ah}{b:Nat}{l:List Value}{t:TypeId}{f:Nat×Nat}(A:h[b]? =some (.cells l.toArray t f))(n:Nat)(D:l.length=n):aO n h (.pointer (some ⟨b,0,none⟩))=some (.agg l.toArray):=
 HC l n D λj F=>by rw[aK,am A];simp
theorem Ext.loads {h h':ah}(e:Ext h h'){a:Addr}:∀{n i:Nat} {l:List Value},eJ h a i n=some l→eJ h' a i n=some l
 |0,_,_,H=>H
 | n+1,i,l,H=>by
  unfold eJ at H ⊢;cases hc:aG h (a.add i)with
  |none=>simp[hc]at H
  | some v=>
   simp only[hc]at H;rw[e.cell hc];cases A:eJ h a (i+1) n with
   |none=>simp[A]at H
   |some D=>
    simp only[A]at H;simp only[e.loads A];exact H
theorem Ext.lds {h h':ah}(e:Ext h h'){n:Nat}{x v:Value}(H:aO n h x=some v):aO n h' x=some v:=by
 unfold aO at*;split at H
 ·rename_i a;cases A:eJ h a 0 n with
  |none=>simp[A]at H
  |some l=>
   simp only[A]at H;simp only[e.loads A];exact H
 ·cases H
theorem vk (h:ah)(b k:Nat)(o:Obj):(fo h b o)[k]? =if k=b then(if b<h.size then some o else none)else h[k]? :=by
 unfold fo;rw[Wu];by_cases A:k=b
 ·subst A;simp
 ·rw[az (ie A),az A]
theorem wM (h:ah)(b:Nat)(o:Obj):(fo h b o).size=h.size:=by simp[fo]
theorem SK (h:ah)(x y:Obj):fo (h.push x) h.size y=h.push y:=by
 unfold fo;apply Hs;simp
theorem SL {h:ah}{b o:Nat}{cur:Array Value}{t:TypeId}{f:Nat×Nat}{v:Value}(D:h[b]? =some (.cells cur t f)):Lw h ⟨b,o,none⟩ v=fo h b (.cells (cur.setIfInBounds o v) t f):=by
 have A:b<h.size:=(lY.1 D).1;unfold Lw;apply KX
 ·simp[wM]
 ·intro i h1 F;apply sQ;rw[←qs,←qs,vk,KW];by_cases hi:i=b
  ·subst hi;have e:h[i]=.cells cur t f:=by rw[qs A]at D;exact sQ D
   simp[A,e]
  ·rw[az (ie hi),az hi]
def wrL (cur:Array Value):Nat→List Value→Array Value
 |_,[]=>cur
 |o,v::l=>wrL (cur.setIfInBounds o v) (o+1) l
theorem cG:∀(l:List Value) (cur:Array Value) (o:Nat),(wrL cur o l).size=cur.size
 | [],_,_=>rfl
 |v::l,cur,o=>by simp[wrL,cG l]
theorem VM:∀(l:List Value) (cur:Array Value) (o k:Nat),o+l.length≤cur.size→(wrL cur o l)[k]? =if o≤k∧k<o+l.length then l[k-o]? else cur[k]?
 | [],cur,o,k,_=>by simp only[wrL,kr];rw[az ae]
 | v::l,cur,o,k,h=>by
  simp only[oD]at h;simp only[wrL];rw[VM l _ (o+1) k (by simp;omega)];by_cases D:k=o
  ·subst D;rw[az ae,aA (by simp)];rw[Wu];simp;omega
  ·by_cases A:o+1≤k∧k<o+1+l.length
   ·rw[aA A,aA (by simp only[oD];omega)];rw[show k-o=(k-(o+1))+1 from ae];simp
   ·rw[az A,az (by simp only[oD];omega)];rw[Ww (ie D)]
theorem Qb (l:List Value)(cur:Array Value)(h:l.length=cur.size):wrL cur 0 l=l.toArray:=by
 apply KX
 ·simp[cG,h]
 ·intro i h1 A;apply sQ;rw[←qs,←qs,VM l cur 0 i ae];simp only[cG]at h1;rw[aA ae];simp
theorem mP {t:TypeId}{b o:Nat}:∀(l:List Value) (i:Nat) (h:ah) (cur:Array Value),h[b]? =some (.cells cur t (0,0))→o+i+l.length≤cur.size→(∀v∈l,aQ v=true)→
  kb h ⟨b,o,none⟩ i l=some (fo h b (.cells (wrL cur (o+i) l) t (0,0)))
 | [],i,h,cur,hb,_,_=>by
  simp only[kb,wrL,cE];have A:b<h.size:=(lY.1 hb).1;apply KX
  ·simp[wM]
  ·intro k h1 G;apply sQ;rw[←qs,←qs,vk];split
   ·rename_i D;subst D;first|rw[aA A,hb]|exact hb
   ·rfl
 |v::l,i,h,cur,hb,hs,h1=>by
  simp only[oD]at hs;have A:b<h.size:=(lY.1 hb).1;have hc:aG h ⟨b,o+i,none⟩=some cur[o+i]:=by rw[am hb,qs ae]
  have F:vE h ⟨b,o+i,none⟩=false:=by unfold vE;simp[hb]
  unfold kb;rw[mG];simp only[hc,F,h1 v (by simp),Bool.not_false,Bool.and_self,sS];rw[SL hb];rw[mP l (i+1) _ (cur.setIfInBounds (o+i) v) (by rw[vk,aA rfl,aA A]) (by simp;omega) (λu hu=>h1 u (by simp[hu]))];simp only[wrL,ul,cE];unfold fo;simp
theorem stN {t:TypeId}{b o n:Nat}{h:ah}{cur:Array Value}{l:List Value}{K:Value→ah→Prop}(F:h[b]? =some (.cells cur t (0,0)))(A:o+l.length≤cur.size)(h1:∀v∈l,aQ v=true)(G:l.length=n)
  (D:K undef (fo h b (.cells (wrL cur o l) t (0,0)))):stK n (.pointer (some ⟨b,o,none⟩)) (.agg l.toArray) h K:=by
 unfold stK;have:=mP (t:=t) (b:=b) (o:=o) l 0 h cur F (by simpa using A) h1;simp only[Value.cells,RM,G,cJ,this];exact D
theorem cC {v:Value}(h:aQ v=true):v.cells=#[v]:=by cases v<;>first|rfl|cases h
theorem st1 {t:TypeId}{b o:Nat}{h:ah}{cur:Array Value}{v:Value}{K:Value→ah→Prop}(D:h[b]? =some (.cells cur t (0,0)))(F:o<cur.size)(h1:aQ v=true)
  (A:K undef (fo h b (.cells (cur.setIfInBounds o v) t (0,0)))):stK 1 (.pointer (some ⟨b,o,none⟩)) v h K:=by
 unfold stK;have:=mP (t:=t) (b:=b) (o:=o) [v] 0 h cur D (by simp;omega) (by simpa using h1);simp only[cC h1,RM,oD,kr,cJ,this];exact A
theorem st_new {t:TypeId}{n:Nat}{h:ah}{A:Array Value}{l:List Value}{K:Value→ah→Prop}(D:l.length=A.size)(h1:∀v∈l,aQ v=true)(G:l.length=n)
  (F:K undef (h.push (.cells l.toArray t))):stK n (.pointer (some ⟨h.size,0,none⟩)) (.agg l.toArray) (h.push (.cells A t)) K:=by
 refine stN (cur:=A) (t:=t) (by simp) ae h1 G ?_;rw[SK,Qb l A D];exact F
def Upd (b:Nat)(h h':ah):Prop:=h'.size=h.size∧∀k,k≠b→h'[k]? =h[k]?
theorem Upd.row {b k:Nat}{h h':ah}(u:Upd b h h')(A:k≠b){o:Obj}(r:h[k]? =some o):h'[k]? =some o:=by rw[u.2 k A];exact r
theorem Upd.set {b:Nat}{h:ah}{o:Obj}:Upd b h (fo h b o):=⟨wM h b o,λk A=>by rw[vk,az A]⟩
theorem Ext.upd {h h1 A:ah}{b:Nat}(e:Ext h h1)(F:h.size≤b)(u:Upd b h1 A):Ext h A:=
 ⟨by rw[u.1];exact e.1,λk D=>by rw[u.2 k ae];exact e.2 k D⟩
theorem mC {h:ah}{b:Nat}{o o':Obj}(r:h[b]? =some o):(fo h b o')[b]? =some o':=by
 rw[vk,aA rfl,aA (lY.1 r).1]
theorem cT {t:TypeId}{b n:Nat}{h:ah}{A:Array Value}{l:List Value}{K:Value→ah→Prop}(r:h[b]? =some (.cells A t (0,0)))(D:l.length=A.size)(h1:∀v∈l,aQ v=true)(G:l.length=n)
  (F:∀h',h'[b]? =some (.cells l.toArray t (0,0))→Upd b h h'→K undef h'):stK n (.pointer (some ⟨b,0,none⟩)) (.agg l.toArray) h K:=by
 refine stN r ae h1 G ?_;rw[Qb l A D];exact F _ (mC r) Upd.set
theorem b9 {t:TypeId}{b o:Nat}{h:ah}{cur:Array Value}{v:Value}{K:Value→ah→Prop}(r:h[b]? =some (.cells cur t (0,0)))(A:o<cur.size)(h1:aQ v=true)
  (D:∀h',h'[b]? =some (.cells (cur.setIfInBounds o v) t (0,0))→Upd b h h'→K undef h'):stK 1 (.pointer (some ⟨b,o,none⟩)) v h K:=
 st1 r A h1 (D _ (mC r) Upd.set)
theorem da {c c':Array Value}{e:TypeId}{n:Nat}{l:List (Nat×Nat×Value)}{h:ah}{K:Value→ah→Prop}(A:aM c l=some c')
  (H:∀b h',h'[b]? =some (.cells c' e (0,0))→Ext h h'→h.size≤b→K (.slice (some ⟨b,0,none⟩) n n) h'):df c e n l h K:=by
 unfold df;rw[A];exact H h.size (h.push (.cells c' e)) rJ (Ext.push h _) (bU _)
theorem least {p:Nat→Prop}:∀(n:Nat),p n→∃m,p m∧∀k,p k→m≤k:=by
 intro n;induction n using Nat.strongRecOn with
 | _ n G=>
  intro I;by_cases F:∃k,k<n∧p k
  ·obtain⟨k,D,H⟩:=F;exact G k D H
  ·exact⟨n,I,λk D=>Hj λA=>F ⟨k,A,D⟩⟩
theorem dw {init:List Value}{h:ah}{body:List Value→Env→ah→(List Value→ah→Prop)→Prop}(I:Nat→List Value→ah→Prop)(d0:Nat)(h0:I d0 init h)
  (step:∀d A ρj h again,I d A h→(∀H h' F,F<d→I F H h'→again H h')→body A ρj h again):aZ init h body:=by
 have G:∀A h,∃m:Nat,(∃d,I d A h)→I m A h∧∀k,I k A h→m≤k:=by
  intro A h;by_cases U:∃d,I d A h
  ·obtain⟨d,hd⟩:=U;obtain⟨m,L,W⟩:=least (p:=λd=>I d A h) d hd;exact⟨m,λ_=>⟨L,W⟩⟩
  ·exact⟨0,λh=>absurd h U⟩
 let m:List Value→ah→Nat:=λA h=>Classical.choose (G A h)
 have L:∀A h,(∃d,I d A h)→I (m A h) A h∧∀k,I k A h→m A h≤k:=λA h=>Wt (G A h)
 refine⟨λA h=>∃d,I d A h,m,⟨d0,h0⟩,?_⟩;intro A ρj h hI;refine step (m A h) A ρj h _ (L A h hI).1 ?_;intro H h' F hd D;exact⟨⟨F,D⟩,sP ((L H h' ⟨F,D⟩).2 F D) hd⟩
theorem bi {body:(List Value→ah→Prop)→Prop}{rest:List Value→Env→ah→Prop}(J:List Value→ah→Prop)(h1:body J)(D:∀A ρj h,J A h→rest A ρj h):eK body rest:=⟨J,h1,D⟩
theorem PG {h:ah}{body:(ah→Prop)→Prop}(H:body (Ext h)):bJ h body:=⟨Ext h,Ext.refl h,H⟩
theorem aC {S:ah→Prop}{r:ah→Option Value}{K:Value→Prop}(v:Value)(h:∀h,S h→r h=some v)(A:K v):qK S r K:=⟨v,h,A⟩
attribute [go_sem] zct zcz aj iI cK gv jz gV_tf gV_ft RZ TG gK_tf gK_ft qe rK gX vC za1 zcr ix_4 ix_5 du ig ms cq NE sr NF mu yz zak zaj VP zax BX MD MA bO IS XM List.getElem?_toArray List.getElem?_cons_zero List.getElem?_cons_succ Nat.zero_add decide_true decide_false Bool.not_true Bool.not_false Bool.and_true Bool.and_false Bool.or_true Bool.or_false Bool.true_and Bool.false_and Bool.true_or Bool.false_or not_true_eq_false not_false_eq_true zcF zcE zcD zcC Y2 zcA TH qS
def Fr (M:Nat→Prop)(h h':ah):Prop:=h.size≤h'.size∧∀b,b<h.size→¬M b→h'[b]? =h[b]?
theorem Fr.refl (M:Nat→Prop)(h:ah):Fr M h h:=⟨bU _,λ_ _ _=>rfl⟩
theorem Fr.trans {M:Nat→Prop}{a b c:ah}(h:Fr M a b)(k:Fr M b c):Fr M a c:=
 ⟨bh h.1 k.1,λi hi A=>(k.2 i (bT hi h.1) A).trans (h.2 i hi A)⟩
theorem Fr.mono {M M':Nat→Prop}{a b:ah}(h:Fr M a b)(k:∀i,i<a.size→M i→M' i):Fr M' a b:=⟨h.1,λi hi A=>h.2 i hi λx=>A (k i hi x)⟩
theorem Ext.fr {M:Nat→Prop}{a b:ah}(h:Ext a b):Fr M a b:=⟨h.1,λi hi _=>h.2 i hi⟩
theorem Ext.then_fr {M:Nat→Prop}{a b c:ah}(h:Ext a b)(k:Fr M b c)(n:∀i,M i→a.size≤i):Ext a c:=
 ⟨bh h.1 k.1,λi hi=>(k.2 i (bT hi h.1) λm=>Nat.not_le.2 hi (n i m)).trans (h.2 i hi)⟩
theorem Fr.row {M:Nat→Prop}{h h':ah}(e:Fr M h h'){b:Nat}{o:Obj}(A:h[b]? =some o)(D:¬M b):h'[b]? =some o:=by
 rw[e.2 b (lY.1 A).1 D];exact A
theorem Fr.cell {M:Nat→Prop}{h h':ah}(e:Fr M h h'){a:Addr}{v:Value}(hc:aG h a=some v)(D:¬M a.block):aG h' a=some v:=by
 unfold aG at*;rcases oE a.block h.size with A|A
 ·rw[e.2 _ A D];exact hc
 ·rw[zo A]at hc;cases hc
theorem WU {h:ah}{a:Addr}{v:Value}(hc:aG h a=some v):a.block<h.size:=by
 unfold aG at hc;rcases oE a.block h.size with A|A
 ·exact A
 ·rw[zo A]at hc;cases hc
def blk:Value→Nat→Prop
 | .slice (some a) _ _,b=>b=a.block
 | .pointer (some a),b=>b=a.block
 |_,_=>False
def SlC (w:Nat)(h:ah)(v:Value)(n:Nat)(cs:List Value):Prop:=
 cs.length=n*w∧∃a cap,v=.slice a n cap∧(cs=[]∨∃b o,a=some ⟨b,o,none⟩∧∀j (hj:j<cs.length),aG h ⟨b,o+j,none⟩=some cs[j])
def Own (w:Nat)(h:ah)(v:Value)(n:Nat)(cs:List Value):Prop:=
 (v=.slice none 0 0∧n=0∧cs=[])∨∃b cap r e,v=.slice (some ⟨b,0,none⟩) n cap∧n≤cap∧cs.length=n*w∧(cs++r).length=cap*w∧h[b]? =some (.cells (cs++r).toArray e (0,0))
theorem SlC.fr {w:Nat}{M:Nat→Prop}{h h':ah}{v:Value}{n:Nat}{cs:List Value}(H:SlC w h v n cs)(e:Fr M h h')(F:∀b,b<h.size→blk v b→¬M b):SlC w h' v n cs:=by
 obtain⟨D,a,cap,rfl,H⟩:=H;refine⟨D,a,cap,rfl,?_⟩;rcases H with H|⟨b,o,rfl,H⟩
 ·exact .inl H
 ·exact .inr ⟨b,o,rfl,λj A=>e.cell (H j A) (F b (WU (H j A)) rfl)⟩
theorem SlC.ext {w:Nat}{h h':ah}{v:Value}{n:Nat}{cs:List Value}(H:SlC w h v n cs)(e:Ext h h'):SlC w h' v n cs:=H.fr (M:=λ_=>False) e.fr λ_ _ _=>id
theorem Own.sl {w:Nat}{h:ah}{v:Value}{n:Nat}{cs:List Value}(H:Own w h v n cs):SlC w h v n cs:=by
 rcases H with⟨rfl,rfl,rfl⟩|⟨b,cap,r,e,rfl,hc,D,_,F⟩
 ·exact⟨by simp,none,0,rfl,.inl rfl⟩
 ·refine⟨D,_,cap,rfl,.inr ⟨b,0,rfl,λj A=>?_⟩⟩;rw[aK,am F];simp[uk A,A]
theorem Own.fr {w:Nat}{M:Nat→Prop}{h h':ah}{v:Value}{n:Nat}{cs:List Value}(H:Own w h v n cs)(f:Fr M h h')(D:∀b,blk v b→¬M b):Own w h' v n cs:=by
 rcases H with⟨rfl,rfl,rfl⟩|⟨b,cap,r,e,rfl,hc,A,G,F⟩
 ·exact .inl ⟨rfl,rfl,rfl⟩
 ·exact .inr ⟨b,cap,r,e,rfl,hc,A,G,f.row F (D b rfl)⟩
theorem Own.lt {w:Nat}{h:ah}{v:Value}{n:Nat}{cs:List Value}(H:Own w h v n cs){b:Nat}(A:blk v b):b<h.size:=by
 rcases H with⟨rfl,rfl,rfl⟩|⟨D,cap,r,e,rfl,hc,F,G,h'⟩
 ·cases A
 ·rw[show b=D from A];exact(lY.1 h').1
theorem SlC.loads {w:Nat}{h:ah}{v:Value}{n:Nat}{cs:List Value}(H:SlC w h v n cs):wj w h n v=some cs:=by
 obtain⟨A,a,cap,rfl,H⟩:=H;cases a with
 |none=>
  rcases H with rfl|⟨b,o,h1,_⟩
  ·rfl
  ·cases h1
 | some a=>
  show eJ h a 0 (n*w)=_;rcases H with rfl|⟨b,o,h1,H⟩
  ·rw[←A];rfl
  ·cases h1;rw[←A];exact CI cs 0 (by simpa using H)
theorem FA:∀(ds cs r:List Value),ds.length≤r.length→wrL (cs++r).toArray cs.length ds=(cs++ds++r.drop ds.length).toArray
 | [],cs,r,_=>by simp[wrL]
 | v::ds,cs,r,h=>by
  cases r with
  |nil=>simp at h
  |cons x r=>
   have e:((cs++x::r).toArray).setIfInBounds cs.length v=((cs++[v])++r).toArray:=by simp
   rw[wrL,e];have:=FA ds (cs++[v]) r (by simpa using h);rw[ck,Hh]at this;rw[this];simp
theorem Upd.fr {b:Nat}{h h':ah}(u:Upd b h h'):Fr (λk=>k=b) h h':=⟨Nat.le_of_eq u.1.symm,λk _ A=>u.2 k A⟩
theorem Qf (z:Array Value)(n:Nat):(Builtin.zeroCells z n).size=n*z.size:=by simp[Builtin.zeroCells]
theorem vJ {z:Value}{e:TypeId}{w bytes n m:Nat}{s x:Value}{h:ah}{cs ds:List Value}{K:Value→ah→Prop}
  (hs:Own w h s n cs) (hx:SlC w h x m ds) (ho:∀v∈ds,aQ v=true) (hz:z.cells.size=w) (G:(n+m)*bytes≤140737488355328) (hn:n+m≤9223372036854775807)
  (H:∀s' h',Own w h' s' (n+m) (cs++ds)→Fr (blk s) h h'→(∀b,blk s' b→blk s b∨h.size≤b)→K s' h'):di z e w bytes s x h K:=by
 have I:=hs.sl.loads;have F:=hx.loads;obtain⟨D,a',ab,rfl,ad⟩:=hx;rcases hs with⟨rfl,rfl,rfl⟩|⟨b,cap,r,e0,rfl,hc,U,hr,L⟩
 ·unfold di;simp only[OT];split
  ·rename_i h0;have:m=0:=ae;subst this;rw[F];have:ds=[]:=mX (by simpa using D);subst this;exact H _ _ (.inl ⟨rfl,rfl,rfl⟩) (Fr.refl _ _) (λb G=>G.elim)
  ·rename_i h0;rw[I,F];refine⟨by simp only[IntKind.max];simp only[IntKind.signed,IntKind.bits];omega,bh (RL ae G) (by decide),λA h1 h2=>?_⟩;refine H _ _ (.inr ⟨h.size,A,(Builtin.zeroCells z.cells (A-(0+m))).toList,e,rfl,h1,?_,?_,?_⟩) (Ext.push h _).fr (λb G=>.inr (by rw[show b=h.size from G];exact bU _))
   ·simp[D]
   ·simp[D,Qf,hz];rw[←ef];congr 1;omega
   ·rw[rJ];simp
 ·unfold di;simp only[OT];split
  ·rename_i h0;rw[F];have aa:ds.length≤r.length:=by
    rw[ck]at hr;rw[D];have:(n+m)*w≤cap*w:=ic w h0;rw[ef]at this;omega
   have W:=mP (o:=n*w) ds 0 h _ L (by simp;omega) ho;simp only[mG,aK,W];rw[iE,←U,FA ds cs r aa];refine H _ _ (.inr ⟨b,cap,r.drop ds.length,e0,rfl,h0,?_,?_,mC L⟩) (Upd.set.fr) (λk hk=>.inl hk)
   ·simp[U,D,ef]
   ·rw[←hr];simp;omega
  ·rename_i h0;rw[I,F];refine⟨by simp only[IntKind.max];simp only[IntKind.signed,IntKind.bits];omega,bh (RL ae G) (by decide),λA h1 h2=>?_⟩;refine H _ _ (.inr ⟨h.size,A,(Builtin.zeroCells z.cells (A-(n+m))).toList,e,rfl,h1,?_,?_,?_⟩) (Ext.push h _).fr (λb G=>.inr (by rw[show b=h.size from G];exact bU _))
   ·simp[U,D,ef]
   ·simp[U,D,Qf,hz];rw[←ef,←ef];congr 1;omega
   ·rw[rJ];simp
theorem SlC.at1 {h:ah}{v:Value}{n:Nat}{cs:List Value}(H:SlC 1 h v n cs){k:IntKind}{i:Nat}(hi:i<n):∃p,bu 1 v (.int k (i:Int))=some p∧ldV h p=some (cs[i]'(by rw[H.1];omega)):=by
 have A:=H.1;obtain⟨_,a,cap,rfl,H⟩:=H;rcases H with rfl|⟨b,o,rfl,H⟩
 ·simp at A;omega
 ·refine⟨_,rY hi,?_⟩;rw[qS,lX];exact H i ae
theorem SlC.atw {w:Nat}{h:ah}{v:Value}{n:Nat}{cs:List Value}(H:SlC w h v n cs)(G:0<w){k:IntKind}{i:Nat}(hi:i<n):
  ∃p,bu w v (.int k (i:Int))=some p∧aO w h p=some (.agg ((cs.drop (i*w)).take w).toArray):=by
 have D:=H.1;obtain⟨_,a,cap,rfl,H⟩:=H;have A:i*w+w≤cs.length:=by rw[D,←CQ];exact ic w hi
 rcases H with rfl|⟨b,o,rfl,H⟩
 ·simp at A;omega
 ·refine⟨_,rY hi,?_⟩;refine HC _ w (by simp;omega) λj F=>?_
  simp at F;have:=H (i*w+j) ae;rw[←ul]at this;rw[this];simp
theorem Own.at1 {h:ah}{v:Value}{n:Nat}{cs:List Value}(H:Own 1 h v n cs){k:IntKind}{i:Nat}(hi:i<n):
  ∃p,bu 1 v (.int k (i:Int))=some p∧ldV h p=some (cs[i]'(by rw[H.sl.1];omega))∧∀(x:Value) (K:Value→ah→Prop),aQ x=true→
   (∀h',Own 1 h' v n (cs.set i x)→Fr (blk v) h h'→h'.size=h.size→K undef h')→stK 1 p x h K:=by
 have G:=H.sl.1;rcases H with⟨rfl,rfl,rfl⟩|⟨b,cap,r,e,rfl,hc,_,W,D⟩
 ·omega
 ·refine⟨_,rY hi,?_,λx K L F=>?_⟩
  ·rw[qS,lX,am D];have A:i<cs.length:=ae;simp only[aK,y4];rw[uk A,ja A]
  ·refine b9 D (by simp;omega) L λh' U u=>?_
   refine F h' (.inr ⟨b,cap,r,e,rfl,hc,by simpa using G,by simpa using W,?_⟩) (u.fr.mono λk _ I=>I) u.1;rw[U]
   congr 2
   simp[List.set_append_left,show i<cs.length by omega]
theorem Xi {z:Value}(A:z.cells=#[z])(n:Nat):jk z n=(List.replicate n z).toArray:=by
 unfold jk;rw[A];apply KX
 ·simp
 ·intro i h1 D;simp[Nat.mod_one]
theorem og {z:Value}{e:TypeId}{bytes n:Nat}{k k':IntKind}{h:ah}{K:Value→ah→Prop}(D:z.cells=#[z])(A:bytes*n≤281474976710656)(G:n≤9223372036854775807)
  (H:∀v h',Own 1 h' v n (List.replicate n z)→Ext h h'→(∀b,blk v b→h.size≤b)→K v h'):mkK z e 1 bytes (.int k n) (.int k' n) h K:=by
 unfold mkK;have F:IntKind.i64.wrap (n:Int)=n:=w64 ae ae;simp only[F];refine⟨ae,ae,by exact_mod_cast A,?_⟩;rw[eT,lX,Xi D];refine H _ _ (.inr ⟨h.size,n,[],e,rfl,bU _,by simp,by simp,?_⟩) (Ext.push h _) (λb A=>by rw[show b=h.size from A];exact bU _);rw[rJ];simp
theorem SlC.load_some {w:Nat}{h:ah}{v:Value}{n:Nat}{cs:List Value}(H:SlC w h v n cs){k:Nat}(F:k≤n):wj w h k v=some (cs.take (k*w)):=by
 obtain⟨L,a,cap,rfl,H⟩:=H;have I:k*w≤n*w:=ic w F;have A:(cs.take (k*w)).length=k*w:=by rw[c5];omega
 cases a with
 |none=>
  rcases H with rfl|⟨b,o,h1,_⟩
  ·simp[wj]
  ·cases h1
 | some a=>
  show eJ h a 0 (k*w)=_;rcases H with rfl|⟨b,o,h1,H⟩
  ·simp at A;rw[←A];simp[eJ]
  ·cases h1;have:=CI (h:=h) (b:=b) (o:=o) (cs.take (k*w)) 0 (λj G=>by
    have D:j<cs.length:=by rw[c5]at G;omega
    simpa using H j D)
   rw[A]at this;exact this
theorem Ia {n m:Nat}{d x:Value}{h:ah}{cs ds:List Value}{K:Value→ah→Prop}(hd:Own 1 h d n cs)(L:SlC 1 h x m ds)(ho:∀v∈ds,aQ v=true)
  (H:∀h',Own 1 h' d n (ds.take n++cs.drop m)→Fr (blk d) h h'→h'.size=h.size→K (af (Nat.min m n:Nat)) h'):Fi 1 d x h K:=by
 have A:=L.load_some (k:=Nat.min m n) (Nat.min_le_left ..);obtain⟨aa,a',W,rfl,ab⟩:=L;unfold Fi;rcases hd with⟨rfl,rfl,rfl⟩|⟨b,cap,r,e,rfl,hc,hl,hr,U⟩
 ·simp only[OT];rw[A];refine H _ (.inl ⟨rfl,rfl,by simp⟩) (Fr.refl _ _) rfl
 ·simp only[OT];rw[A];have G:ds.take (Nat.min m n*1)=ds.take n:=by
   rw[lX];rcases KV m n with h1|h1
   ·rw[show Nat.min m n=m from uj h1,eS ae,eS ae]
   ·rw[show Nat.min m n=n from Nat.min_eq_right h1]
  rw[G];have F:(ds.take n).length≤(cs++r).length:=by simp;omega
  have D:=mP (o:=0) (ds.take n) 0 h _ U (by simp;omega) (λv hv=>ho v (CP hv));simp only[D];have I:=FA (ds.take n) [] (cs++r) F;simp only[fB,kr]at I;rw[show(0+0:Nat)=0 from rfl,I];refine H _ (.inr ⟨b,cap,r,e,rfl,hc,?_,?_,?_⟩) Upd.set.fr (wM ..)
  ·simp;omega
  ·simp at hr ⊢;omega
  ·rw[mC U]
   congr 3
   rw[cf]
   congr 1
   rcases KV m n with h1|h1
   ·rw[c5,Ws ae]
    congr 2;omega
   ·rw[c5,uj ae, @List.drop_eq_nil_of_le _ cs _ ae,fB];rw[show n=cs.length by omega,List.drop_left]
theorem Pn {h:ah}{body:List Value→Env→ah→(List Value→ah→Prop)→Prop}(n A:Nat)(I:Nat→ah→Prop)(h0:I A h)
  (step:∀k h again ρj,A≤k→I k h→(∀h',k<n→I (k+1) h'→again [af ((k:Int)+1)] h')→body [af (k:Int)] ρj h again):aZ [af (A:Int)] h body:=by
 refine dw (λd H h=>∃k,A≤k∧d=n-k∧H=[af (k:Int)]∧I k h) (n-A) ⟨A,bU _,rfl,rfl,h0⟩ ?_;rintro d _ ρj h1 again ⟨k,F,hd,rfl,L⟩ G;exact step k h1 again ρj F L λh' U D=>G _ _ (n-(k+1)) ae ⟨k+1,ae,rfl,by simp,D⟩
theorem EY {h:ah}{body:List Value→Env→ah→(List Value→ah→Prop)→Prop}(n:Nat)(I:Nat→ah→Prop)(h0:I 0 h)
  (step:∀k h again ρj,I k h→(∀h',k<n→I (k+1) h'→again [af ((k:Int)+1)] h')→body [af (k:Int)] ρj h again):aZ [ai] h body:=
 Pn n 0 I h0 λk h again ρj _=>step k h again ρj
structure Rp (α:Type) where
 w:Nat
 R:(Nat→Prop)→ah→List Value→α→Prop
 len:∀{Z:Nat→Prop} {h:ah} {cs:List Value} {x:α},R Z h cs x→cs.length=w
 one:∀{Z:Nat→Prop} {h:ah} {cs:List Value} {x:α},R Z h cs x→∀v∈cs,aQ v=true
 fr:∀{Z M:Nat→Prop} {h h':ah} {cs:List Value} {x:α},R Z h cs x→Fr M h h'→(∀b,b<h.size→Z b→¬M b)→R Z h' cs x
 mono:∀{Z Z':Nat→Prop} {h:ah} {cs:List Value} {x:α},R Z h cs x→(∀b,b<h.size→Z b→Z' b)→R Z' h cs x
theorem Rp.ext {α:Type}(e:Rp α){Z:Nat→Prop}{h h':ah}{cs:List Value}{x:α}(H:e.R Z h cs x)(k:Ext h h'):e.R Z h' cs x:=e.fr (M:=λ_=>False) H k.fr λ_ _ _=>id
theorem SlC.nil {w:Nat}{h h':ah}{v:Value}{n:Nat}(H:SlC w h v n []):SlC w h' v n []:=by
 obtain⟨A,a,cap,rfl,H⟩:=H;exact⟨A,a,cap,rfl,.inl rfl⟩
theorem SlC.isSl {w:Nat}{h:ah}{v:Value}{n:Nat}{cs:List Value}(H:SlC w h v n cs):∃a cap,v=.slice a n cap:=by
 obtain⟨_,a,cap,rfl,_⟩:=H;exact⟨a,cap,rfl⟩
theorem Own.isSl {w:Nat}{h:ah}{v:Value}{n:Nat}{cs:List Value}(H:Own w h v n cs):∃a cap,v=.slice a n cap:=H.sl.isSl
theorem SlC.lt {w:Nat}{h:ah}{v:Value}{n:Nat}{cs:List Value}(H:SlC w h v n cs)(h0:cs≠[]){b:Nat}(D:blk v b):b<h.size:=by
 obtain⟨F,a,cap,rfl,H⟩:=H;rcases H with rfl|⟨A,o,rfl,H⟩
 ·exact absurd rfl h0
 ·have:=WU (H 0 (wZ.2 h0));rw[show b=A from D];exact this
namespace Rp
def int (k:IntKind):Rp Int where
 w:=1
 R:=λ_ _ cs n=>cs=[.int k n]
 len:=by rintro _ _ _ _ rfl;rfl
 one:=by rintro _ _ _ _ rfl;simp[aQ]
 fr:=λH _ _=>H
 mono:=λH _=>H
def bool:Rp Bool where
 w:=1
 R:=λ_ _ cs n=>cs=[.bool n]
 len:=by rintro _ _ _ _ rfl;rfl
 one:=by rintro _ _ _ _ rfl;simp[aQ]
 fr:=λH _ _=>H
 mono:=λH _=>H
def str:Rp ByteArray where
 w:=1
 R:=λ_ _ cs n=>cs=[.string n]
 len:=by rintro _ _ _ _ rfl;rfl
 one:=by rintro _ _ _ _ rfl;simp[aQ]
 fr:=λH _ _=>H
 mono:=λH _=>H
abbrev el (w:Nat)(ds:List Value)(i:Nat):List Value:=(ds.drop (i*w)).take w
def Sl {α:Type}(e:Rp α)(Z:Nat→Prop)(h:ah)(v:Value)(l:List α):Prop:=
 ∃ds,SlC e.w h v l.length ds∧(ds≠[]→∀b,blk v b→Z b)∧∀i (hi:i<l.length),e.R Z h (el e.w ds i) l[i]
theorem Sl.fr {α:Type}{e:Rp α}{Z M:Nat→Prop}{h h':ah}{v:Value}{l:List α}(H:Sl e Z h v l)(f:Fr M h h')(q:∀b,b<h.size→Z b→¬M b):Sl e Z h' v l:=by
 obtain⟨ds,D,F,I⟩:=H;refine⟨ds,?_,F,λi hi=>e.fr (I i hi) f q⟩;by_cases h0:ds=[]
 ·subst h0;exact D.nil
 ·exact D.fr f λb G A=>q b G (F h0 b A)
theorem Sl.ext {α:Type}{e:Rp α}{Z:Nat→Prop}{h h':ah}{v:Value}{l:List α}(H:Sl e Z h v l)(k:Ext h h'):Sl e Z h' v l:=H.fr (M:=λ_=>False) k.fr λ_ _ _=>id
theorem Sl.mono {α:Type}{e:Rp α}{Z Z':Nat→Prop}{h:ah}{v:Value}{l:List α}(H:Sl e Z h v l)(q:∀b,b<h.size→Z b→Z' b):Sl e Z' h v l:=by
 obtain⟨ds,A,F,G⟩:=H;exact⟨ds,A,λh0 b D=>q b (A.lt h0 D) (F h0 b D),λi hi=>e.mono (G i hi) q⟩
theorem Sl.isSl {α:Type}{e:Rp α}{Z:Nat→Prop}{h:ah}{v:Value}{l:List α}(H:Sl e Z h v l):∃a cap,v=.slice a l.length cap:=by
 obtain⟨ds,A,_⟩:=H;exact A.isSl
theorem Sl.one {α:Type}{e:Rp α}{Z:Nat→Prop}{h:ah}{v:Value}{l:List α}(H:Sl e Z h v l):aQ v=true:=by
 obtain⟨a,cap,rfl⟩:=H.isSl;rfl
theorem Sl.nil {α:Type}{e:Rp α}{Z:Nat→Prop}{h:ah}:Sl e Z h (.slice none 0 0) []:=⟨[],⟨by simp,none,0,rfl,.inl rfl⟩,λh=>absurd rfl h,λi hi=>absurd hi (by simp)⟩
def sl {α:Type}(e:Rp α):Rp (List α) where
 w:=1
 R:=λZ h cs l=>∃v,cs=[v]∧Sl e Z h v l
 len:=by rintro _ _ _ _ ⟨v,rfl,_⟩;rfl
 one:=by
  rintro _ _ _ _ ⟨v,rfl,H⟩ u hu;rw[List.mem_singleton.1 hu];exact H.one
 fr:=by rintro _ _ _ _ _ _ ⟨v,rfl,H⟩ f q;exact⟨v,rfl,H.fr f q⟩
 mono:=by rintro _ _ _ _ _ ⟨v,rfl,H⟩ q;exact⟨v,rfl,H.mono q⟩
def Pt {α:Type}(e:Rp α)(Z:Nat→Prop)(h:ah)(v:Value)(x:α):Prop:=
 ∃b ds t,v=.pointer (some ⟨b,0,none⟩)∧h[b]? =some (.cells (List.toArray ds) t (0,0))∧Z b∧e.R Z h ds x
theorem Pt.fr {α:Type}{e:Rp α}{Z M:Nat→Prop}{h h':ah}{v:Value}{x:α}(H:Pt e Z h v x)(f:Fr M h h')(q:∀b,b<h.size→Z b→¬M b):Pt e Z h' v x:=by
 obtain⟨b,ds,t,rfl,r,A,D⟩:=H;exact⟨b,ds,t,rfl,f.row r (q b (lY.1 r).1 A),A,e.fr D f q⟩
theorem Pt.ext {α:Type}{e:Rp α}{Z:Nat→Prop}{h h':ah}{v:Value}{x:α}(H:Pt e Z h v x)(k:Ext h h'):Pt e Z h' v x:=H.fr (M:=λ_=>False) k.fr λ_ _ _=>id
theorem Pt.mono {α:Type}{e:Rp α}{Z Z':Nat→Prop}{h:ah}{v:Value}{x:α}(H:Pt e Z h v x)(q:∀b,b<h.size→Z b→Z' b):Pt e Z' h v x:=by
 obtain⟨b,ds,t,rfl,r,A,D⟩:=H;exact⟨b,ds,t,rfl,r,q b (lY.1 r).1 A,e.mono D q⟩
def pt {α:Type}(e:Rp α):Rp α where
 w:=1
 R:=λZ h cs x=>∃v,cs=[v]∧Pt e Z h v x
 len:=by rintro _ _ _ _ ⟨v,rfl,_⟩;rfl
 one:=by
  rintro _ _ _ _ ⟨v,rfl,b,ds,t,rfl,_⟩ u hu;rw[List.mem_singleton.1 hu];rfl
 fr:=by rintro _ _ _ _ _ _ ⟨v,rfl,H⟩ f q;exact⟨v,rfl,H.fr f q⟩
 mono:=by rintro _ _ _ _ _ ⟨v,rfl,H⟩ q;exact⟨v,rfl,H.mono q⟩
theorem Vg {w:Nat}{ds:List Value}{n i:Nat}(A:ds.length=n*w)(hi:i<n):(el w ds i).length=w:=by
 have:i*w+w≤n*w:=by rw[←CQ];exact ic w hi
 show((ds.drop (i*w)).take w).length=w;rw[c5,iZ];omega
theorem el_one {ds:List Value}{i:Nat}(hi:i<ds.length):el 1 ds i=[ds[i]]:=by
 show(ds.drop (i*1)).take 1=[ds[i]];rw[lX,zj hi];rfl
theorem Vh {w:Nat}{ds cs:List Value}{n i:Nat}(A:ds.length=n*w)(hi:i<n):el w (ds++cs) i=el w ds i:=by
 have:i*w+w≤n*w:=by rw[←CQ];exact ic w hi
 show((ds++cs).drop (i*w)).take w=(ds.drop (i*w)).take w;rw[Ws ae,RK (by rw[iZ];omega)]
theorem Vi {w:Nat}{ds cs:List Value}{n i:Nat}(A:ds.length=n*w)(hi:n≤i):el w (ds++cs) i=el w cs (i-n):=by
 have:n*w≤i*w:=ic w hi;show((ds++cs).drop (i*w)).take w=(cs.drop ((i-n)*w)).take w;rw[RJ, @List.drop_eq_nil_of_le _ ds _ ae,fB,A,Nat.sub_mul]
theorem el_self {w:Nat}{cs:List Value}(A:cs.length=w):el w cs 0=cs:=by
 show(cs.drop (0*w)).take w=cs;rw[zi,KU];exact eS ae
theorem Sl.atw {α:Type}{e:Rp α}{Z:Nat→Prop}{h:ah}{v:Value}{l:List α}(H:Sl e Z h v l)(D:0<e.w){k:IntKind}{i:Nat}(hi:i<l.length):
  ∃p cs,bu e.w v (.int k (i:Int))=some p∧aO e.w h p=some (.agg (List.toArray cs))∧e.R Z h cs l[i]:=by
 obtain⟨ds,A,I,G⟩:=H;obtain⟨p,F,hq⟩:=A.atw D (k:=k) hi;exact⟨p,_,F,hq,G i hi⟩
theorem Sl.atp {α:Type}{e:Rp α}{Z:Nat→Prop}{h:ah}{v:Value}{l:List α}(H:Sl e Z h v l)(hw:0<e.w){k:IntKind}{i:Nat}(hi:i<l.length):
  ∃b o cs,bu e.w v (.int k (i:Int))=some (.pointer (some ⟨b,o,none⟩))∧cs.length=e.w∧(∀j (I:j<cs.length),aG h ⟨b,o+j,none⟩=some cs[j])∧e.R Z h cs l[i]∧Z b:=by
 obtain⟨ds,⟨F,a,cap,rfl,G⟩,U,W⟩:=H;have D:i*e.w+e.w≤ds.length:=by rw[F,←CQ];exact ic e.w hi
 have A:ds≠[]:=λh0=>by rw[h0]at D;simp at D;omega
 rcases G with h0|⟨b,o,rfl,G⟩
 ·exact absurd h0 A
 ·refine⟨b,o+i*e.w,el e.w ds i,rY hi,Vg F hi,λj I=>?_,W i hi,U A b rfl⟩;have L:j<e.w:=by rw[Vg F hi]at I;exact I
  have:=G (i*e.w+j) ae;rw[←ul]at this;rw[this];simp
theorem Sl.at1 {α:Type}{e:Rp α}(A:e.w=1){Z:Nat→Prop}{h:ah}{v:Value}{l:List α}(H:Sl e Z h v l){k:IntKind}{i:Nat}(hi:i<l.length):
  ∃p c,bu 1 v (.int k (i:Int))=some p∧ldV h p=some c∧e.R Z h [c] l[i]:=by
 obtain⟨ds,D,L,I⟩:=H;have F:=D.1;rw[A]at D;obtain⟨p,G,hq⟩:=D.at1 (k:=k) hi;refine⟨p,_,G,hq,?_⟩;have:=I i hi;rw[A,el_one (by rw[F,A];omega)]at this;exact this
def Ow {α:Type}(e:Rp α)(Z:Nat→Prop)(h:ah)(v:Value)(l:List α):Prop:=
 ∃ds,Own e.w h v l.length ds∧(∀b,blk v b→¬Z b)∧∀i (hi:i<l.length),e.R Z h (el e.w ds i) l[i]
theorem Ow.nil {α:Type}{e:Rp α}{Z:Nat→Prop}{h:ah}:Ow e Z h (.slice none 0 0) []:=⟨[],.inl ⟨rfl,rfl,rfl⟩,λb A=>A.elim,λi hi=>absurd hi (by simp)⟩
theorem Ow.fr {α:Type}{e:Rp α}{Z M:Nat→Prop}{h h':ah}{v:Value}{l:List α}(H:Ow e Z h v l)(f:Fr M h h')(q:∀b,b<h.size→Z b→¬M b)(F:∀b,blk v b→¬M b):Ow e Z h' v l:=by
 obtain⟨ds,D,A,G⟩:=H;exact⟨ds,D.fr f F,A,λi hi=>e.fr (G i hi) f q⟩
theorem Ow.ext {α:Type}{e:Rp α}{Z:Nat→Prop}{h h':ah}{v:Value}{l:List α}(H:Ow e Z h v l)(k:Ext h h'):Ow e Z h' v l:=H.fr (M:=λ_=>False) k.fr (λ_ _ _=>id) λ_ _=>id
theorem Ow.mono {α:Type}{e:Rp α}{Z Z':Nat→Prop}{h:ah}{v:Value}{l:List α}(H:Ow e Z h v l)(q:∀b,b<h.size→Z b→Z' b)(D:∀b,blk v b→¬Z' b):Ow e Z' h v l:=by
 obtain⟨ds,A,G,F⟩:=H;exact⟨ds,A,D,λi hi=>e.mono (F i hi) q⟩
theorem Ow.lt {α:Type}{e:Rp α}{Z:Nat→Prop}{h:ah}{v:Value}{l:List α}(H:Ow e Z h v l){b:Nat}(D:blk v b):b<h.size:=by
 obtain⟨ds,A,_⟩:=H;exact A.lt D
theorem Ow.isSl {α:Type}{e:Rp α}{Z:Nat→Prop}{h:ah}{v:Value}{l:List α}(H:Ow e Z h v l):∃a cap,v=.slice a l.length cap:=by
 obtain⟨ds,A,_⟩:=H;exact A.isSl
theorem Ow.one {α:Type}{e:Rp α}{Z:Nat→Prop}{h:ah}{v:Value}{l:List α}(H:Ow e Z h v l):aQ v=true:=by
 obtain⟨a,cap,rfl⟩:=H.isSl;rfl
theorem Ow.sl {α:Type}{e:Rp α}{Z:Nat→Prop}{h:ah}{v:Value}{l:List α}(H:Ow e Z h v l):Sl e (λb=>Z b∨blk v b) h v l:=by
 obtain⟨ds,D,G,F⟩:=H;exact⟨ds,D.sl,λ_ b A=>.inr A,λi hi=>e.mono (F i hi) λ_ _ A=>.inl A⟩
theorem app_ow {α:Type}{e:Rp α}{Z:Nat→Prop}{z:Value}{t:TypeId}{bytes:Nat}{s x:Value}{h:ah}{l l2:List α}{K:Value→ah→Prop}
  {cs:List Value} (hs:Ow e Z h s l) (hc:SlC e.w h x l2.length cs) (G:∀i (hi:i<l2.length),e.R Z h (el e.w cs i) l2[i]) (hz:z.cells.size=e.w) (D:(l.length+l2.length)*bytes≤140737488355328) (hn:l.length+l2.length≤9223372036854775807) (hZ:∀b,Z b→b<h.size)
  (H:∀F h',Ow e Z h' F (l++l2)→Fr (blk s) h h'→(∀b,blk F b→blk s b∨h.size≤b)→K F h'):di z t e.w bytes s x h K:=by
 obtain⟨ds,I,hd,he⟩:=hs;refine vJ I hc ?_ hz D hn λF h' o' L n'=>H F h' ⟨ds++cs,?_,?_,?_⟩ L n'
 ·intro v hv;obtain⟨j,hj,rfl⟩:=oC.1 hv;have W:=hc.1;have U:0<e.w:=by
   rcases w8 e.w with h0|h0
   ·rw[h0,Nat.mul_zero]at W;omega
   ·exact h0
  have hi:j/e.w<l2.length:=by rw[vz U];omega
  have:=e.one (G _ hi) (cs[j]) ?_
  ·exact this
  ·rw[oC];have h1:j/e.w*e.w+j%e.w=j:=by rw[eO];exact mW j e.w
   have h2:j%e.w<e.w:=gT _ U;refine⟨j%e.w,by rw[Vg W hi];exact h2,?_⟩;simp only[yZ,w9,h1]
 ·rw[ck];exact o'
 ·intro b D A;rcases n' b D with h1|h1
  ·exact hd b h1 A
  ·have:=hZ b A;omega
 ·intro i hi;rw[ck]at hi;by_cases h1:i<l.length
  ·rw[Vh I.sl.1 h1,Wr h1];exact e.fr (he i h1) L λb _ A D=>hd b D A
  ·rw[Vi I.sl.1 ae,List.getElem_append_right ae];exact e.fr (G _ ae) L λb _ A D=>hd b D A
theorem SlC.single {h:ah}{b:Nat}{t:TypeId}{cs:List Value}(r:h[b]? =some (.cells cs.toArray t (0,0))):SlC cs.length h (.slice (some ⟨b,0,none⟩) 1 1) 1 cs:=
 ⟨by simp,_,1,rfl,.inr ⟨b,0,rfl,λj A=>by rw[aK,am r];simp[A]⟩⟩
theorem PC:∀(cs:List Value) (c:Array Value) (o:Nat),(cs.zipIdx o).foldl (λcs (p:Value×Nat)=>cs.setIfInBounds p.2 p.1) c=wrL c o cs
 | [],c,o=>rfl
 |v::cs,c,o=>by
  simp only[List.zipIdx_cons,wY,wrL];exact PC cs _ (o+1)
theorem fill_whole {c:Array Value}{w:Nat}{cs:List Value}(hc:c.size=w)(A:cs.length=w):aM c [(0,w,.agg cs.toArray)]=some cs.toArray:=by
 simp only[aM,bO];rw[az (by simp[A,hc])]
 congr 1
 rw[Wq,Wp]
 ·simp only[aK];rw[PC,Qb cs c ae]
 ·simp
theorem fill_one {z v:Value}(A:aQ v=true):aM #[z] [(0,1,v)]=some #[v]:=by
 simp only[aM,cC A];rw[az (by simp)];simp
theorem push_ow {α:Type}{e:Rp α}{Z:Nat→Prop}{z:Value}{c:Array Value}{t t':TypeId}{bytes:Nat}{s:Value}{h:ah}{l:List α}{cs:List Value}{x:α}{K:Value→ah→Prop}
  (hs:Ow e Z h s l) (F:e.R Z h cs x) (hc:c.size=e.w) (hz:z.cells.size=e.w) (hb:(l.length+1)*bytes≤140737488355328) (hn:l.length+1≤9223372036854775807) (hZ:∀b,Z b→b<h.size)
  (H:∀D h',Ow e Z h' D (l++[x])→Fr (blk s) h h'→(∀b,blk D b→blk s b∨h.size≤b)→K D h'):df c t 1 [(0,e.w,.agg cs.toArray)] h λU L=>di z t' e.w bytes s U L K:=by
 refine da (fill_whole hc (e.len F)) λb h1 r1 A n1=>?_
 have I:=SlC.single r1;rw[e.len F]at I;refine app_ow (l2:=[x]) (hs.ext A) I (λi hi=>?_) hz (by simpa using hb) (by simpa using hn) (λk G=>bT (hZ k G) A.1) λD h' o' f' n'=>
  H D h' o' (A.fr.trans f') λk G=>(n' k G).imp id λW=>bh A.1 W
 have hi:i=0:=by simpa using hi
 subst hi;rw[el_self (e.len F)];exact e.ext F A
theorem push_ow1 {α:Type}{e:Rp α}{Z:Nat→Prop}{z W c:Value}{t L:TypeId}{bytes:Nat}{s:Value}{h:ah}{l:List α}{x:α}{K:Value→ah→Prop}(F:e.w=1)
  (hs:Ow e Z h s l) (I:e.R Z h [c] x) (hz:z.cells.size=1) (hb:(l.length+1)*bytes≤140737488355328) (hn:l.length+1≤9223372036854775807) (hZ:∀b,Z b→b<h.size)
  (H:∀D h',Ow e Z h' D (l++[x])→Fr (blk s) h h'→(∀b,blk D b→blk s b∨h.size≤b)→K D h'):df #[W] t 1 [(0,1,c)] h λv2 h3=>di z L 1 bytes s v2 h3 K:=by
 refine da (fill_one (e.one I c (by simp))) λb h1 r1 A n1=>?_
 have U:=SlC.single (cs:=[c]) r1;rw[show[c].length=e.w by rw[F];rfl]at U;have ee:di z L 1 bytes s (.slice (some ⟨b,0,none⟩) 1 1) h1 K=di z L e.w bytes s (.slice (some ⟨b,0,none⟩) 1 1) h1 K:=by rw[F]
 rw[ee];refine app_ow (l2:=[x]) (hs.ext A) U (λi hi=>?_) (hz.trans F.symm) (by simpa using hb) (by simpa using hn) (λk G=>bT (hZ k G) A.1) λD h' o' f' n'=>
  H D h' o' (A.fr.trans f') λk G=>(n' k G).imp id λh2=>bh A.1 h2
 have hi:i=0:=by simpa using hi
 subst hi;rw[el_self (e.len I)];exact e.ext I A
end Rp
theorem aX:∀v∈([]:List Value),aQ v=true:=λv h=>absurd h (by simp)
theorem aq {a:Value}{l:List Value}(h:aQ a=true)(H:∀v∈l,aQ v=true):∀v∈a::l,aQ v=true:=λv A=>by
 rcases kq.1 A with rfl|A
 ·exact h
 ·exact H v A
theorem bB {h:ah}{b:Nat}{o:Obj}(r:h[b]? =some o):b<h.size:=(lY.1 r).1
theorem aP {h:ah}{body:(ah→Prop)→Prop}(S:ah→Prop)(A:S h)(H:body S):bJ h body:=⟨S,A,H⟩
theorem dk {c:Array Value}{t:TypeId}{n:Nat}{cs:List Value}{h:ah}{K:Value→ah→Prop}(I:cs.length=c.size)(h1:∀v∈cs,aQ v=true)(W:cs.length=n)
  (H:∀b h',h'[b]? =some (.cells cs.toArray t (0,0))→Ext h h'→h.size≤b→K (.pointer (some ⟨b,0,none⟩)) h'):aW c t h λv F=>stK n v (.agg cs.toArray) F λ_ A=>K v A:=
 aI λb F r2 U D=>cT r2 I h1 W λA L G=>H b A L (U.upd D G) D
def I64 (n:Int):Prop:= -9223372036854775808≤n∧n≤9223372036854775807
def jK (m:Nat)(below:Bool):Int:=
 if below then(if 9223372036854775808≤m then-9223372036854775808 else-(m:Int))else(if 9223372036854775807<m then 9223372036854775807 else(m:Int))
def kI (a b:Int):Bool:= !(decide (a<0)==decide (b<0))
def wR (m d:Nat)(below:Bool):Nat:=m/d+(if below then(if d<2*(m%d)then 1 else 0)else(if d≤2*(m%d)then 1 else 0))
def Fg (m d:Nat)(below:Bool):Nat:=m/d+(if below∧m%d≠0 then 1 else 0)
def IY (a b:Int):Int:=if b=0 then 0 else jK (Fg a.natAbs b.natAbs (kI a b)) (kI a b)
def cS (a b d:Int):Int:=if d=0 then 0 else jK (wR (a.natAbs*b.natAbs) d.natAbs (kI a b != decide (d<0))) (kI a b != decide (d<0))
def Dq (a b:Int):Int:=max (-9223372036854775808) (min (a+b) 9223372036854775807)
def zaV (a b:Int):Int:=jK (a.natAbs*b.natAbs) (kI a b)
theorem Pz (m:Nat)(b:Bool):I64 (jK m b):=by
 unfold jK I64;cases b
 ·simp only[gF,cF];split<;>omega
 ·simp only[cJ];split<;>omega
theorem yB (a b:Int):I64 (Dq a b):=by unfold Dq I64;omega
theorem iW (n:Int):IntKind.i64.wrap n=(n+9223372036854775808)%18446744073709551616-9223372036854775808:=by
 show(if(true&&decide (n%(2^64:Int)≥(2^63:Int)))=true then n%(2^64:Int)-(2^64:Int)else n%(2^64:Int))=_;split
 ·rename_i hh;simp only[Hk,dS]at hh;omega
 ·rename_i hh;simp only[Hk,dS]at hh;omega
theorem eZ (n:Int):IntKind.u64.wrap n=n%18446744073709551616:=by simp[IntKind.wrap,IntKind.bits,IntKind.signed]
theorem ga {m:Nat}(h:m<18446744073709551616):IntKind.u64.wrap (m:Int)=(m:Int):=by rw[eZ];omega
theorem SH {x:Int}(h:I64 x)(A:x<0):IntKind.u64.wrap (0-IntKind.u64.wrap x)=(x.natAbs:Int):=by
 unfold I64 at h;rw[eZ,eZ];omega
theorem SG {x:Int}(h:I64 x)(A:¬x<0):IntKind.u64.wrap x=(x.natAbs:Int):=by
 unfold I64 at h;rw[eZ];omega
theorem TC (n i:Nat):n/2^i=2*(n/2^(i+1))+n/2^i%2:=by
 rw[KT,←Hf];omega
theorem XA {n d q r bit:Nat}(hd:0<d)(G:n/d=q)(D:n%d=r)(H:bit≤1):
  (2*n+bit)/d=2*q+(if d≤2*r+bit then 1 else 0)∧(2*n+bit)%d=(if d≤2*r+bit then 2*r+bit-d else 2*r+bit):=by
 have h:=mW n d;rw[G,D]at h;have F:r<d:=D▸gT _ hd;have e:2*n+bit=d*(2*q)+(2*r+bit):=by
  rw[←h,CN,He];omega
 by_cases hc:d≤2*r+bit
 ·rw[aA hc,aA hc];have A:2*n+bit=(2*r+bit-d)+d*(2*q+1):=by rw[e,He d (2*q) 1];omega
  rw[A];constructor
  ·rw[Hd _ _ hd,sO ae];omega
  ·rw[KS,vy ae]
 ·rw[az hc,az hc];have A:2*n+bit=(2*r+bit)+d*(2*q):=by rw[e];omega
  rw[A];constructor
  ·rw[Hd _ _ hd,sO ae];omega
  ·rw[KS,vy ae]
def oJ (n:Nat):Value:=.agg #[.int .u64 ((n/18446744073709551616:Nat):Int),.int .u64 ((n%18446744073709551616:Nat):Int)]
end Go.Crisp
namespace Go.Proofs.YtjljhnandbbldaaGreatDoor
open Go Go.Crisp
abbrev rI:Rp Int:=Rp.int .i64
structure OpD where
 kind:Int
 border:Int
 sigma:Int
 radius:Int
 x:List Int
 y:List Int
 filter:Int
 w:Int
 hh:Int
structure OpD.Wf (o:OpD):Prop where
 kind:I64 o.kind
 border:I64 o.border
 sigma:I64 o.sigma
 radius:I64 o.radius
 filter:I64 o.filter
 w:I64 o.w
 hh:I64 o.hh
 x:∀n∈o.x,I64 n
 y:∀n∈o.y,I64 n
def rOp:Rp OpD where
 w:=9
 R:=λZ h cs o=>∃s t,cs=[.int .i64 o.kind,.int .i64 o.border,.int .i64 o.sigma,.int .i64 o.radius,s,t,.int .i64 o.filter,.int .i64 o.w,.int .i64 o.hh]∧Rp.Sl rI Z h s o.x∧Rp.Sl rI Z h t o.y
 len:=by rintro _ _ _ _ ⟨s,t,rfl,_⟩;rfl
 one:=by
  rintro _ _ _ _ ⟨s,t,rfl,H,K⟩ v hv;have:=H.one;have:=K.one;simp only[List.mem_cons,List.not_mem_nil,or_false]at hv;rcases hv with rfl|rfl|rfl|rfl|rfl|rfl|rfl|rfl|rfl<;>first|rfl|assumption
 fr:=by rintro _ _ _ _ _ _ ⟨s,t,rfl,H,K⟩ f q;exact⟨s,t,rfl,H.fr f q,K.fr f q⟩
 mono:=by rintro _ _ _ _ _ ⟨s,t,rfl,H,K⟩ q;exact⟨s,t,rfl,H.mono q,K.mono q⟩
end Go.Proofs.YtjljhnandbbldaaGreatDoor
namespace Go.Crisp
open Go Go.ChangeShapes Go.WideShapes Go.ChangeAt Go.RowKit
inductive TS where
 |int (k:IntKind)
 |bool
 |str
 |sl (e:TS) (z:Nat)
 |st (b:TS)
 |unit
 |pair (a b:TS)
def TS.T:TS→Type
 | .int _=>Int
 | .bool=>Bool
 | .str=>ByteArray
 | .sl e _=>List e.T
 | .st b=>b.T
 | .unit=>Unit
 | .pair a b=>a.T×b.T
def TS.w:TS→Nat
 | .int _=>1
 | .bool=>1
 | .str=>1
 | .sl _ _=>1
 | .st b=>b.w
 | .unit=>0
 | .pair a b=>a.w+b.w
def Rd:(t:TS)→ah→List Value→t.T→Prop
 | .int k,_,cs,n=>cs=[.int k n]∧(Lit.int k n).wf=true
 | .bool,_,cs,b=>cs=[.bool b]
 | .str,_,cs,s=>cs=[.string s]∧s.size≤140737488351232
 | .sl e z,h,cs,l=>∃a cap,cs=[.slice a (List.length l) cap]∧List.length l≤cap∧cap≤maxLen∧cap*z≤140737488351232∧
   (List.length l=0∨∃b o,(e.w=0∨a=some ⟨b,o,none⟩)∧∀i (hi:i<List.length l),∃ds:List Value,ds.length=e.w∧
    (∀j (hj:j<ds.length),aG h ⟨b,o+i*e.w+j,none⟩=some ds[j])∧Rd e h ds (List.get (α:=e.T) l ⟨i,hi⟩))
 | .st b,h,cs,x=>Rd b h cs x
 | .unit,_,cs,_=>cs=[]
 | .pair a b,h,cs,x=>∃c1 c2,cs=c1++c2∧Rd a h c1 x.1∧Rd b h c2 x.2
mutual
/--The type has this shape. -/
def TS.okB (P:Program):TS→TypeId→Bool
 | .int k,t=>match P.underlying t with|some (.int k')=>decide (k'=k)|_=>false
 | .bool,t=>match P.underlying t with|some .bool=>true|_=>false
 | .str,t=>match P.underlying t with|some .string=>true|_=>false
 | .sl e z,t=>match P.underlying t with|some (.slice e')=>P.cellsOf e'==e.w&&P.bytesOf e'==z&&e.okB P e'|_=>false
 | .st b,t=>match P.underlying t with|some (.struct fs)=>P.cellsOf t==b.w&&b.okF P fs.toList 0|_=>false
 |_,_=>false
/--The fields have these shapes,from this place on. -/
def TS.okF (P:Program):TS→List Field→Nat→Bool
 | .unit,fs,_=>match fs with| []=>true|_=>false
 | .pair a b,fs,n=>match fs with| []=>false|f::fs=>f.offset==n&&P.cellsOf f.type==a.w&&a.okB P f.type&&b.okF P fs (n+a.w)
 |_,_,_=>false
end
def Aw (l:List Nat):Prop:=∀n∈l,n≤140737488351232
theorem Ih (b o n:Nat):(⟨b,o,none⟩:Addr).add n=⟨b,o+n,none⟩:=by
 unfold Addr.add;split<;>simp_all
theorem Fj {w:World}{a:Addr}{n:Nat}{l:List Value}(h:w.cells? 0 a n=some l):l.length=n∧∀j (A:j<l.length),aG w.heap (a.add j)=some l[j]:=by
 unfold World.cells? at h;rw[aA (bZ _)]at h;have D:l.length=n:=by simpa using mapM_some_length h
 refine⟨D,λj A=>?_⟩;have:=mapM_some_get h j j (by simp[←D,A]);rw[ja A]at this;exact this
theorem yr {a b:List Nat}(h:Aw (a++b)):Aw a∧Aw b:=⟨λn A=>h n (gS.2 (.inl A)),λn A=>h n (gS.2 (.inr A))⟩
theorem MI {a:Nat}{b:List Nat}(h:Aw (a::b)):a≤140737488351232∧Aw b:=⟨h a (Hr ..),λn A=>h n (xx _ A)⟩
theorem Pp {H:Type}{P:Program}{e:TypeId}:∀{l:List (DataW H)},Aw (DataW.weightsAll P e l)→∀d∈l,Aw (d.weights P e)
 | [],_,d,hd=>by cases hd
 |x::r,h,d,hd=>by
  rw[DataW.weightsAll]at h;rcases kq.1 hd with rfl|hd
  ·exact(yr h).1
  ·exact Pp (yr h).2 d hd
theorem zaL {H:Type}{enc:TypeId×Value→H}{P:Program}{w:World}{held:Bool}(t:TS):
  (∀(id:TypeId) (fuel:Nat) (cs:List Value) (x:DataW H×List MemPlace),t.okB P id=true→DataW.trod enc P w 0 (λ_=>true) held fuel id cs=some x→Aw (x.1.weights P id)→∃d:t.T,Rd t w.heap cs d)∧
  (∀(L:List Field) (off fuel:Nat) (cs:List Value) (xs:List (DataW H×List MemPlace)),t.okF P L off=true→off+t.w=cs.length→
   L.mapM (λf=>DataW.trod enc P w 0 (λ_=>true) held fuel f.type ((cs.drop f.offset).take (P.cellsOf f.type)))=some xs→Aw (DataW.weightsEach P (L.map (·.type)) (xs.map (·.1)))→∃d:t.T,Rd t w.heap (cs.drop off) d):=by
 induction t with
 |int k=>
  refine⟨λid fuel cs x ok h D=>?_,λ_ _ _ _ _ ok=>by simp[TS.okF]at ok⟩;rw[TS.okB]at ok;split at ok<;>simp at ok
  rename_i k' G;subst ok;obtain⟨n,rfl,_,hn⟩:=DataW.trod_int G h;exact⟨n,rfl,hn⟩
 |bool=>
  refine⟨λid fuel cs x ok h D=>?_,λ_ _ _ _ _ ok=>by simp[TS.okF]at ok⟩;rw[TS.okB]at ok;split at ok<;>simp at ok
  rename_i G;obtain⟨n,rfl,_⟩:=DataW.trod_bool G h;exact⟨n,by simp[Rd]⟩
 |str=>
  refine⟨λid fuel cs x ok h D=>?_,λ_ _ _ _ _ ok=>by simp[TS.okF]at ok⟩;rw[TS.okB]at ok;split at ok<;>simp at ok
  rename_i G;obtain⟨s,rfl,rfl,_⟩:=DataW.trod_string G h;simp only[DataW.weights]at D;have:=(MI D).1;exact⟨s,rfl,by rw[Hz]at this;exact this⟩
 | sl e z ih=>
  refine⟨λid fuel cs x ok h D=>?_,λ_ _ _ _ _ ok=>by simp[TS.okF]at ok⟩;rw[TS.okB]at ok;split at ok<;>simp at ok
  rename_i e' G;obtain⟨⟨hc,hz⟩,ok⟩:=ok;rcases DataW.trod_slice G h with⟨rfl,rfl⟩|⟨a,len,cap,I,rest,n,rfl,rfl,rfl,_,bd,aw,b0,hi,bo,_⟩
  ·exact⟨([]:List e.T),none,0,rfl,bU _,bZ _,by simp,.inl rfl⟩
  ·obtain⟨b1,_⟩:=bo rfl;rw[DataW.weights,G]at D;simp only[cV]at D;obtain⟨ab,D⟩:=MI D;have D:=Pp (yr D).1;have ad:I.length+rest.length=cap:=ae;rw[ad,hz]at ab;have each:∀i,i<len→∃(ds:List Value) (x:e.T),ds.length=e.w∧(∀j (U:j<ds.length),aG w.heap ((a.add (i*e.w)).add j)=some ds[j])∧Rd e w.heap ds x:=by
    intro i A;have h1:=hi i A;have al:i<I.length:=ae;rw[ja al]at h1;rw[RI]at h1;obtain⟨ds,an,h1⟩:=h1;rw[hc]at an;obtain⟨W,U⟩:=Fj an;obtain⟨x,hx⟩:=ih.1 e' n ds _ ok h1 (D _ (iG.2 ⟨_,cQ al,rfl⟩));exact⟨ds,x,W,U,hx⟩
   let f (i:Nat):Option e.T:=if A:i<len then some (each i A).choose_spec.choose else none
   have hf:∀i,i<len→∃y,f i=some y:=λi A=>⟨_,Hb A⟩
   obtain⟨l,W⟩:∃l,(List.range len).mapM f=some l:=by
    have:∀(r:List Nat),(∀i∈r,i<len)→∃l,r.mapM f=some l:=by
     intro r;induction r with
     |nil=>exact λ_=>⟨[],rfl⟩
     |cons i r be=>
      intro hr;obtain⟨y,hy⟩:=hf i (hr i (Hr ..));obtain⟨l,W⟩:=be λk G=>hr k (xx _ G)
      exact⟨y::l,by simp[Hq,hy,W]⟩
    exact this _ λi hi=>xy.1 hi
   have aa:l.length=len:=by simpa using mapM_some_length W
   refine⟨l,some a,cap,by rw[aa],by rw[aa];exact bd,aw,ab,?_⟩;by_cases ar:List.length l=0
   ·exact .inl ar
   ·have hs:e.w=0∨a=⟨a.block,a.off,none⟩:=by
     by_cases h0:e.w=0
     ·exact .inl h0
     ·refine .inr ?_;obtain⟨ds,x,b2,U,_⟩:=each 0 ae;have U:=U 0 ae;obtain⟨b,o,sp⟩:=a;cases sp with
      |none=>rfl
      |some s=>simp[aG,Addr.add]at U;split at U<;>simp at U
    refine .inr ⟨a.block,a.off,hs.imp (λh=>h) (congrArg some),λi A=>?_⟩
    ·have F:i<len:=by rw[←aa];exact A
     obtain⟨h1,h2,h3⟩:=(each i F).choose_spec.choose_spec;have hx:l.get ⟨i,A⟩=(each i F).choose_spec.choose:=by
      have:=mapM_some_get W i i (by simp[F]);rw[show f i=some (each i F).choose_spec.choose from Hb F,ja A]at this;exact(sQ this).symm
     refine⟨(each i F).choose,h1,λj U=>?_,?_⟩
     ·have h2:=h2 j U;rcases hs with h0|ha
      ·omega
      ·have a9:(a.add (i*e.w)).add j=⟨a.block,a.off+i*e.w+j,none⟩:=by rw[ha,Ih,Ih]
       exact a9▸h2
     ·rw[show List.get (α:=e.T) l ⟨i,A⟩=_ from hx];exact h3
 | st b ih=>
  refine⟨λid fuel cs x ok h D=>?_,λ_ _ _ _ _ ok=>by simp[TS.okF]at ok⟩;rw[TS.okB]at ok;split at ok<;>simp at ok
  rename_i L G;obtain⟨hc,ok⟩:=ok;cases fuel with
  |zero=>simp[DataW.trod]at h
  | succ n=>
   unfold DataW.trod at h;rw[G]at h;simp only at h;split at h
   ·rename_i bk;rw[Option.map_eq_some_iff]at h;obtain⟨xs,ax,rfl⟩:=h;rw[DataW.weights,G]at D;obtain⟨d,hd⟩:=ih.2 L.toList 0 n cs xs ok (by rw[bk,hc];omega) ax D;exact⟨d,by simpa[Rd]using hd⟩
   ·simp at h
 |unit=>
  refine⟨λid fuel cs x ok h D=>by simp[TS.okB]at ok,λL off fuel cs xs ok W h D=>⟨(),?_⟩⟩;simp only[Rd];simp[TS.w]at W;exact qp ae
 | pair a b bv a7=>
  refine⟨λid fuel cs x ok h D=>by simp[TS.okB]at ok,λL off fuel cs xs ok W h D=>?_⟩;cases L with
  |nil=>simp[TS.okF]at ok
  |cons f L=>
   simp[TS.okF]at ok;obtain⟨⟨⟨ho,hc⟩,bc⟩,ay⟩:=ok;rw[Hq]at h;simp only[Option.bind_eq_bind,RI,Option.pure_def,cE]at h;obtain⟨x,hx,ys,a8,rfl⟩:=h;simp only[uo,DataW.weightsEach]at D;obtain⟨bg,au⟩:=yr D;obtain⟨d1,h1⟩:=bv.1 f.type fuel _ x bc hx bg;obtain⟨d2,h2⟩:=a7.2 L (off+a.w) fuel cs ys ay (by simp[TS.w]at W;omega) a8 au;refine⟨(d1,d2),(cs.drop off).take a.w,cs.drop (off+a.w),?_,?_,h2⟩
   ·rw[←Hn];exact(lW ..).symm
   ·rw[←hc,←ho];exact h1
def RdV:(t:TS)→ah→Value→t.T→Prop
 | .st b,h,v,x=>∃cs:Array Value,v=.agg cs∧Rd b h cs.toList x
 | .int k,h,v,x=>Rd (.int k) h [v] x
 | .bool,h,v,x=>Rd .bool h [v] x
 | .str,h,v,x=>Rd .str h [v] x
 | .sl e z,h,v,x=>Rd (.sl e z) h [v] x
 |_,_,_,_=>False
def vU:List TS→ah→List Value→Prop
 | [],_,vs=>vs=[]
 |t::ts,h,vs=>∃v r,vs=v::r∧(∃x:t.T,RdV t h v x)∧vU ts h r
def GL (P:Program):List TS→List TypeId→Bool
 | [],ids=>match ids with| []=>true|_=>false
 |t::ts,ids=>match ids with| []=>false|id::ids=>t.okB P id&&GL P ts ids
theorem zcg {H:Type}{enc:TypeId×Value→H}{P:Program}{w:World}{held:Bool}{r:Reach}{F:Nat}{t:TS}{id:TypeId}{v:Value}{d:DataW H}{L:List MemPlace}
  (ok:t.okB P id=true) (A:Value.okWide P w r F id v) (h:DataW.Trod enc P w 0 (λ_=>true) held id v d L) (I:Aw (d.weights P id)):∃x:t.T,RdV t w.heap v x:=by
 obtain⟨fuel,U⟩:=h;obtain⟨x,G⟩:=(zaL t).1 id fuel _ _ ok U I;cases t with
 |int k=>
  rw[TS.okB]at ok;split at ok<;>simp at ok
  rename_i D;obtain⟨n,rfl⟩:=okWide_int D A;exact⟨x,G⟩
 |bool=>
  rw[TS.okB]at ok;split at ok<;>simp at ok
  rename_i D;obtain⟨n,rfl⟩:=okWide_bool D A;exact⟨x,G⟩
 |str=>
  rw[TS.okB]at ok;split at ok<;>simp at ok
  rename_i D;obtain⟨n,rfl⟩:=okWide_string D A;exact⟨x,G⟩
 |sl e z=>
  rw[TS.okB]at ok;split at ok<;>simp at ok
  rename_i D;obtain⟨a,l,c,rfl⟩:=okWide_slice D A;exact⟨x,G⟩
 |st b=>
  rw[TS.okB]at ok;split at ok<;>simp at ok
  rename_i D;obtain⟨cs,rfl,_⟩:=okWide_struct D A;exact⟨x,cs,rfl,G⟩
 |unit=>simp[TS.okB]at ok
 |pair a b=>simp[TS.okB]at ok
theorem Xd {H:Type}{enc:TypeId×Value→H}{P:Program}{w:World}{held:Bool}{r:Reach}{A:Nat}:∀{ts:List TS} {ids:List TypeId} {D:List Value} {ds:List (DataW H)} {L:List MemPlace},
  GL P ts ids=true→(∀(j:Nat) t v,ids[j]? =some t→D[j]? =some v→Value.okWide P w r A t v)→DataW.TrodAll enc P w 0 (λ_=>true) held ids D ds L→
  Aw (DataW.weightsEach P ids ds)→vU ts w.heap D
 | [],ids,D,ds,L,ok,_,h,_=>by
  cases ids with
  |nil=>exact(trodAll_nil h).1
  |cons=>simp[GL]at ok
 | t::ts,ids,D,ds,L,ok,hval,h,hw=>by
  cases ids with
  |nil=>simp[GL]at ok
  |cons id ids=>
   simp[GL]at ok;obtain⟨v,I,d,aa,p,q,rfl,rfl,rfl,h1,W⟩:=trodAll_cons h;rw[DataW.weightsEach]at hw;obtain⟨F,G⟩:=yr hw;exact⟨v,I,rfl,zcg ok.1 (hval 0 id v rfl rfl) h1 F,Xd ok.2 (λj t v U hv=>hval (j+1) t v U hv) W G⟩
theorem PI {H:Type}{enc:TypeId×Value→H}{P:Program}{W G:World}(F:laidOutB P=true)(I:Below W.heap.size W G):∀{ids:List TypeId} {D:List Value} {ds:List (DataW H)} {A:List MemPlace},
  ids.all (λt=>P.readableRec t&&decide (t<P.types.size))=true→DataW.TrodAll enc P W 0 (λ_=>true) true ids D ds A→DataW.TrodAll enc P G 0 (λb=>decide (b<W.heap.size)) true ids D ds A
 | [],D,ds,A,_,h=>by obtain⟨rfl,rfl,rfl⟩:=trodAll_nil h;exact trodAll_mk0
 |t::ids,D,ds,A,hr,h=>by
  simp only[List.all_cons,dh,dS]at hr;obtain⟨v,U,d,aa,p,q,rfl,rfl,rfl,h1,h2⟩:=trodAll_cons h;refine trodAll_cons_mk (Below.trod F hr.1.1 hr.1.2 h1 I ?_) (PI F I hr.2 h2);obtain⟨m,L⟩:=h1;exact DataW.trod_lt m _ _ _ L
end Go.Crisp
namespace Go.Crisp
open Go
theorem UC {e:TS}{z:Nat}{h:ah}{cs:List Value}{l:List e.T}(enc:e.T→Value)(Q:e.T→Prop)(W:e.w=1)(U:∀ds x,Rd e h ds x→ds=[enc x]∧Q x)(H:Rd (.sl e z) h cs l):
  ∃v,cs=[v]∧SlC 1 h v l.length (l.map enc)∧(∀x∈l,Q x)∧l.length*z≤140737488351232:=by
 obtain⟨a,cap,rfl,h1,_,h2,A⟩:=H;have L:l.length*z≤140737488351232:=bh (ic z h1) h2;rcases A with A|⟨b,o,D,A⟩
 ·have:l=[]:=mX A;subst this;exact⟨_,rfl,⟨rfl,a,cap,rfl,.inl rfl⟩,λx F=>absurd F (by simp),L⟩
 ·have D:a=some ⟨b,o,none⟩:=D.resolve_left ae;refine⟨_,rfl,⟨by simp,a,cap,rfl,.inr ⟨b,o,D,λj I=>?_⟩⟩,λx F=>?_,L⟩
  ·rw[cV]at I;obtain⟨ds,_,hc,G⟩:=A j I;obtain⟨rfl,_⟩:=U _ _ G;have:=hc 0 (by simp);rw[W]at this;simp only[lX,iE,CS]at this;rw[eU];exact this
  ·obtain⟨i,hi,rfl⟩:=oC.1 F;obtain⟨ds,_,hc,G⟩:=A i hi;exact(U _ _ G).2
theorem zbX {n:Int}(h:(Lit.int .u8 n).wf=true):0≤n∧n≤255:=by
 have h:(decide (IntKind.u8.min≤n)&&decide (n≤IntKind.u8.max))=true:=h;rw[dh,dS,dS]at h;exact h
theorem BO {n:Int}(h:(Lit.int .i64 n).wf=true): -9223372036854775808≤n∧n≤9223372036854775807:=by
 have h:(decide (IntKind.i64.min≤n)&&decide (n≤IntKind.i64.max))=true:=h;rw[dh,dS,dS]at h;exact h
theorem zcd {h:ah}{cs:List Value}{z:Nat}{l:List Int}(H:Rd (.sl (.int .u8) z) h cs l):
  ∃v,cs=[v]∧SlC 1 h v l.length (l.map (.int .u8))∧(∀x∈l,0≤x∧x≤255)∧l.length*z≤140737488351232:=
 UC (e:=.int .u8) (Value.int .u8) (λx:Int=>0≤x∧x≤255) rfl (λds x A=>⟨A.1,zbX A.2⟩) H
theorem zaJ (e:EK)(k:IntKind)(a b:Nat)(h:0<b):ak e .rem (.int k (a:Int)) (.int k (b:Int))=some (.int k ((a%b:Nat):Int)):=by
 rw[dP _ _ _ _ ae,Int.ofNat_tmod]
end Go.Crisp
namespace Go.Proofs.YtjljhnandbbldaaGreatDoor
open Go Go.Crisp
abbrev tI:TS:=.int .i64
abbrev tIs:TS:=.sl (.int .i64) 8
abbrev tOp:TS:=.pair tI (.pair tI (.pair tI (.pair tI (.pair tIs (.pair tIs (.pair tI (.pair tI (.pair tI .unit))))))))
def Tb (x:tOp.T):OpD:=⟨x.1,x.2.1,x.2.2.1,x.2.2.2.1,x.2.2.2.2.1,x.2.2.2.2.2.1,x.2.2.2.2.2.2.1,x.2.2.2.2.2.2.2.1,x.2.2.2.2.2.2.2.2.1⟩
theorem Xs {h:ah}{v:Value}{l:List Int}(H:SlC 1 h v l.length (l.map (Value.int .i64))):Rp.Sl rI (λ_=>True) h v l:=
 ⟨_,H,λ_ _ _=>trivial,λi hi=>by
  show Rp.el 1 _ i=[af l[i]];rw[Rp.el_one (by simpa using hi),eU]⟩
theorem WI {h:ah}{cs:List Value}{l:List Int}(H:Rd tIs h cs l):∃v,cs=[v]∧Rp.Sl rI (λ_=>True) h v l∧∀n∈l,I64 n:=by
 obtain⟨v,rfl,h1,D,_⟩:=UC (e:=.int .i64) (Value.int .i64) I64 rfl (λds x A=>⟨A.1,BO A.2⟩) H;exact⟨v,rfl,Xs h1,D⟩
theorem zbZ {h:ah}{cs:List Value}{x:tOp.T}(H:Rd tOp h cs x):rOp.R (λ_=>True) h cs (Tb x)∧(Tb x).Wf:=by
 obtain⟨_,_,rfl,⟨rfl,a1⟩,_,_,rfl,⟨rfl,a2⟩,_,_,rfl,⟨rfl,a3⟩,_,_,rfl,⟨rfl,a4⟩,_,_,rfl,a5,_,_,rfl,a6,_,_,rfl,⟨rfl,I⟩,_,_,rfl,⟨rfl,D⟩,_,_,rfl,⟨rfl,G⟩,rfl⟩:=H;obtain⟨s,rfl,F,A⟩:=WI a5;obtain⟨t,rfl,t1,t2⟩:=WI a6;exact⟨⟨s,t,rfl,F,t1⟩,⟨BO a1,BO a2,BO a3,BO a4,BO I,BO D,BO G,A,t2⟩⟩
theorem zcm {h:ah}{cs:List Value}{x:tOp.T}(H:Rd tOp h cs x):(Tb x).x.length≤17592186044416∧(Tb x).y.length≤17592186044416:=by
 obtain⟨_,_,rfl,_,_,_,rfl,_,_,_,rfl,_,_,_,rfl,_,_,_,rfl,a5,_,_,rfl,a6,_⟩:=H;obtain⟨_,I,_,h1,_,F,_⟩:=a5;obtain⟨_,U,_,G,_,L,_⟩:=a6;have D:(Tb x).x.length=List.length (α:=tI.T) x.2.2.2.2.1:=rfl;have A:(Tb x).y.length=List.length (α:=tI.T) x.2.2.2.2.2.1:=rfl;rw[D,A];omega
end Go.Proofs.YtjljhnandbbldaaGreatDoor
namespace Go.Proofs.YtjljhnandbbldaaGreatDoor
open Go Go.Crisp
open _root_.Go.Proofs.Tryz
section
variable {a0 a1 a2 a3 a4 a5 a6:Value}{h:ah}{R:Value→ah→Prop}
abbrev pA:FuncId:=3
abbrev kl:FuncId:=7
abbrev qZ:FuncId:=8
abbrev xg:FuncId:=9
abbrev iT:FuncId:=10
abbrev gq:FuncId:=11
abbrev fX:FuncId:=12
abbrev dO:FuncId:=13
abbrev kN:FuncId:=14
abbrev aV:FuncId:=16
abbrev pg:FuncId:=18
abbrev bL:FuncId:=28
abbrev bN:FuncId:=29
abbrev sC:FuncId:=31
abbrev nF:FuncId:=32
abbrev xI:FuncId:=33
abbrev xH:FuncId:=34
abbrev zR:FuncId:=35
abbrev nh:FuncId:=36
abbrev gy:FuncId:=37
abbrev eW:FuncId:=38
abbrev iu:FuncId:=39
abbrev Cj:FuncId:=40
abbrev lM:FuncId:=41
abbrev qM:FuncId:=42
abbrev qJ:FuncId:=43
abbrev ku:FuncId:=44
abbrev dY:FuncId:=46
abbrev tf:FuncId:=47
abbrev vM:FuncId:=48
abbrev iU:FuncId:=49
abbrev qY:FuncId:=56
abbrev iQ:FuncId:=59
abbrev gn:FuncId:=60
abbrev NO:FuncId:=61
abbrev uI:FuncId:=62
abbrev Cs:FuncId:=63
abbrev oL:FuncId:=64
abbrev nE:FuncId:=65
abbrev xJ:FuncId:=66
abbrev cO:FuncId:=67
abbrev eE:FuncId:=68
abbrev jl:FuncId:=69
abbrev kw:FuncId:=70
abbrev jF:FuncId:=71
abbrev bI:FuncId:=72
abbrev dp:FuncId:=73
abbrev zS:FuncId:=74
abbrev nG:FuncId:=75
abbrev dN:FuncId:=76
abbrev sD:FuncId:=77
abbrev mc:FuncId:=78
abbrev iR:FuncId:=79
abbrev zW:FuncId:=80
abbrev vS:FuncId:=81
abbrev NP:FuncId:=82
abbrev Cl:FuncId:=83
abbrev zV:FuncId:=84
abbrev lz:FuncId:=85
abbrev ll:FuncId:=86
abbrev lk:FuncId:=87
abbrev xD:FuncId:=88
abbrev uA:FuncId:=89
abbrev iz:FuncId:=90
abbrev iS:FuncId:=91
abbrev qN:FuncId:=92
abbrev ng:FuncId:=93
abbrev iy:FuncId:=94
abbrev fZ:FuncId:=95
abbrev gM:FuncId:=96
abbrev qL:FuncId:=97
abbrev jX:FuncId:=98
abbrev pf:FuncId:=99
abbrev iH:FuncId:=100
abbrev gN:FuncId:=101
abbrev uG:FuncId:=102
abbrev fY:FuncId:=103
abbrev mH:FuncId:=104
abbrev bF:FuncId:=105
abbrev vR:FuncId:=106
abbrev vQ:FuncId:=112
abbrev rh:FuncId:=113
abbrev my:FuncId:=117
abbrev ri:FuncId:=118
abbrev zQ:FuncId:=119
abbrev lg:FuncId:=120
abbrev zT:FuncId:=121
abbrev oQ:FuncId:=122
abbrev xL:FuncId:=123
abbrev xK:FuncId:=124
abbrev oM:FuncId:=125
abbrev gx:FuncId:=126
abbrev dI:FuncId:=127
abbrev kz:FuncId:=128
abbrev kZ:FuncId:=129
abbrev jd:FuncId:=130
abbrev fT:FuncId:=131
abbrev xe:FuncId:=132
abbrev me:FuncId:=133
abbrev kQ:FuncId:=134
abbrev dx:FuncId:=135
abbrev Jm:FuncId:=136
abbrev uB:FuncId:=137
abbrev zK:FuncId:=138
abbrev zJ:FuncId:=139
abbrev Ct:FuncId:=140
abbrev zI:FuncId:=141
abbrev qU:FuncId:=142
abbrev Fx:FuncId:=143
abbrev jG:FuncId:=144
abbrev gH:FuncId:=145
abbrev z7:FuncId:=146
abbrev oT:FuncId:=147
abbrev lB:FuncId:=148
abbrev mL:FuncId:=149
abbrev fS:FuncId:=150
abbrev gL:FuncId:=151
abbrev dd:FuncId:=152
abbrev dJ:FuncId:=153
abbrev xQ:FuncId:=157
abbrev xR:FuncId:=158
abbrev oP:FuncId:=162
abbrev Db:FuncId:=163
abbrev jE:FuncId:=164
abbrev kM:FuncId:=165
abbrev mJ:FuncId:=166
abbrev Ci:FuncId:=167
abbrev sA:FuncId:=168
abbrev q8:FuncId:=169
abbrev xM:FuncId:=170
abbrev vT:FuncId:=171
abbrev vL:FuncId:=172
abbrev Fw:FuncId:=173
abbrev iM:FuncId:=174
abbrev l8:FuncId:=175
abbrev mZ:FuncId:=176
abbrev lh:FuncId:=177
abbrev zU:FuncId:=178
abbrev lK:FuncId:=179
abbrev oZ:FuncId:=180
abbrev qG:FuncId:=181
abbrev zL:FuncId:=182
abbrev pd:FuncId:=183
abbrev o0:FuncId:=184
abbrev q9:FuncId:=185
abbrev sF:FuncId:=186
abbrev fV:FuncId:=188
abbrev xf:FuncId:=199
abbrev zP:FuncId:=200
abbrev Cr:FuncId:=201
abbrev zG:FuncId:=202
abbrev zH:FuncId:=203
abbrev kn:FuncId:=204
abbrev eV:FuncId:=205
abbrev ma:FuncId:=206
abbrev mf:FuncId:=207
abbrev xb:FuncId:=208
abbrev zY:FuncId:=209
abbrev fU:FuncId:=210
abbrev eG:FuncId:=211
abbrev xN:FuncId:=212
abbrev jZ:FuncId:=213
abbrev fW:FuncId:=214
abbrev pB:FuncId:=215
abbrev zZ:FuncId:=216
abbrev oN:FuncId:=217
abbrev kL:FuncId:=218
abbrev qF:FuncId:=219
abbrev l9:FuncId:=220
abbrev sY:FuncId:=221
abbrev oU:FuncId:=222
abbrev sX:FuncId:=223
abbrev oW:FuncId:=224
abbrev xd:FuncId:=225
abbrev iN:FuncId:=226
abbrev xG:FuncId:=227
abbrev xE:FuncId:=228
abbrev dj:FuncId:=229
abbrev Jl:FuncId:=236
abbrev zO:FuncId:=237
abbrev vP:FuncId:=238
abbrev vN:FuncId:=239
abbrev dT:FuncId:=240
abbrev mI:FuncId:=241
abbrev xa:FuncId:=242
abbrev xh:FuncId:=243
abbrev iV:FuncId:=244
abbrev lN:FuncId:=245
abbrev io:FuncId:=246
abbrev kP:FuncId:=247
abbrev km:FuncId:=248
abbrev Fy:FuncId:=249
abbrev zX:FuncId:=250
abbrev tg:FuncId:=251
abbrev oO:FuncId:=252
abbrev sw:FuncId:=253
abbrev eF:FuncId:=254
abbrev pu:FuncId:=255
abbrev gA:FuncId:=256
abbrev xP:FuncId:=257
abbrev xO:FuncId:=258
abbrev uE:FuncId:=259
abbrev mK:FuncId:=260
abbrev oV:FuncId:=261
abbrev qE:FuncId:=262
abbrev oS:FuncId:=263
abbrev Cn:FuncId:=264
abbrev qH:FuncId:=265
abbrev vO:FuncId:=266
abbrev uD:FuncId:=267
abbrev Cm:FuncId:=268
abbrev qX:FuncId:=269
abbrev mx:FuncId:=270
abbrev Cq:FuncId:=271
abbrev xF:FuncId:=272
abbrev uC:FuncId:=273
abbrev qV:FuncId:=274
abbrev gh:FuncId:=275
abbrev te:FuncId:=276
abbrev Fv:FuncId:=278
abbrev xc:FuncId:=279
abbrev sW:FuncId:=280
abbrev qT:FuncId:=281
abbrev iC:FuncId:=282
abbrev Cu:FuncId:=283
abbrev dm:FuncId:=284
abbrev bS:FuncId:=285
abbrev Il:FuncId:=286
abbrev kO:FuncId:=287
abbrev ir:FuncId:=288
abbrev gU:FuncId:=289
abbrev oR:FuncId:=290
abbrev eM:FuncId:=291
abbrev lL:FuncId:=292
abbrev zN:FuncId:=293
abbrev sZ:FuncId:=294
abbrev uF:FuncId:=295
abbrev iO:FuncId:=296
abbrev dK:FuncId:=297
abbrev fi:FuncId:=298
abbrev iP:FuncId:=299
abbrev qW:FuncId:=300
abbrev jY:FuncId:=301
abbrev uz:FuncId:=302
abbrev zF:FuncId:=303
abbrev iq:FuncId:=304
abbrev dF:FuncId:=306
abbrev Co:FuncId:=307
abbrev qI:FuncId:=308
abbrev pe:FuncId:=309
abbrev dc:FuncId:=310
abbrev oK:Nat:=0
abbrev fH:Nat:=1
abbrev yE:Nat:=2
abbrev vZ:Nat:=3
theorem zbc:WP prog=true:=rfl
instance:kY prog:=⟨zbc⟩
abbrev Dc:Array Value:=#[(.pointer none),(.pointer none),(.pointer none),(.pointer none),(.int .i64 0),(.int .i64 0),(.int .i64 0),(.int .i64 0),(.int .i64 0),(.int .i64 0),(.int .i64 0),(.int .i64 0),(.int .i64 0),(.int .i64 0),(.int .i64 0),(.pointer none),(.int .i64 0)]
abbrev pW:Array Value:=#[(.pointer none),(.pointer none),(.pointer none),(.pointer none),(.pointer none),(.slice none 0 0),(.slice none 0 0),(.slice none 0 0),(.int .i64 0),(.slice none 0 0),(.slice none 0 0),(.slice none 0 0),(.bool false),(.int .i64 0)]
abbrev aJ:Array Value:=#[(.slice none 0 0),(.slice none 0 0),(.int .i64 0),(.int .i64 0),(.int .i64 0),(.int .i64 0),(.slice none 0 0),(.slice none 0 0),(.int .i64 0),(.slice none 0 0),(.bool false),(.slice none 0 0),(.slice none 0 0),(.slice none 0 0),(.int .i64 0),(.bool false),(.bool false),(.slice none 0 0),(.slice none 0 0),(.slice none 0 0)]
def vg (a0 a1 a2 a3 a4 a5 a6:Value)(h:ah)(R:Value→ah→Prop):Prop:=
 aW (Value.cells a0) 25 h λac av=>
 aW (Value.cells a1) 31 av λad aw=>
 ag prog kl #[] aw λax m=>
 vK (unV .not ax) λn=>
 vK (gV n false (some a6)) λay=>
 vK (gV n false (aD ay)) λaz=>
 vK (gV n false (ak .i .gtr az (af 600))) λa7=>
 vK (aE n (.bool true) a7) λa8=>
 aF a8 (
 ag prog kl #[] m λa9 ba=>
 R a9 ba) (
 vK (aO 5 m ac) λbb=>
 vK (aO 9 m ad) λbc=>
 ag prog qZ #[bb,bc,a2,a3,a4,a5] m λo bd=>
 vK (aL o 0) λd4=>
 vK (aL o 1) λa=>
 vK (aL o 2) λbe=>
 vK (aL o 3) λbf=>
 aW aJ 48 bd λq bg=>
 stK 20 q be bg λd5 j=>
 vK (unV .not bf) λbh=>
 aF bh (
 vK (aO 5 j ac) λbi=>
 vK (aO 9 j ad) λbj=>
 ag prog xg #[bi,bj] j λbk bl=>
 vK (unV .not bk) λbm=>
 R bm bl) (
 vK (ak .p .eql a (.pointer none)) λbn=>
 aF bn (
 R (.bool false) j) (
 vK (ak .i .rem a5 (.int .u8 4)) λbo=>
 vK (gd .i64 bo) λbp=>
 vK (ak .i .add aH bp) λbq=>
 eK (λae=>
 aZ [ai,ai] j λb d6 aj br=>
 vK (ak .i .lss (ix b 1) (af 200000)) λbs=>
 aF bs (
 ag prog iT #[a] aj λk bt=>
 ag prog gq #[a] bt λr s=>
 vK (gV r false (some k)) λbv=>
 vK (gV r false (aD bv)) λbw=>
 vK (gV r false (ak .i .eql bw ai)) λbx=>
 vK (aE r (.bool true) bx) λbz=>
 aF bz (
 ae [(ix b 0)] s) (
 eK (λal=>
 vK (aD a6) λb0=>
 vK (ak .i .lss (ix b 1) b0) λb1=>
 aF b1 (
 vK (bu 1 a6 (ix b 1)) λb2=>
 vK (ldV s b2) λb3=>
 vK (gd .i64 b3) λb4=>
 al [b4] s) (
 al [ai] s))
 λb5 d7 am=>
 vK (aD k) λb6=>
 vK (ak .i .rem (ix b5 0) b6) λb7=>
 vK (bu 1 k b7) λb8=>
 vK (ldV am b8) λan=>
 ag prog fX #[a] am λb9 ca=>
 aZ [ai] ca λt d8 u cb=>
 vK (ak .i .lss (ix t 0) b9) λcc=>
 aF cc (
 vK (aD k) λcd=>
 aZ [(.bool false),ai] u λc d9 v ce=>
 vK (ak .i .lss (ix c 1) cd) λcf=>
 aF cf (
 vK (bu 1 k (ix c 1)) λcg=>
 vK (ldV v cg) λch=>
 vK (gV (ix c 0) false (some ch)) λci=>
 vK (gV (ix c 0) false (some (ix t 0))) λcj=>
 vK (gV (ix c 0) false (ak .i .eql ci cj)) λck=>
 vK (aE (ix c 0) (.bool true) ck) λcl=>
 vK (ak .i .add (ix c 1) aH) λcm=>
 ce [cl,cm] v) (
 vK (unV .not (ix c 0)) λw=>
 vK (gV w true (some a)) λcn=>
 vK (gV w true (some (ix t 0))) λco=>
 gK w true (λcp=>ag prog dO #[cn,co] v cp) v λcq ao=>
 vK (aE w cq (.bool false)) λcr=>
 aF cr (
 R (.bool false) ao) (
 vK (ak .i .add (ix t 0) aH) λcs=>
 cb [cs] ao))) (
 eK (λap=>
 vK (ak .i .eql an ai) λe=>
 vK (gV e true (some (ix b 0))) λct=>
 vK (gV e true (aB 6 q)) λcu=>
 vK (gV e true (ldV u cu)) λcv=>
 vK (gV e true (aD cv)) λcw=>
 vK (gV e true (ak .i .lss ct cw)) λcx=>
 vK (aE e cx (.bool false)) λcy=>
 aF cy (
 vK (ak .i .add (ix b 0) aH) λcz=>
 ap [cz] u) (
 ap [(ix b 0)] u))
 λz ea c0=>
 ag prog dO #[a,an] c0 λc1 aq=>
 vK (unV .not c1) λc2=>
 aF c2 (
 R (.bool false) aq) (
 ag prog fX #[a] aq λc3 c4=>
 aZ [ai,ai] c4 λd eb aa c5=>
 vK (ak .i .lss (ix d 1) c3) λc6=>
 aF c6 (
 ag prog kN #[a,(ix d 1)] aa λc7 c8=>
 vK (aD c7) λc9=>
 vK (ak .i .add (ix d 0) c9) λda=>
 vK (ak .i .add (ix d 1) aH) λdb=>
 c5 [da,db] c8) (
 vK (ak .i .sub (ix z 0) (ix d 0)) λdc=>
 vK (ak .i .gtr dc bq) λx=>
 vK (gV x false (some (ix d 0))) λdd=>
 vK (gV x false (some (ix z 0))) λde=>
 vK (gV x false (ak .i .gtr dd de)) λdf=>
 vK (aE x (.bool true) df) λl=>
 vK (gV l false (some a)) λdg=>
 gK l false (λdh=>ag prog gq #[dg] aa dh) aa λdi ab=>
 vK (gV l false (some di)) λf=>
 vK (gV f true (some (ix d 0))) λdj=>
 vK (gV f true (aB 6 q)) λdk=>
 vK (gV f true (ldV ab dk)) λdl=>
 vK (gV f true (aD dl)) λdm=>
 vK (gV f true (ak .i .lss dj dm)) λdn=>
 vK (gV l false (aE f dn (.bool false))) λdp=>
 vK (aE l (.bool true) dp) λdq=>
 aF dq (
 R (.bool false) ab) (
 vK (ak .i .add (ix b 1) aH) λdr=>
 br [(ix z 0),dr] ab)))))) (
 ae [(ix b 0)] aj))
 λds ec dt=>
 ag prog gq #[a] dt λy ar=>
 vK (gV y true (some a)) λdu=>
 gK y true (λdv=>ag prog dO #[du,ai] ar dv) ar λdw au=>
 vK (gV y true (unV .not dw)) λdx=>
 vK (aE y dx (.bool false)) λg=>
 vK (gV g true (some (ix ds 0))) λdy=>
 vK (gV g true (aB 6 q)) λdz=>
 vK (gV g true (ldV au dz)) λd0=>
 vK (gV g true (aD d0)) λd1=>
 vK (gV g true (ak .i .eql dy d1)) λd2=>
 vK (aE g d2 (.bool false)) λd3=>
 R d3 au)))
theorem ER (H:vg a0 a1 a2 a3 a4 a5 a6 h R):ag prog pA #[a0,a1,a2,a3,a4,a5,a6] h R:=fk f3 (.s .z (.s (.s .z (.s (.s .z .z) .z)) (.s .z (.s (.s .z (.s (.s .z .z) .z)) (.s (.s .z (.s (.s .z .z) .z)) (.s .z (.s (.s .z (.m 93536104789177786765035829293832889885944704417792 [19] (.l 93536104789177786765035829293832889885944704417792 [19,63] (.s .z (.s (.s .z .z) (.s (.s .z (.s .z (.s (.s .z (.s .z .z)) (.s .z (.j 19305034181971109650366464 [24] (.s .z (.s .z .z)) (.s .z (.s (.s .z (.l 166153489569594169829933684080263168 [93] (.s .z (.s (.s .z .z) (.s (.s .z (.s .z (.s (.s .z (.l 648720194666796396215938536439808 [27,98] (.s .z (.s (.s .z .z) (.s (.s .z .z) .z))))) (.s .z (.s (.s .z .z) .z))))) .z))))) (.j 340116213421465348979261631549233692672 [19] (.s .z (.s .z .z)) (.s (.s .z (.s (.s .z .z) .z)) (.s .z (.s (.s .z (.l 22278967127047683079874062297772729415237632 [20,134] (.s .z (.s (.s .z .z) (.s (.s .z .z) .z))))) (.s .z (.s (.s .z .z) .z))))))))))))) .z)))))) (.s .z .z)))))))) H
def A2 (h:ah)(R:Value→ah→Prop):Prop:=
 df #[(.int .u16 0)] 22 1 [(0,1,(.int .u16 9))] h λae aj=>
 ag prog sC #[aH,aH,aH,(af 255),ae] aj λo al=>
 vK (aL o 0) λam=>
 vK (aL o 1) λan=>
 vK ((aM #[ai,ai,ai,ai,(.slice none 0 0),(.slice none 0 0),ai,ai,ai] [(0,1,aH)]).map .agg) λao=>
 ag prog nF #[ao,aH,aH] al λq ap=>
 vK (aL q 0) λaq=>
 vK (aL q 1) λar=>
 aW #[(.pointer none),(.pointer none),ai] 81 ap λr au=>
 stK 3 r aq au λb4 av=>
 ag prog xI #[] av λaw s=>
 vK (unV .not aw) λf=>
 gK f false (λax=>ag prog xH #[] s ax) s λay g=>
 vK (gV f false (unV .not ay)) λaz=>
 vK (aE f (.bool true) az) λj=>
 vK (gV j false (some an)) λa0=>
 vK (gV j false (ak .i .neq a0 ai)) λa1=>
 vK (aE j (.bool true) a1) λk=>
 vK (gV k false (some ar)) λa2=>
 vK (gV k false (ak .i .neq a2 ai)) λa3=>
 vK (aE k (.bool true) a3) λa4=>
 aF a4 (
 R (.bool false) g) (
 vK (aO 3 g r) λa5=>
 ag prog zR #[am,a5,aH,aH,aH,aH] g λt u=>
 vK (aL t 0) λb=>
 vK (aL t 1) λa6=>
 vK (ak .i .neq a6 ai) λl=>
 vK (gV l false (some b)) λa7=>
 vK (gV l false (ak .p .eql a7 (.pointer none))) λa8=>
 vK (aE l (.bool true) a8) λc=>
 vK (gV c false (some b)) λa9=>
 gK c false (λba=>ag prog pg #[a9] u ba) u λbb v=>
 vK (gV c false (ak .i .neq bb (af 7))) λbc=>
 vK (aE c (.bool true) bc) λd=>
 vK (gV d false (some b)) λbd=>
 gK d false (λbe=>ag prog fX #[bd] v be) v λbf w=>
 vK (gV d false (ak .i .neq bf (af 2))) λbg=>
 vK (aE d (.bool true) bg) λbh=>
 aF bh (
 R (.bool false) w) (
 aZ [ai] w λx b5 y bi=>
 vK (ak .i .lss (ix x 0) (af 7)) λbj=>
 aF bj (
 ag prog iT #[b] y λz m=>
 vK (aD z) λbk=>
 vK (ak .i .eql bk ai) λa=>
 vK (gV a false (some b)) λbl=>
 vK (gV a false (some z)) λbm=>
 vK (gV a false (bu 1 bm ai)) λbn=>
 vK (gV a false (ldV m bn)) λbo=>
 gK a false (λbp=>ag prog dO #[bl,bo] m bp) m λbq aa=>
 vK (gV a false (unV .not bq)) λbr=>
 vK (aE a (.bool true) br) λbs=>
 aF bs (
 R (.bool false) aa) (
 vK (ak .i .add (ix x 0) aH) λbt=>
 bi [bt] aa)) (
 ag prog nh #[b] y λab ac=>
 vK (aL ab 0) λad=>
 vK (aL ab 1) λn=>
 vK (gV n true (some ad)) λbv=>
 vK (gV n true (ak .p .neq bv (.pointer none))) λbw=>
 vK (aE n bw (.bool false)) λe=>
 vK (gV e true (some ad)) λbx=>
 gK e true (λbz=>ag prog gy #[bx,ai,ai,ai] ac bz) ac λb0 b1=>
 vK (gV e true (ak .i .eql b0 (.int .u16 9))) λb2=>
 vK (aE e b2 (.bool false)) λb3=>
 R b3 b1)))
theorem Mb (H:A2 h R):ag prog kl #[] h R:=fk f7 (.s .z (.s .z (.s .z (.s (.s .z (.s (.s .z .z) .z)) (.s .z (.s (.s .z (.s (.s .z .z) .z)) (.s (.s .z (.l 4722294425275607285889 [56] (.s .z (.s (.s .z .z) (.s (.s .z (.s .z (.s (.s .z .z) .z))) .z))))) (.s .z (.s .z .z))))))))) H
def A3 (a0 a1 a2 a3 a4 a5:Value)(h:ah)(R:Value→ah→Prop):Prop:=
 aW (Value.cells a0) 25 h λs t=>
 aW (Value.cells a1) 31 t λu v=>
 aW aJ 48 v λa f=>
 vK (aO 5 f s) λw=>
 ag prog eW #[w] f λb g=>
 vK (aO 9 g u) λx=>
 df #[ai,ai,ai,ai,(.slice none 0 0),(.slice none 0 0),ai,ai,ai] 31 1 [(0,9,x)] g λy z=>
 ag prog iu #[y,b] z λd e=>
 vK (aL d 0) λaa=>
 vK (aL d 1) λab=>
 vK (aL d 2) λac=>
 vK (unV .not ac) λad=>
 aF ad (
 vK ((aM aJ []).map .agg) λae=>
 stK 20 a ae e λbd j=>
 vK (aO 20 j a) λaf=>
 R (.tuple #[b,(.pointer none),af,(.bool false)]) j) (
 vK (ak .i .rem a2 (.int .u8 13)) λaj=>
 vK (gd .i64 aj) λal=>
 vK (ak .i .add aH al) λk=>
 vK (ak .i .rem a3 (.int .u8 13)) λam=>
 vK (gd .i64 am) λan=>
 vK (ak .i .add aH an) λl=>
 vK (ak .i .rem a4 (.int .u8 5)) λao=>
 vK (gd .i64 ao) λap=>
 vK (ak .i .add aH ap) λm=>
 vK (ak .i .rem a5 (.int .u8 4)) λaq=>
 vK (gd .i64 aq) λar=>
 vK (ak .i .add aH ar) λn=>
 vK (bu 3 aa ai) λau=>
 vK (aO 3 e au) λav=>
 ag prog zR #[b,av,k,l,m,n] e λo c=>
 vK (aL o 0) λaw=>
 vK (aL o 1) λax=>
 vK (ak .i .neq ax ai) λay=>
 aF ay (
 vK ((aM aJ []).map .agg) λaz=>
 stK 20 a az c λbe p=>
 vK (aO 20 p a) λa6=>
 R (.tuple #[b,(.pointer none),a6,(.bool false)]) p) (
 bJ c λS=>
 vK (bu 5 ab ai) λa7=>
 qK S (λc=>aO 5 c a7) λa8=>
 ag prog aV #[b] c λa9 q=>
 S q∧(ag prog Cj #[a8,a9,k,l,m,n] q λba bb=>
 stK 20 a ba bb λbf r=>
 vK (aO 20 r a) λbc=>
 R (.tuple #[b,aw,bc,(.bool true)]) r)))
theorem Md (H:A3 a0 a1 a2 a3 a4 a5 h R):ag prog qZ #[a0,a1,a2,a3,a4,a5] h R:=fk f8 (.s .z (.s .z (.s .z (.s (.s .z (.s (.s .z .z) .z)) (.s .z (.s .z (.s (.s .z (.s (.s .z .z) .z)) (.s (.d (.op 0 .r (.op 1 .r (.op 2 .r (.op 3 .r (.op 4 .r (.op 5 .r (.op 7 .r (.op 8 .r (.op 9 .r (.op 10 .r (.op 6 .e (.op 11 .n (.op 12 .r (.op 13 .r (.op 14 .n (.op 15 .r .nil))))))))))))))))) .z)))))))) H
def Gc (a0 a1:Value)(h:ah)(R:Value→ah→Prop):Prop:=
 aW (Value.cells a0) 25 h λm n=>
 aW (Value.cells a1) 31 n λo a=>
 bJ a λS=>
 qK S (λa=>aO 9 a o) λd=>
 qK S (λa=>aO 5 a m) λe=>
 (df #[ai,ai,ai,ai,(.slice none 0 0),(.slice none 0 0),ai,ai,ai] 31 1 [(0,9,d)] a λp f=>
 S f∧(ag prog eW #[e] f λq g=>
 S g∧(ag prog iu #[p,q] g λb i=>
 S i∧(vK (aL b 0) λv=>
 vK (aL b 1) λw=>
 vK (aL b 2) λr=>
 R r i))))∧(ag prog eW #[e] a λs j=>
 S j∧(df #[ai,ai,ai,ai,(.slice none 0 0),(.slice none 0 0),ai,ai,ai] 31 1 [(0,9,d)] j λt k=>
 S k∧(ag prog iu #[t,s] k λc l=>
 S l∧(vK (aL c 0) λx=>
 vK (aL c 1) λy=>
 vK (aL c 2) λu=>
 R u l))))
theorem QT (H:Gc a0 a1 h R):ag prog xg #[a0,a1] h R:=fk f9 (.s .z (.s (.d (.op 0 .r (.op 2 .r (.alt (.op 1 .e (.op 3 .e (.op 4 .e (.op 5 .r (.op 6 .r (.op 7 .r (.op 8 .r (.op 9 .r (.op 10 .r (.op 11 .r .nil)))))))))) (.op 3 .e (.op 1 .e (.op 4 .e (.op 5 .r (.op 6 .r (.op 7 .r (.op 8 .r (.op 9 .r (.op 10 .r (.op 11 .r .nil)))))))))))))) (.s .z .z))) H
def pN (a0:Value)(h:ah)(R:Value→ah→Prop):Prop:=
 ag prog fX #[a0] h λe f=>
 aZ [(.slice none 0 0),ai] f λa q b c=>
 vK (ak .i .lss (ix a 1) e) λg=>
 aF g (
 ag prog lM #[a0,(ix a 1)] b λj d=>
 aF j (
 df #[ai] 3 1 [(0,1,(ix a 1))] d λk l=>
 di ai 3 1 8 (ix a 0) k l λm n=>
 vK (ak .i .add (ix a 1) aH) λo=>
 c [m,o] n) (
 vK (ak .i .add (ix a 1) aH) λp=>
 c [(ix a 0),p] d)) (
 R (ix a 0) b)
theorem AF (H:pN a0 h R):ag prog iT #[a0] h R:=fk f10 (.s .z (.s .z (.s (.s .z (.l 262040 [3,7] (.s .z (.s (.s .z .z) (.s (.s .z (.s .z (.s .z .z))) .z))))) (.s .z .z)))) H
def pP (a0:Value)(h:ah)(R:Value→ah→Prop):Prop:=
 vK (aR a0) λa=>
 vK (aB 12 a) λb=>
 vK (ldV h b) λc=>
 R c h
theorem AG (H:pP a0 h R):ag prog gq #[a0] h R:=fk f11 (.s .z (.s .z .z)) H
def tG (a0:Value)(h:ah)(R:Value→ah→Prop):Prop:=
 vK (aR a0) λa=>
 vK (aB 6 a) λb=>
 vK (ldV h b) λc=>
 vK (aD c) λd=>
 vK (ak .i .add d aH) λe=>
 R e h
theorem Dm (H:tG a0 h R):ag prog fX #[a0] h R:=fk f12 (.s .z (.s .z .z)) H
def wJ (a0 a1:Value)(h:ah)(R:Value→ah→Prop):Prop:=
 ag prog lM #[a0,a1] h λc a=>
 vK (unV .not c) λd=>
 aF d (
 R (.bool false) a) (
 vK (aR a0) λe=>
 vK (aB 13 e) λf=>
 vK (ldV a f) λg=>
 vK (ak .i .add g aH) λj=>
 vK (aR a0) λk=>
 vK (aB 13 k) λl=>
 stK 1 l j a λp b=>
 vK (ak .i .eql a1 ai) λm=>
 aF m (
 ag prog qM #[a0] b λq n=>
 R (.bool true) n) (
 ag prog qJ #[a0,a1] b λr o=>
 R (.bool true) o))
theorem GI (H:wJ a0 a1 h R):ag prog dO #[a0,a1] h R:=fk f13 (.s .z (.s (.s .z (.s (.s .z .z) .z)) (.s .z (.s (.s .z (.s .z .z)) (.s .z .z))))) H
def uY (a0 a1:Value)(h:ah)(R:Value→ah→Prop):Prop:=
 vK (ak .i .lss a1 aH) λa=>
 vK (gV a false (some a1)) λb=>
 vK (gV a false (some a0)) λc=>
 vK (gV a false (aR c)) λd=>
 vK (gV a false (aB 6 d)) λe=>
 vK (gV a false (ldV h e)) λf=>
 vK (gV a false (aD f)) λg=>
 vK (gV a false (ak .i .gtr b g)) λj=>
 vK (aE a (.bool true) j) λk=>
 aF k (
 R (.slice none 0 0) h) (
 vK (aR a0) λl=>
 vK (aB 6 l) λm=>
 vK (ldV h m) λn=>
 vK (ak .i .sub a1 aH) λo=>
 vK (bu 1 n o) λp=>
 vK (ldV h p) λq=>
 ag prog ku #[q] h λr s=>
 R r s)
theorem EN (H:uY a0 a1 h R):ag prog kN #[a0,a1] h R:=fk f14 (.s .z (.s (.s .z (.s (.s .z .z) .z)) (.s .z .z))) H
def mg (a0:Value)(h:ah)(R:Value→ah→Prop):Prop:=
 vK (aR a0) λa=>
 vK (aB 2 a) λb=>
 vK (ldV h b) λc=>
 R c h
theorem xq (H:mg a0 h R):ag prog aV #[a0] h R:=fk f16 (.s .z (.s .z .z)) H
def uX (a0:Value)(h:ah)(R:Value→ah→Prop):Prop:=
 bJ h λS=>
 vK (aR a0) λj=>
 vK (aB 2 j) λk=>
 qK S (λh=>ldV h k) λl=>
 vK (aR a0) λm=>
 vK (aB 6 m) λn=>
 qK S (λh=>ldV h n) λo=>
 qK S (λh=>aD o) λp=>
 ag prog dY #[l] h λq c=>
 S c∧(vK (ak .i .mul (af 2) q) λr=>
 vK (ak .i .add r p) λs=>
 vK (ak .i .add s (af 2)) λt=>
 vK (aR a0) λu=>
 vK (aB 2 u) λv=>
 vK (ldV c v) λw=>
 ag prog tf #[w] c λe x=>
 vK (aD e) λy=>
 aZ [t,ai] x λb au d z=>
 vK (ak .i .lss (ix b 1) y) λaa=>
 aF aa (
 vK (bu 10 e (ix b 1)) λab=>
 vK (aO 10 d ab) λac=>
 aW #[ai,ai,ai,ai,ai,ai,ai,ai,ai,ai] 116 d λf ad=>
 stK 10 f ac ad λav a=>
 bJ a λS=>
 vK (aR a0) λae=>
 vK (aB 2 ae) λaj=>
 qK S (λa=>ldV a aj) λal=>
 qK S (λa=>aO 10 a f) λam=>
 ag prog iU #[al] a λan g=>
 S g∧(ag prog vM #[an,am] g λao ap=>
 vK (ak .i .add (ix b 0) ao) λaq=>
 vK (ak .i .add (ix b 1) aH) λar=>
 z [aq,ar] ap)) (
 R (ix b 0) d))
theorem EM (H:uX a0 h R):ag prog pg #[a0] h R:=fk f18 (.s .z (.s (.d (.op 0 .r (.op 1 .r (.op 2 .r (.op 3 .r (.op 6 .r (.op 7 .r (.op 8 .r (.op 9 .r (.op 10 .r (.op 4 .e (.op 5 .r (.op 11 .r (.op 12 .r (.op 13 .r .nil))))))))))))))) (.s (.s .z (.l 549722259496 [3,25] (.s .z (.s (.s .z .z) (.s (.s .z (.d (.op 0 .r (.op 1 .r (.op 2 .r (.op 3 .r (.op 4 .r (.op 6 .r (.op 5 .e (.op 7 .n (.op 8 .r (.op 9 .r .nil)))))))))))) .z))))) (.s .z .z)))) H
def pL (a0:Value)(h:ah)(R:Value→ah→Prop):Prop:=
 vK (aR a0) λa=>
 vK (aB 0 a) λb=>
 vK (ldV h b) λc=>
 R c h
theorem AD (H:pL a0 h R):ag prog bL #[a0] h R:=fk f28 (.s .z (.s .z .z)) H
def nP (a0:Value)(h:ah)(R:Value→ah→Prop):Prop:=
 vK (aR a0) λa=>
 vK (aB 1 a) λb=>
 vK (ldV h b) λc=>
 R c h
theorem yT (H:nP a0 h R):ag prog bN #[a0] h R:=fk f29 (.s .z (.s .z .z)) H
def FZ (a0 a1 a2 a3 a4:Value)(h:ah)(R:Value→ah→Prop):Prop:=
 ag prog iQ #[a0,a1,a2,a3] h λd a=>
 vK (aL d 0) λb=>
 vK (aL d 1) λe=>
 vK (ak .i .neq e ai) λf=>
 aF f (
 R (.tuple #[(.pointer none),e]) a) (
 vK (aD a4) λg=>
 vK (aR b) λj=>
 vK (aB 4 j) λk=>
 vK (ldV a k) λl=>
 vK (aD l) λm=>
 vK (ak .i .neq g m) λn=>
 aF n (
 R (.tuple #[(.pointer none),(af 2)]) a) (
 ag prog gn #[a4] a λo c=>
 vK (gd .i64 o) λp=>
 vK (ak .i .gtr p a3) λq=>
 aF q (
 R (.tuple #[(.pointer none),(af 4)]) c) (
 vK (aR b) λr=>
 vK (aB 4 r) λs=>
 vK (ldV c s) λt=>
 Fi 1 t a4 c λv u=>
 R (.tuple #[b,ai]) u)))
theorem QO (H:FZ a0 a1 a2 a3 a4 h R):ag prog sC #[a0,a1,a2,a3,a4] h R:=fk f31 (.s .z (.s .z (.s (.s .z (.s (.s .z .z) (.s .z (.s (.s .z .z) (.s .z (.s (.s .z .z) .z)))))) (.s .z (.s .z .z))))) H
def Lu (a0 a1 a2:Value)(h:ah)(R:Value→ah→Prop):Prop:=
 aW (Value.cells a0) 31 h λd q=>
 aW #[(.pointer none),(.pointer none),ai] 81 q λa j=>
 vK (aO 9 j d) λr=>
 ag prog NO #[r] j λs k=>
 vK (unV .not s) λb=>
 vK (gV b false (some a1)) λt=>
 gK b false (λu=>ag prog uI #[t] k u) k λv l=>
 vK (gV b false (unV .not v)) λw=>
 vK (aE b (.bool true) w) λc=>
 vK (gV c false (some a2)) λx=>
 gK c false (λy=>ag prog uI #[x] l y) l λz e=>
 vK (gV c false (unV .not z)) λaa=>
 vK (aE c (.bool true) aa) λab=>
 aF ab (
 vK ((aM #[(.pointer none),(.pointer none),ai] []).map .agg) λac=>
 stK 3 a ac e λav m=>
 vK (aO 3 m a) λad=>
 R (.tuple #[ad,(af 6)]) m) (
 vK (aO 9 e d) λae=>
 ag prog Cs #[ae,a1,a2] e λf g=>
 vK (aL f 0) λaj=>
 vK (aL f 1) λal=>
 vK (aL f 2) λn=>
 vK (ak .i .neq n ai) λam=>
 aF am (
 vK ((aM #[(.pointer none),(.pointer none),ai] []).map .agg) λan=>
 stK 3 a an g λaw o=>
 vK (aO 3 o a) λao=>
 R (.tuple #[ao,n]) o) (
 vK (aB 1 d) λap=>
 vK (ldV g ap) λaq=>
 vK ((aM #[(.pointer none),(.pointer none),ai] [(0,1,aj),(1,1,al),(2,1,aq)]).map .agg) λar=>
 stK 3 a ar g λax p=>
 vK (aO 3 p a) λau=>
 R (.tuple #[au,ai]) p))
theorem UX (H:Lu a0 a1 a2 h R):ag prog nF #[a0,a1,a2] h R:=fk f32 (.s .z (.s (.s .z (.s (.s .z .z) .z)) (.s .z (.s (.s .z (.s (.s .z .z) .z)) (.s .z .z))))) H
def A7 (h:ah)(R:Value→ah→Prop):Prop:=
 df #[ai,ai] 3 2 [(0,1,aH),(1,1,ai)] h λf g=>
 vK ((aM #[ai,(.slice none 0 0),ai,ai,ai,(.bool false)] [(1,1,f),(3,1,(af 3)),(4,1,(af 4)),(5,1,(.bool true))]).map .agg) λi=>
 aW #[ai,(.slice none 0 0),ai,ai,ai,(.bool false)] 120 g λc j=>
 stK 6 c i j λx k=>
 df #[ai,ai] 3 2 [(0,1,ai),(1,1,aH)] k λl m=>
 vK ((aM #[ai,(.slice none 0 0),ai,ai,ai,(.bool false)] [(0,1,aH),(1,1,l),(3,1,(af 2)),(4,1,(af 9)),(5,1,(.bool true))]).map .agg) λn=>
 aW #[ai,(.slice none 0 0),ai,ai,ai,(.bool false)] 120 m λd o=>
 stK 6 d n o λy e=>
 vK (aO 6 e c) λp=>
 vK (aO 6 e d) λq=>
 ag prog qY #[p,q] e λa b=>
 vK (gV a true (aO 6 b d)) λr=>
 vK (gV a true (aO 6 b c)) λs=>
 gK a true (λt=>ag prog qY #[r,s] b t) b λu v=>
 vK (aE a u (.bool false)) λw=>
 R w v
theorem Mf (H:A7 h R):ag prog xI #[] h R:=fk f33 (.s .z (.s .z (.s .z (.s .z .z)))) H
def A5 (h:ah)(R:Value→ah→Prop):Prop:=
 ag prog oL #[] h λa s=>
 ag prog nE #[aH] s λb t=>
 ag prog xJ #[] t λu l=>
 vK (unV .not u) λj=>
 vK (gV j false (some a)) λv=>
 vK (gV j false (ak .p .eql v (.pointer none))) λw=>
 vK (aE j (.bool true) w) λk=>
 vK (gV k false (some b)) λx=>
 vK (gV k false (ak .p .eql x (.pointer none))) λy=>
 vK (aE k (.bool true) y) λc=>
 vK (gV c false (some a)) λz=>
 vK (gV c false (some b)) λaa=>
 gK c false (λab=>ag prog cO #[z,aa,.nilFunc] l ab) l λac m=>
 vK (gV c false ((aM #[ai,ai,ai,ai] []).map .agg)) λad=>
 vK (gV c false (ak (.st [(0,1,.i),(1,1,.i),(2,2,(.st [(0,1,.i),(1,1,.i)]))]) .neq ac ad)) λae=>
 vK (aE c (.bool true) ae) λf=>
 vK (gV f false (some a)) λaj=>
 vK (gV f false (some b)) λal=>
 gK f false (λam=>ag prog eE #[aj,al] m am) m λan n=>
 vK (aE f (.bool true) an) λao=>
 aF ao (
 R (.bool false) n) (
 ag prog jl #[b] n λba ap=>
 ag prog eE #[a,b] ap λd o=>
 vK (gV d true (some a)) λaq=>
 vK (gV d true (some b)) λar=>
 gK d true (λau=>ag prog cO #[aq,ar,.nilFunc] o au) o λav q=>
 vK (gV d true ((aM #[ai,ai,ai,ai] [(0,1,(af 3))]).map .agg)) λaw=>
 vK (gV d true (ak (.st [(0,1,.i),(1,1,.i),(2,2,(.st [(0,1,.i),(1,1,.i)]))]) .eql av aw)) λax=>
 vK (aE d ax (.bool false)) λe=>
 vK (gV e true (some a)) λay=>
 vK (gV e true (some b)) λaz=>
 gK e true (λa0=>ag prog cO #[ay,az,.nilFunc] q a0) q λa1 r=>
 vK (gV e true ((aM #[ai,ai,ai,ai] []).map .agg)) λa2=>
 vK (gV e true (ak (.st [(0,1,.i),(1,1,.i),(2,2,(.st [(0,1,.i),(1,1,.i)]))]) .eql a1 a2)) λa3=>
 vK (aE e a3 (.bool false)) λg=>
 vK (gV g true (some a)) λa4=>
 gK g true (λa5=>ag prog kw #[a4] r a5) r λa6 a7=>
 vK (gV g true (ak .i .eql a6 (af 2))) λa8=>
 vK (aE g a8 (.bool false)) λa9=>
 R a9 a7)
theorem Me (H:A5 h R):ag prog xH #[] h R:=fk f34 (.s .z (.s .z (.s (.s .z (.s (.s .z .z) .z)) (.s .z (.s .z .z))))) H
def Jx (a0 a1 a2 a3 a4 a5:Value)(h:ah)(R:Value→ah→Prop):Prop:=
 aW (Value.cells a1) 81 h λf j=>
 vK (ak .p .eql a0 (.pointer none)) λb=>
 vK (gV b false (some a0)) λap=>
 vK (gV b false (aO 3 j f)) λaq=>
 gK b false (λar=>ag prog jF #[ap,aq] j ar) j λau a=>
 vK (gV b false (unV .not au)) λav=>
 vK (aE b (.bool true) av) λaw=>
 aF aw (
 R (.tuple #[(.pointer none),(af 6)]) a) (
 bJ a λS=>
 vK (aB 0 f) λax=>
 qK S (λa=>ldV a ax) λay=>
 vK (aB 1 f) λaz=>
 qK S (λa=>ldV a az) λa6=>
 ag prog bI #[ay] a λa7 r=>
 S r∧(ag prog bI #[a6] r λa8 a9=>
 ag prog aV #[a0] a9 λba bb=>
 ag prog dp #[a0] bb λbc bd=>
 ag prog iQ #[a7,a8,ba,bc] bd λs k=>
 vK (aL s 0) λg=>
 vK (aL s 1) λt=>
 vK (ak .i .neq t ai) λbe=>
 aF be (
 R (.tuple #[(.pointer none),t]) k) (
 vK (aO 3 k f) λbf=>
 ag prog zS #[bf,a2,a3] k λu c=>
 vK (aL u 0) λl=>
 vK (aL u 1) λv=>
 vK (ak .i .neq v ai) λbg=>
 aF bg (
 R (.tuple #[(.pointer none),v]) c) (
 vK (ak .i .lss a4 aH) λm=>
 vK (gV m false (some a4)) λbh=>
 vK (gV m false (ak .i .gtr bh (af 256))) λbi=>
 vK (aE m (.bool true) bi) λbj=>
 aF bj (
 R (.tuple #[(.pointer none),(af 10)]) c) (
 eK (λn=>
 bJ c λS=>
 vK (ak .i .add a4 aH) λo=>
 (ag prog nE #[a5] c λw q=>
 S q∧((ag prog nG #[o] q λbk x=>
 S x∧(mkK ai 3 1 8 a4 a4 x λbl y=>
 S y∧(vK ((aM pW [(0,1,a0),(1,1,g),(2,1,l),(3,1,w),(4,1,bk),(7,1,bl)]).map .agg) λbm=>
 aW (Value.cells bm) 106 y λbn z=>
 S z∧(n [bn] z))))∧(mkK ai 3 1 8 a4 a4 q λbo aa=>
 S aa∧(ag prog nG #[o] aa λbp ab=>
 S ab∧(vK ((aM pW [(0,1,a0),(1,1,g),(2,1,l),(3,1,w),(4,1,bp),(7,1,bo)]).map .agg) λbq=>
 aW (Value.cells bq) 106 ab λbr ac=>
 S ac∧(n [br] ac))))))∧(mkK ai 3 1 8 a4 a4 c λbs ad=>
 S ad∧(ag prog nE #[a5] ad λbt ae=>
 S ae∧(ag prog nG #[o] ae λbu aj=>
 S aj∧(vK ((aM pW [(0,1,a0),(1,1,g),(2,1,l),(3,1,bt),(4,1,bu),(7,1,bs)]).map .agg) λbv=>
 aW (Value.cells bv) 106 aj λbw al=>
 S al∧(n [bw] al))))))
 λd ci bx=>
 aZ [ai] bx λam cj e bz=>
 vK (ak .i .lss (ix am 0) a4) λb0=>
 aF b0 (
 bJ e λS=>
 vK (aR (ix d 0)) λb1=>
 vK (aB 6 b1) λb2=>
 qK S (λe=>ldV e b2) λb3=>
 ag prog oL #[] e λb4 an=>
 S an∧(df #[(.pointer none)] 108 1 [(0,1,b4)] an λb5 ao=>
 S ao∧(di (.pointer none) 108 1 8 b3 b5 ao λb6 b7=>
 vK (aR (ix d 0)) λb8=>
 vK (aB 6 b8) λb9=>
 stK 1 b9 b6 b7 λck ca=>
 vK (ak .i .add (ix am 0) aH) λcb=>
 bz [cb] ca))) (
 ag prog sD #[a0] e λcc cd=>
 ag prog dN #[(ix d 0),ai,ai,ai,cc,(.bool true)] cd λcl ce=>
 ag prog sD #[g] ce λcf cg=>
 ag prog dN #[(ix d 0),ai,aH,ai,cf,(.bool true)] cg λcm ch=>
 R (.tuple #[(ix d 0),ai]) ch))))))
theorem Tk (H:Jx a0 a1 a2 a3 a4 a5 h R):ag prog zR #[a0,a1,a2,a3,a4,a5] h R:=fk f35 (.s .z (.s (.s .z (.s (.s .z .z) .z)) (.s (.d (.op 0 .r (.op 1 .r (.op 3 .r (.op 4 .r (.op 6 .r (.op 8 .r (.op 2 .e (.op 5 .n (.op 7 .n (.op 9 .n (.op 10 .n (.op 11 .r (.op 12 .r (.op 13 .r (.op 14 .r (.op 15 .r .nil))))))))))))))))) (.s (.s .z (.s (.s .z .z) .z)) (.s .z (.s (.s .z (.s (.s .z .z) (.s .z (.s (.s .z .z) .z)))) (.j 9442427122730076864512 [17] (.d (.op 0 .r (.op 1 .r (.op 2 .r (.op 3 .r (.op 5 .r (.op 6 .r (.op 8 .r (.alt (.op 4 .e (.alt (.op 7 .e (.op 9 .e (.op 10 .r (.op 11 .e (.op 12 .r .nil))))) (.op 9 .e (.op 7 .e (.op 10 .r (.op 11 .e (.op 12 .r .nil))))))) (.op 9 .e (.op 4 .e (.op 7 .e (.op 10 .r (.op 11 .e (.op 12 .r .nil))))))))))))))) (.s (.s .z (.l 154723615444741055781535744 [74] (.s .z (.s (.s .z .z) (.s (.d (.op 0 .r (.op 1 .r (.op 2 .r (.op 3 .r (.op 4 .r (.op 5 .e (.op 6 .e (.op 7 .n (.op 8 .r (.op 9 .r (.op 10 .n .nil)))))))))))) .z))))) (.s .z (.s .z (.s .z .z))))))))))) H
def tF (a0:Value)(h:ah)(R:Value→ah→Prop):Prop:=
 vK (aR a0) λa=>
 vK (aB 12 a) λb=>
 vK (ldV h b) λc=>
 vK (unV .not c) λd=>
 aF d (
 R (.tuple #[(.pointer none),(.bool false)]) h) (
 vK (aR a0) λe=>
 vK (aB 1 e) λf=>
 vK (ldV h f) λg=>
 ag prog mc #[g] h λi j=>
 R (.tuple #[i,(.bool true)]) j)
theorem Dl (H:tF a0 h R):ag prog nh #[a0] h R:=fk f36 (.s .z (.s (.s .z (.s (.s .z .z) .z)) (.s .z .z))) H
def uV (a0 a1 a2 a3:Value)(h:ah)(R:Value→ah→Prop):Prop:=
 ag prog iR #[a0,a1,a2,a3] h λb a=>
 vK (ak .i .geq b ai) λc=>
 aF c (
 vK (aR a0) λd=>
 vK (aB 4 d) λe=>
 vK (ldV a e) λf=>
 vK (bu 1 f b) λg=>
 vK (ldV a g) λj=>
 R j a) (
 R (.int .u16 0) a)
theorem EJ (H:uV a0 a1 a2 a3 h R):ag prog gy #[a0,a1,a2,a3] h R:=fk f37 (.s .z (.s (.s .z (.s .z (.s (.s .z .z) .z))) (.s .z .z))) H
def pQ (a0:Value)(h:ah)(R:Value→ah→Prop):Prop:=
 aW (Value.cells a0) 25 h λb a=>
 vK (aB 0 b) λc=>
 vK (ldV a c) λd=>
 vK (ak .i .rem d (.int .u16 12)) λe=>
 vK (aB 1 b) λf=>
 vK (ldV a f) λg=>
 vK (ak .i .rem g (.int .u16 12)) λj=>
 vK (aB 2 b) λk=>
 vK (ldV a k) λl=>
 vK (aB 3 b) λm=>
 vK (ldV a m) λn=>
 vK (aB 4 b) λo=>
 vK (ldV a o) λp=>
 ag prog zW #[e,j,l,n,p] a λq r=>
 R q r
theorem AH (H:pQ a0 h R):ag prog eW #[a0] h R:=fk f38 (.s .z (.s .z .z)) H
def An (a0 a1:Value)(h:ah)(R:Value→ah→Prop):Prop:=
 vK (ak .p .eql a1 (.pointer none)) λb=>
 vK (gV b false (some a0)) λl=>
 vK (gV b false (aD l)) λm=>
 vK (gV b false (ak .i .gtr m (af 4))) λn=>
 vK (aE b (.bool true) n) λc=>
 vK (gV c false (some a0)) λo=>
 gK c false (λq=>ag prog vS #[o,(af 12)] h q) h λr e=>
 vK (gV c false (unV .not r)) λs=>
 vK (aE c (.bool true) s) λt=>
 aF t (
 R (.tuple #[(.slice none 0 0),(.slice none 0 0),(.bool false)]) e) (
 ag prog bL #[a1] e λu v=>
 ag prog bN #[a1] v λw x=>
 ag prog aV #[a1] x λy z=>
 ag prog NP #[a0,u,w,y] z λf aa=>
 vK (aL f 0) λg=>
 vK (aL f 1) λab=>
 ag prog zV #[a0] aa λac ad=>
 ag prog bL #[a1] ad λae aj=>
 ag prog bN #[a1] aj λal am=>
 ag prog aV #[a1] am λan ao=>
 ag prog Cl #[ac,ae,al,an] ao λj ap=>
 vK (aL j 0) λk=>
 vK (aL j 1) λaq=>
 vK (ak .i .eql ab ai) λd=>
 vK (gV d true (some aq)) λar=>
 vK (gV d true (ak .i .eql ar ai)) λau=>
 vK (aE d au (.bool false)) λa=>
 vK (gV a true (some g)) λav=>
 vK (gV a true (aD av)) λaw=>
 vK (gV a true (some k)) λax=>
 vK (gV a true (aD ax)) λay=>
 vK (gV a true (ak .i .eql aw ay)) λaz=>
 vK (aE a az (.bool false)) λa2=>
 R (.tuple #[g,k,a2]) ap)
theorem Kr (H:An a0 a1 h R):ag prog iu #[a0,a1] h R:=fk f39 (.s .z (.s (.s .z (.s (.s .z .z) .z)) (.s .z (.s .z (.s .z .z))))) H
def FN (a0 a1 a2 a3 a4 a5:Value)(h:ah)(R:Value→ah→Prop):Prop:=
 aW (Value.cells a0) 38 h λc br=>
 aW aJ 48 br λt b=>
 eK (λbs=>
 bJ b λS=>
 qK S (λb=>aO 5 b c) λu=>
 qK S (λb=>aO 5 b c) λg=>
 vK (ak .i .add a4 aH) λj=>
 (λC21:Value→Value→ah→Prop=>
 (λC29:Value→Value→Value→Value→Value→ah→Prop=>
 (λC38:Value→Value→Value→Value→ah→Prop=>
 (λC46:Value→Value→Value→Value→ah→Prop=>
 (λC54:Value→Value→Value→Value→ah→Prop=>
 (λC63:Value→Value→Value→ah→Prop=>
 (λC72:Value→Value→Value→ah→Prop=>
 (λC79:Value→Value→Value→ah→Prop=>
 (λC87:Value→Value→ah→Prop=>
 (λC95:Value→Value→ah→Prop=>
 (λC101:Value→Value→ah→Prop=>
 (ag prog lz #[g,a2,a3] b λd k=>
 S k∧((ag prog ll #[a5] k λl m=>
 S m∧((ag prog lk #[j] m λv o=>
 S o∧((mkK (.agg #[ai,.slice none 0 0,.slice none 0 0]) 69 3 56 a4 a4 o λbt w=>
 S w∧(C38 d l v bt w))∧(aW aJ 48 o λbv x=>
 S x∧(C46 d l v bv x))))∧((mkK (.agg #[ai,.slice none 0 0,.slice none 0 0]) 69 3 56 a4 a4 m λbw y=>
 S y∧(C63 d l bw y))∧(aW aJ 48 m λbx z=>
 S z∧(C72 d l bx z)))))∧((mkK (.agg #[ai,.slice none 0 0,.slice none 0 0]) 69 3 56 a4 a4 k λbz aa=>
 S aa∧(C87 d bz aa))∧(aW aJ 48 k λb0 ab=>
 S ab∧(C95 d b0 ab)))))∧((mkK (.agg #[ai,.slice none 0 0,.slice none 0 0]) 69 3 56 a4 a4 b λac p=>
 S p∧((ag prog lz #[g,a2,a3] p λb1 ad=>
 S ad∧(C87 b1 ac ad))∧(aW aJ 48 p λb2 ae=>
 S ae∧(C101 ac b2 ae))))∧(aW aJ 48 b λaf q=>
 S q∧((ag prog lz #[g,a2,a3] q λb3 aj=>
 S aj∧(C95 b3 af aj))∧(mkK (.agg #[ai,.slice none 0 0,.slice none 0 0]) 69 3 56 a4 a4 q λb4 al=>
 S al∧(C101 b4 af al)))))) (λb5 b6 b7=>
 ag prog lz #[g,a2,a3] b7 λb8 am=>
 S am∧(C79 b8 b5 b6 am))) (λan ao ap=>
 (ag prog ll #[a5] ap λb9 aq=>
 S aq∧(C72 an b9 ao aq))∧(mkK (.agg #[ai,.slice none 0 0,.slice none 0 0]) 69 3 56 a4 a4 ap λca ar=>
 S ar∧(C79 an ca ao ar)))) (λau av aw=>
 (ag prog ll #[a5] aw λcb ax=>
 S ax∧(C63 au cb av ax))∧(aW aJ 48 aw λcc ay=>
 S ay∧(C79 au av cc ay)))) (λcd ce cf cg=>
 ag prog ll #[a5] cg λch az=>
 S az∧(C54 cd ch ce cf az))) (λa6 a7 a8 a9=>
 (ag prog lk #[j] a9 λci ba=>
 S ba∧(C46 a6 a7 ci a8 ba))∧(mkK (.agg #[ai,.slice none 0 0,.slice none 0 0]) 69 3 56 a4 a4 a9 λcj bb=>
 S bb∧(C54 a6 a7 cj a8 bb)))) (λbc bd be bf=>
 (ag prog lk #[j] bf λck bg=>
 S bg∧(C38 bc bd ck be bg))∧(aW aJ 48 bf λcl bh=>
 S bh∧(C54 bc bd be cl bh)))) (λcm cn co cp cq=>
 ag prog lk #[j] cq λcr bi=>
 S bi∧(C29 cm cn cr co cp bi))) (λcs ct cu cv cw=>
 mkK (.agg #[ai,.slice none 0 0,.slice none 0 0]) 69 3 56 a4 a4 cw λcx bj=>
 S bj∧(C29 cs ct cu cx cv bj))) (λcy cz c0 c1 c2=>
 vK ((aM aJ [(0,5,u),(5,1,a1),(6,1,cy),(8,3,cz),(11,1,c0),(12,1,c1)]).map .agg) λc3=>
 aW aJ 48 c2 λc4 bk=>
 S bk∧(C21 c3 c4 bk))) (λc5 c6 c7 c8 c9 da=>
 vK ((aM aJ [(0,5,u),(5,1,a1),(6,1,c5),(8,3,c6),(11,1,c7),(12,1,c8)]).map .agg) λdb=>
 C21 db c9 da)) (λdc bl dd=>
 stK 20 bl dc dd λeo de=>
 bs [bl] de))
 λe ep bm=>
 vK (aB 6 (ix e 0)) λdg=>
 vK (ldV bm dg) λbn=>
 vK (aD bn) λdh=>
 aZ [ai] bm λr eq f dj=>
 vK (ak .i .lss (ix r 0) dh) λdk=>
 aF dk (
 vK (bu 10 bn (ix r 0)) λdl=>
 vK (aO 10 f dl) λdm=>
 aW #[ai,ai,ai,ai,ai,ai,ai,ai,ai,ai] 59 f λs dn=>
 stK 10 s dm dn λer a=>
 bJ a λS=>
 vK (aB 7 (ix e 0)) λdp=>
 qK S (λa=>ldV a dp) λdq=>
 qK S (λa=>aO 5 a c) λdr=>
 vK (aB 2 s) λds=>
 qK S (λa=>ldV a ds) λdt=>
 vK (aB 4 s) λdu=>
 qK S (λa=>ldV a du) λdv=>
 ag prog xD #[dr,dt,dv] a λdw bo=>
 S bo∧(df #[(.slice none 0 0)] 67 1 [(0,1,dw)] bo λdx bp=>
 S bp∧(di (.slice none 0 0) 67 1 24 dq dx bp λdy dz=>
 vK (aB 7 (ix e 0)) λd0=>
 stK 1 d0 dy dz λes d1=>
 vK (ak .i .add (ix r 0) aH) λd2=>
 dj [d2] d1))) (
 vK (aO 20 f (ix e 0)) λd3=>
 vK (aB 2 c) λd4=>
 vK (ldV f d4) λd5=>
 vK (aB 3 c) λd6=>
 vK (ldV f d6) λd7=>
 vK (ak .i .mul d5 d7) λd8=>
 vK (ak .i .mul d8 a1) λd9=>
 ag prog uA #[d3,ai,ai,ai,d9,(.bool true)] f λea eb=>
 stK 20 (ix e 0) ea eb λet n=>
 vK (aO 20 n (ix e 0)) λec=>
 vK (aB 0 c) λed=>
 vK (ldV n ed) λee=>
 vK (aD ee) λef=>
 vK (aB 1 c) λeg=>
 vK (ldV n eg) λeh=>
 vK (aD eh) λei=>
 vK (ak .i .mul ef ei) λej=>
 vK (ak .i .mul ej a1) λek=>
 ag prog uA #[ec,ai,aH,ai,ek,(.bool true)] n λel em=>
 stK 20 t el em λeu bq=>
 vK (aO 20 bq t) λen=>
 R en bq)
theorem QB (H:FN a0 a1 a2 a3 a4 a5 h R):ag prog Cj #[a0,a1,a2,a3,a4,a5] h R:=fk f40 (.s .z (.j 1073684480 [13] (.d (.op 0 .r (.op 1 .r (.op 2 .r (.op 3 .r (.op 4 .r (.op 6 .r (.op 8 .r (.op 9 .r (.op 11 .r (.alt (.op 5 .e (.alt (.op 7 .e (.alt (.op 10 .e (.alt (.op 12 .e (.op 13 .r (.op 14 .e (.op 15 .n .nil)))) (.op 14 .e (.op 12 .e (.op 13 .r (.op 15 .n .nil)))))) (.alt (.op 12 .e (.alt (.op 10 .e (.op 13 .r (.op 14 .e (.op 15 .n .nil)))) (.op 14 .e (.op 10 .e (.op 13 .r (.op 15 .n .nil)))))) (.op 14 .e (.alt (.op 10 .e (.op 12 .e (.op 13 .r (.op 15 .n .nil)))) (.op 12 .e (.op 10 .e (.op 13 .r (.op 15 .n .nil))))))))) (.alt (.op 12 .e (.alt (.op 7 .e (.alt (.op 10 .e (.op 13 .r (.op 14 .e (.op 15 .n .nil)))) (.op 14 .e (.op 10 .e (.op 13 .r (.op 15 .n .nil)))))) (.op 14 .e (.op 7 .e (.op 10 .e (.op 13 .r (.op 15 .n .nil))))))) (.op 14 .e (.alt (.op 7 .e (.alt (.op 10 .e (.op 12 .e (.op 13 .r (.op 15 .n .nil)))) (.op 12 .e (.op 10 .e (.op 13 .r (.op 15 .n .nil)))))) (.op 12 .e (.op 7 .e (.op 10 .e (.op 13 .r (.op 15 .n .nil)))))))))) (.alt (.op 12 .e (.alt (.op 5 .e (.alt (.op 7 .e (.alt (.op 10 .e (.op 13 .r (.op 14 .e (.op 15 .n .nil)))) (.op 14 .e (.op 10 .e (.op 13 .r (.op 15 .n .nil)))))) (.op 14 .e (.op 7 .e (.op 10 .e (.op 13 .r (.op 15 .n .nil))))))) (.op 14 .e (.op 5 .e (.op 7 .e (.op 10 .e (.op 13 .r (.op 15 .n .nil)))))))) (.op 14 .e (.alt (.op 5 .e (.alt (.op 7 .e (.alt (.op 10 .e (.op 12 .e (.op 13 .r (.op 15 .n .nil)))) (.op 12 .e (.op 10 .e (.op 13 .r (.op 15 .n .nil)))))) (.op 12 .e (.op 7 .e (.op 10 .e (.op 13 .r (.op 15 .n .nil))))))) (.op 12 .e (.op 5 .e (.op 7 .e (.op 10 .e (.op 13 .r (.op 15 .n .nil)))))))))))))))))))) (.s (.s .z (.l 562941363519488 [33] (.s .z (.s (.s .z .z) (.s (.s .z (.d (.op 0 .r (.op 1 .r (.op 2 .r (.op 3 .r (.op 4 .r (.op 5 .r (.op 6 .r (.op 7 .e (.op 8 .e (.op 9 .n (.op 10 .r (.op 11 .n .nil)))))))))))))) .z))))) (.s .z (.s .z .z))))) H
def wE (a0 a1:Value)(h:ah)(R:Value→ah→Prop):Prop:=
 vK (ak .i .lss a1 ai) λa=>
 vK (gV a false (some a1)) λe=>
 vK (gV a false (some a0)) λf=>
 vK (gV a false (aR f)) λg=>
 vK (gV a false (aB 6 g)) λj=>
 vK (gV a false (ldV h j)) λk=>
 vK (gV a false (aD k)) λl=>
 vK (gV a false (ak .i .gtr e l)) λm=>
 vK (aE a (.bool true) m) λn=>
 aF n (
 R (.bool false) h) (
 vK (ak .i .gtr a1 ai) λo=>
 aF o (
 bJ h λS=>
 vK (aR a0) λp=>
 vK (aB 6 p) λq=>
 qK S (λh=>ldV h q) λr=>
 vK (ak .i .sub a1 aH) λs=>
 vK (bu 1 r s) λt=>
 qK S (λh=>ldV h t) λu=>
 vK (aR a0) λv=>
 vK (aB 3 v) λw=>
 qK S (λh=>ldV h w) λx=>
 ag prog eE #[u,x] h λy z=>
 R y z) (
 vK (aR a0) λaa=>
 vK (aB 12 aa) λab=>
 vK (ldV h ab) λac=>
 aF ac (
 R (.bool false) h) (
 bJ h λS=>
 vK (aR a0) λad=>
 vK (aB 8 ad) λae=>
 qK S (λh=>ldV h ae) λaf=>
 vK (aR a0) λaj=>
 vK (aB 2 aj) λal=>
 qK S (λh=>ldV h al) λam=>
 ag prog dY #[am] h λan b=>
 S b∧(vK (ak .i .lss af an) λao=>
 aF ao (
 vK (aR a0) λap=>
 vK (aB 3 ap) λaq=>
 vK (ldV b aq) λar=>
 ag prog iz #[ar] b λau av=>
 R au av) (
 vK (aR a0) λaw=>
 vK (aB 3 aw) λax=>
 vK (ldV b ax) λay=>
 ag prog iS #[ay] b λaz d=>
 vK (unV .not az) λc=>
 vK (gV c false (some a0)) λa2=>
 gK c false (λa3=>ag prog qN #[a2] d a3) d λa4 a5=>
 vK (aE c (.bool true) a4) λa6=>
 R a6 a5)))))
theorem GD (H:wE a0 a1 h R):ag prog lM #[a0,a1] h R:=fk f41 (.s .z (.s (.s .z (.s (.s .z .z) (.s .z (.s (.s (.d (.op 0 .r (.op 1 .r (.op 2 .r (.op 3 .r (.op 4 .r (.op 5 .r (.op 6 .r (.op 7 .r (.op 8 .r (.op 9 .r (.op 10 .r (.op 11 .r (.op 12 .n (.op 13 .r .nil))))))))))))))) .z) (.s .z (.s (.s .z .z) (.s (.d (.op 0 .r (.op 1 .r (.op 2 .r (.op 3 .r (.op 4 .r (.op 5 .r (.op 6 .r (.op 7 .r (.op 8 .e (.op 9 .r (.op 10 .r .nil)))))))))))) (.s (.s .z .z) .z)))))))) (.s .z .z))) H
def wH (a0:Value)(h:ah)(R:Value→ah→Prop):Prop:=
 bJ h λS=>
 vK (aR a0) λm=>
 vK (aB 8 m) λn=>
 qK S (λh=>ldV h n) λo=>
 vK (aR a0) λp=>
 vK (aB 2 p) λq=>
 qK S (λh=>ldV h q) λr=>
 ag prog dY #[r] h λs a=>
 S a∧(vK (ak .i .lss o s) λt=>
 aF t (
 bJ a λS=>
 vK (aR a0) λu=>
 vK (aB 3 u) λv=>
 qK S (λa=>ldV a v) λw=>
 vK (aR a0) λx=>
 vK (aB 8 x) λy=>
 qK S (λa=>ldV a y) λz=>
 ag prog ng #[w,z] a λb3 b=>
 bJ b λS=>
 vK (aR a0) λaa=>
 vK (aB 9 aa) λab=>
 qK S (λb=>ldV b ab) λac=>
 vK (aR a0) λad=>
 vK (aB 4 ad) λae=>
 qK S (λb=>ldV b ae) λaf=>
 ag prog iy #[af,ai] b λaj f=>
 S f∧(df #[(.slice none 0 0)] 104 1 [(0,1,aj)] f λal g=>
 S g∧(di (.slice none 0 0) 104 1 24 ac al g λam an=>
 vK (aR a0) λao=>
 vK (aB 9 ao) λap=>
 stK 1 ap am an λb4 j=>
 vK (aR a0) λaq=>
 vK (aB 8 aq) λar=>
 vK (ldV j ar) λau=>
 vK (ak .i .add au aH) λav=>
 vK (aR a0) λaw=>
 vK (aB 8 aw) λax=>
 stK 1 ax av j λb5 ay=>
 R (.tuple #[]) ay))) (
 vK (aR a0) λaz=>
 vK (aB 3 az) λa1=>
 vK (ldV a a1) λa2=>
 ag prog iS #[a2] a λa3 d=>
 vK (unV .not a3) λa4=>
 aF a4 (
 vK (aR a0) λa5=>
 vK (aB 3 a5) λa6=>
 vK (ldV d a6) λa7=>
 ag prog jl #[a7] d λb6 k=>
 vK (aR a0) λa8=>
 vK (aB 4 a8) λa9=>
 vK (ldV k a9) λba=>
 ag prog iy #[ba,ai] k λbb bc=>
 vK (aR a0) λbd=>
 vK (aB 10 bd) λbe=>
 stK 1 be bb bc λb7 bf=>
 R (.tuple #[]) bf) (
 vK (aR a0) λbg=>
 vK (aB 11 bg) λbh=>
 vK (ldV d bh) λl=>
 vK (aD l) λbi=>
 aZ [ai] d λe b8 c bj=>
 vK (ak .i .lss (ix e 0) bi) λbk=>
 aF bk (
 vK (bu 1 l (ix e 0)) λbl=>
 vK (ldV c bl) λbm=>
 vK (aR a0) λbn=>
 vK (aB 4 bn) λbo=>
 vK (ldV c bo) λbp=>
 ag prog fZ #[bp,ai,bm] c λb9 bq=>
 vK (ak .i .add (ix e 0) aH) λbr=>
 bj [br] bq) (
 vK (aR a0) λbs=>
 vK (aB 1 bs) λbt=>
 vK (ldV c bt) λbv=>
 ag prog sD #[bv] c λbw bx=>
 ag prog dN #[a0,ai,aH,ai,bw,(.bool false)] bx λca bz=>
 vK (aR a0) λb0=>
 vK (aB 12 b0) λb1=>
 stK 1 b1 (.bool true) bz λcb b2=>
 R (.tuple #[]) b2))))
theorem GG (H:wH a0 h R):ag prog qM #[a0] h R:=fk f42 (.s (.d (.op 0 .r (.op 1 .r (.op 2 .r (.op 3 .r (.op 4 .r (.op 5 .r (.op 6 .r (.op 7 .r (.op 8 .e (.op 9 .r (.op 10 .r .nil)))))))))))) (.s (.s (.d (.op 0 .r (.op 1 .r (.op 2 .r (.op 3 .r (.op 4 .r (.op 5 .r (.op 6 .r (.op 7 .r (.op 8 .n .nil)))))))))) (.s (.d (.op 0 .r (.op 1 .r (.op 2 .r (.op 3 .r (.op 4 .r (.op 5 .r (.op 6 .r (.op 7 .r (.op 8 .r (.op 9 .e (.op 10 .e (.op 11 .n (.op 12 .r (.op 13 .r (.op 14 .n .nil)))))))))))))))) .z)) (.s .z (.s (.s .z .z) (.s (.s .z (.l 1048072 [9] (.s .z (.s (.s .z .z) (.s (.s .z .z) .z))))) (.s .z .z)))))) H
def wD (a0 a1:Value)(h:ah)(R:Value→ah→Prop):Prop:=
 aW (Value.cells a0) 35 h λd x=>
 aW (Value.cells a1) 3 x λe b=>
 eK (λj=>
 bJ b λS=>
 qK S (λb=>ldV b d) λy=>
 vK (aR y) λz=>
 vK (aB 6 z) λaa=>
 qK S (λb=>ldV b aa) λab=>
 qK S (λb=>ldV b e) λac=>
 vK (ak .i .sub ac aH) λad=>
 vK (bu 1 ab ad) λae=>
 qK S (λb=>ldV b ae) λk=>
 qK S (λb=>ldV b d) λaj=>
 vK (aR aj) λal=>
 vK (aB 3 al) λam=>
 qK S (λb=>ldV b am) λl=>
 (ag prog cO #[k,l,(.func (.func gM) #[] #[d,e])] b λan m=>
 S m∧(aW #[ai,ai,ai,ai] 148 m λn o=>
 S o∧(stK 4 n an o λb6 p=>
 S p∧(j [n] p))))∧(aW #[ai,ai,ai,ai] 148 b λq r=>
 S r∧(ag prog cO #[k,l,(.func (.func gM) #[] #[d,e])] r λao s=>
 S s∧(stK 4 q ao s λb7 t=>
 S t∧(j [q] t)))))
 λf b8 a=>
 vK (aB 0 (ix f 0)) λap=>
 vK (ldV a ap) λg=>
 vK (ak .i .eql g aH) λaq=>
 aF aq (
 bJ a λS=>
 qK S (λa=>ldV a d) λar=>
 vK (aR ar) λau=>
 vK (aB 4 au) λav=>
 qK S (λa=>ldV a av) λaw=>
 qK S (λa=>ldV a e) λax=>
 qK S (λa=>ldV a d) λay=>
 vK (aR ay) λaz=>
 vK (aB 9 az) λa2=>
 qK S (λa=>ldV a a2) λa3=>
 vK (aB 1 (ix f 0)) λa4=>
 qK S (λa=>ldV a a4) λa5=>
 vK (bu 1 a3 a5) λa6=>
 qK S (λa=>ldV a a6) λa7=>
 ag prog fZ #[aw,ax,a7] a λb9 a8=>
 R (.tuple #[]) a8) (
 vK (ak .i .eql g (af 2)) λa9=>
 aF a9 (
 vK (ldV a d) λba=>
 vK (ldV a e) λbb=>
 vK (aO 4 a (ix f 0)) λbc=>
 ag prog pf #[ba,bb,bc] a λca bd=>
 R (.tuple #[]) bd) (
 vK (ak .i .eql g (af 3)) λbe=>
 aF be (
 bJ a λS=>
 qK S (λa=>ldV a d) λbf=>
 vK (aR bf) λbg=>
 vK (aB 4 bg) λbh=>
 qK S (λa=>ldV a bh) λbi=>
 qK S (λa=>ldV a e) λbj=>
 qK S (λa=>ldV a d) λbk=>
 vK (aR bk) λbl=>
 vK (aB 10 bl) λbm=>
 qK S (λa=>ldV a bm) λbn=>
 ag prog fZ #[bi,bj,bn] a λcb c=>
 bJ c λS=>
 qK S (λc=>ldV c d) λbo=>
 qK S (λc=>ldV c d) λbp=>
 vK (aR bp) λbq=>
 vK (aB 11 bq) λbr=>
 qK S (λc=>ldV c br) λbs=>
 qK S (λc=>ldV c d) λbt=>
 vK (aR bt) λbv=>
 vK (aB 4 bv) λbw=>
 qK S (λc=>ldV c bw) λbx=>
 qK S (λc=>ldV c e) λbz=>
 ag prog iy #[bx,bz] c λb0 u=>
 S u∧(df #[(.slice none 0 0)] 104 1 [(0,1,b0)] u λb1 v=>
 S v∧(di (.slice none 0 0) 104 1 24 bs b1 v λb2 w=>
 S w∧(vK (aR bo) λb3=>
 vK (aB 11 b3) λb4=>
 stK 1 b4 b2 w λcc b5=>
 R (.tuple #[]) b5)))) (
 R (.tuple #[]) a)))
theorem GC (H:wD a0 a1 h R):ag prog qJ #[a0,a1] h R:=fk f43 (.s .z (.j 524272 [4] (.d (.op 0 .r (.op 1 .r (.op 2 .r (.op 3 .r (.op 4 .r (.op 5 .r (.op 6 .r (.op 7 .r (.op 8 .r (.op 9 .r (.op 10 .r (.op 11 .r (.op 12 .r (.alt (.op 13 .e (.op 14 .e (.op 15 .e .nil))) (.op 14 .e (.op 13 .e (.op 15 .e .nil)))))))))))))))))) (.s .z (.s .z (.s (.d (.op 0 .r (.op 1 .r (.op 2 .r (.op 3 .r (.op 4 .r (.op 5 .r (.op 6 .r (.op 7 .r (.op 8 .r (.op 9 .r (.op 10 .r (.op 11 .r (.op 12 .r (.op 13 .n .nil))))))))))))))) (.s .z (.s .z (.s .z (.s (.s (.d (.op 0 .r (.op 1 .r (.op 2 .r (.op 3 .r (.op 4 .r (.op 5 .r (.op 6 .r (.op 7 .r (.op 8 .r (.op 9 .n .nil))))))))))) (.d (.op 0 .r (.op 1 .r (.op 2 .r (.op 3 .r (.op 4 .r (.op 5 .r (.op 6 .r (.op 7 .r (.op 8 .r (.op 9 .r (.op 10 .e (.op 11 .e (.op 12 .e (.op 13 .r (.op 14 .r (.op 15 .n .nil)))))))))))))))))) .z))))))))) H
def nN (a0:Value)(h:ah)(R:Value→ah→Prop):Prop:=
 vK (aR a0) λa=>
 vK (aB 1 a) λb=>
 vK (ldV h b) λc=>
 ag prog iH #[c] h λd e=>
 R d e
theorem yR (H:nN a0 h R):ag prog ku #[a0] h R:=fk f44 (.s .z (.s .z .z)) H
def vd (a0:Value)(h:ah)(R:Value→ah→Prop):Prop:=
 bJ h λS=>
 vK (aR a0) λc=>
 vK (aB 0 c) λd=>
 vK (aB 1 d) λe=>
 qK S (λh=>ldV h e) λf=>
 vK (aR a0) λg=>
 vK (aB 4 g) λj=>
 qK S (λh=>ldV h j) λk=>
 ag prog gN #[a0] h λl a=>
 S a∧(ag prog bI #[f] a λm b=>
 S b∧(ag prog uG #[m,k] b λn o=>
 vK (ak .i .mul l n) λp=>
 R p o))
theorem EP (H:vd a0 h R):ag prog dY #[a0] h R:=fk f46 (.s .z (.s (.d (.op 0 .r (.op 2 .r (.op 3 .r (.op 4 .r (.op 5 .r (.op 6 .r (.op 8 .r (.op 9 .r (.op 10 .r (.op 11 .r (.op 1 .e (.op 7 .e (.op 12 .n (.op 13 .r (.op 14 .r .nil)))))))))))))))) .z)) H
def yf (a0:Value)(h:ah)(R:Value→ah→Prop):Prop:=
 ag prog dY #[a0] h λf g=>
 aZ [(.slice none 0 0),ai] g λa u b j=>
 vK (ak .i .lss (ix a 1) f) λk=>
 aF k (
 ag prog fY #[a0,(ix a 1)] b λc l=>
 vK (aL c 0) λm=>
 vK (aL c 1) λv=>
 aW #[ai,ai,ai,ai,ai,ai,ai,ai,ai,ai] 116 l λd n=>
 stK 10 d m n λw e=>
 vK (aO 10 e d) λo=>
 df #[ai,ai,ai,ai,ai,ai,ai,ai,ai,ai] 116 1 [(0,10,o)] e λp q=>
 di (.agg #[ai,ai,ai,ai,ai,ai,ai,ai,ai,ai]) 116 10 80 (ix a 0) p q λr s=>
 vK (ak .i .add (ix a 1) aH) λt=>
 j [r,t] s) (
 R (ix a 0) b)
theorem IJ (H:yf a0 h R):ag prog tf #[a0] h R:=fk f47 (.s .z (.s .z (.s (.s .z (.l 8388216 [3,9] (.s .z (.s (.s .z .z) (.s (.s .z (.s .z .z)) .z))))) (.s .z .z)))) H
def Ab (a0 a1:Value)(h:ah)(R:Value→ah→Prop):Prop:=
 aW (Value.cells a0) 81 h λg m=>
 aW (Value.cells a1) 116 m λb j=>
 vK (aO 3 j g) λn=>
 vK (aB 1 b) λo=>
 vK (aO 4 j o) λp=>
 ag prog mH #[n,p] j λq c=>
 vK (unV .not q) λr=>
 aF r (
 R ai c) (
 vK (aB 1 b) λs=>
 vK (aB 3 s) λt=>
 vK (ldV c t) λu=>
 vK (aB 1 g) λv=>
 vK (ldV c v) λw=>
 vK (aB 1 b) λx=>
 vK (aB 1 x) λy=>
 vK (ldV c y) λz=>
 ag prog bF #[w,z] c λaa k=>
 vK (pS false 1 0 aa) λab=>
 vK (aB 1 b) λac=>
 vK (aB 3 ac) λad=>
 vK (ldV k ad) λae=>
 aZ [u,ab,ai] k λa bb d af=>
 vK (ak .i .lss (ix a 2) ae) λaj=>
 aF aj (
 vK (aB 1 g) λal=>
 vK (ldV d al) λam=>
 vK (aB 1 b) λan=>
 vK (aB 1 an) λao=>
 vK (ldV d ao) λap=>
 vK (ak .i .add ap (ix a 2)) λaq=>
 ag prog bF #[am,aq] d λar au=>
 aW #[ai,(.slice none 0 0)] 189 au λe av=>
 stK 2 e ar av λbc f=>
 vK (aB 0 e) λaw=>
 vK (ldV f aw) λax=>
 vK (aB 1 e) λay=>
 vK (ldV f ay) λaz=>
 vK (aD az) λa2=>
 vK (ak .i .add ax a2) λl=>
 vK (aB 0 e) λa3=>
 vK (ldV f a3) λa4=>
 vK (jS (ix a 1) a4) λa5=>
 vK (ak .i .sub l a5) λa6=>
 vK (jS ai a6) λa7=>
 vK (ak .i .add (ix a 0) a7) λa8=>
 vK (jS (ix a 1) l) λa9=>
 vK (ak .i .add (ix a 2) aH) λba=>
 af [a8,a9,ba] f) (
 R (ix a 0) d))
theorem Ke (H:Ab a0 a1 h R):ag prog vM #[a0,a1] h R:=fk f48 (.s .z (.s (.s .z (.s (.s .z .z) .z)) (.s .z (.s .z (.s (.s .z (.l 288230375883277280 [5,6,28] (.s .z (.s (.s .z .z) (.s (.s .z (.s .z (.s .z (.s .z .z)))) .z))))) (.s .z .z)))))) H
def uZ (a0:Value)(h:ah)(R:Value→ah→Prop):Prop:=
 aW #[(.pointer none),(.pointer none),ai] 81 h λa b=>
 vK (aR a0) λd=>
 vK (aB 0 d) λe=>
 vK (aO 3 b e) λf=>
 stK 3 a f b λi c=>
 vK (aO 3 c a) λg=>
 R g c
theorem EO (H:uZ a0 h R):ag prog iU #[a0] h R:=fk f49 (.s .z (.s .z .z)) H
end
end Go.Proofs.YtjljhnandbbldaaGreatDoor
