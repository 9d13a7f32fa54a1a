/- Several texts of this session, one behind the other, without what this claim does not need (put together by its program pack.py). Conditions: none. -/
import Derived.Test.YtjljhnandbbldaaGreatDoorMu1
import Derived.Lib.ItoaNum
set_option linter.unusedVariables false
set_option linter.unusedSimpArgs false
set_option maxRecDepth 100000
namespace Go.Proofs.YtjljhnandbbldaaGreatDoor
open Go Go.Crisp
attribute [local irreducible] ae cE aP stK aA vK qK bC gK dK aU mkK cF Ch DH zZ bsK
open _root_.Go.Proofs.Tryz
theorem kA {a n:Nat}(k':IntKind)(A:n≤64):ag .i .shr (.int .u64 (a:Int)) (.int k' (n:Int))=some (.int .u64 ((a/2^n:Nat):Int)):=by
 show(if(n:Int)<0 then none else some (Value.int .u64 ((a:Int).fdiv (2^(min (n:Int).toNat 64)))))=_;rw[if_neg (by omega),Int.toNat_natCast,Nat.min_eq_left A,Int.fdiv_eq_ediv_of_nonneg _ (Int.le_of_lt (Int.pow_pos (by omega)))];simp
theorem tg {a n:Nat}(k':IntKind)(A:n≤64):ag .i .shl (.int .u64 (a:Int)) (.int k' (n:Int))=some (.int .u64 ((a*2^n%18446744073709551616:Nat):Int)):=by
 show(if(n:Int)<0 then none else some (Value.int .u64 (IntKind.u64.wrap ((a:Int)*(2^(min (n:Int).toNat 64))))))=_;rw[if_neg (by omega),Int.toNat_natCast,Nat.min_eq_left A,dF];simp
theorem kz (a:Nat)(h:a<18446744073709551616):(BitVec.ofInt 64 (a:Int)).toNat=a:=by
 rw[BitVec.toNat_ofInt];simp only[Nat.reducePow];omega
theorem T7 {a b:Nat}(D:a<18446744073709551616)(A:b<18446744073709551616):ag .i .or (.int .u64 (a:Int)) (.int .u64 (b:Int))=some (.int .u64 ((a|||b:Nat):Int)):=by
 show some (Value.int .u64 (IntKind.u64.wrap (((BitVec.ofInt 64 (a:Int)|||BitVec.ofInt 64 (b:Int)).toNat:Nat):Int)))=_;rw[BitVec.toNat_or,kz a D,kz b A,eO];exact Nat.or_lt_two_pow (n:=64) D A
theorem No {a b:Nat}(A:a<18446744073709551616)(D:b<18446744073709551616):ag .i .and (.int .u64 (a:Int)) (.int .u64 (b:Int))=some (.int .u64 ((a&&& b:Nat):Int)):=by
 show some (Value.int .u64 (IntKind.u64.wrap (((BitVec.ofInt 64 (a:Int)&&& BitVec.ofInt 64 (b:Int)).toNat:Nat):Int)))=_;rw[BitVec.toNat_and,kz a A,kz b D,eO];exact Nat.lt_of_le_of_lt Nat.and_le_left A
theorem JV {a:Nat}(A:a<18446744073709551616):ag .i .and (.int .u64 (a:Int)) (.int .u64 4294967295)=some (.int .u64 ((a%4294967296:Nat):Int)):=by
 rw[show(4294967295:Int)=((4294967295:Nat):Int)from rfl,No A (by omega)];have:=Nat.and_two_pow_sub_one_eq_mod a 32;simp only[Nat.reducePow,Nat.reduceSub]at this;rw[this]
theorem Py {a:Nat}(A:a<18446744073709551616):ag .i .and (.int .u64 (a:Int)) (.int .u64 1)=some (.int .u64 ((a%2:Nat):Int)):=by
 rw[show(1:Int)=((1:Nat):Int)from rfl,No A (by omega),Nat.and_one_is_mod]
theorem Oc {a b s:Nat}(A:b<2^s):a*2^s|||b=a*2^s+b:=by
 rw[Nat.mul_comm,Nat.two_pow_add_eq_or_of_lt A]
theorem cvu {n:Nat}(k:IntKind)(h:n<18446744073709551616):eS .u64 (.int k (n:Int))=some (.int .u64 (n:Int)):=by
 rw[zi,eO h]
theorem OI {H a b c u:Nat}(h:H=a*18446744073709551616+u)(hu:u=b*4294967296+c):H=(a*4294967296+b)*4294967296+c:=by
 rw[h,hu,Nat.add_mul,Nat.mul_assoc];simp only[Nat.reduceMul,Nat.add_assoc]
theorem Jc {u d Y yn1 yn0:Nat}{h:af}(hY:Y=yn1*4294967296+yn0)(h0:yn0<4294967296)(h1:2147483648≤yn1)(h1':yn1<4294967296)(hu:u<Y)(hd:d<4294967296)
  {init:List Value} {body:List Value→Env→af→(List Value→af→Prop)→Prop} (P:Nat→Nat→List Value) (hi:init=P (u/yn1) (u-u/yn1*yn1))
  (step:∀q r again ρj,q<4294967298→r<4294967296→(∀G D,G=q-1→D=r+yn1→1≤q→(4294967296≤q∨4294967296*r+d<q*yn0)→D<4294967296→again (P G D) h)→
   ((4294967296≤q∨4294967296*r+d<q*yn0)→1≤q→4294967296≤r+yn1→q-1=(u*4294967296+d)/Y)→(¬(4294967296≤q∨4294967296*r+d<q*yn0)→q=(u*4294967296+d)/Y)→((4294967296≤q∨4294967296*r+d<q*yn0)→1≤q)→
   body (P q r) ρj h again):aU init h body:=by
 have F:=Uk h1 hY h0 hu;refine cO (λm xs h'=>h'=h∧∃q r,m=q∧xs=P q r∧JX u d Y yn1 yn0 q r∧q<4294967298∧r<4294967296) (u/yn1) ⟨rfl,u/yn1,u-u/yn1*yn1,rfl,hi,OM hY h1 hu hd,F,?_⟩ ?_
 ·have:=Nat.div_add_mod u yn1;have h2:=Nat.mod_lt u (show yn1>0 by omega);rw[Nat.mul_comm]at this;omega
 ·rintro m xs ρj h' again ⟨hh,q,r,L,rfl,g,hq,hr⟩ H;have L:=L.symm;subst hh L;refine step q r again ρj hq hr (λG D W U I hc A=>?_) (λhc I A=>?_) (λhc=>?_) λhc=>(Cb hY h1 hu hd g hc).1
  ·subst W U;refine H _ _ (q-1) (by omega) ⟨rfl,q-1,r+yn1,rfl,rfl,(Cb hY h1 hu hd g hc).2,by omega,A⟩
  ·exact Qx hY h0 h1 hu (Cb hY h1 hu hd g hc).2 A
  ·exact Jd hY h1 g (by omega)
theorem Xc {h:af}{hi lo y:Nat}(b6:hi<y)(bv:lo<18446744073709551616)(hy:y<18446744073709551616):
  ae prog mG #[.int .u64 (hi:Int),.int .u64 (lo:Int),.int .u64 (y:Int)] h λr h'=>
   r=.tuple #[.int .u64 (((hi*18446744073709551616+lo)/y:Nat):Int),.int .u64 (((hi*18446744073709551616+lo)%y:Nat):Int)]∧h'=h:=by
 apply BU;unfold rV;have q1:((y:Int)=0)=False:=eq_false (by omega);have q2:((y:Int)≤(hi:Int))=False:=eq_false (by omega);simp only[go_sem,q1,q2];refine aV (λxs h'=>h'=h) rfl λxs ρj h' e=>?_
 subst e;refine aV (λxs ci=>ci=h') rfl λxs ρj ci e=>?_
 subst e;refine aj (λh0=>?_) (λh0=>?_)
 ·have h0:hi=0:=by omega
  subst h0;rw[Gw (by omega) bv,ah,Rq (by omega),ah];exact⟨by simp,rfl⟩
 refine(EY hy).mono λv1 h1 ⟨e1,w1⟩=>?_
 subst e1 w1;obtain⟨b0,b1,b2⟩:=Lib.bitLenAux_bounds 64 y hy (by omega);have b3:=Lib.bitLen_le y 64 (Nat.le_refl _) hy;have eb:Lib.bitLen y=Lib.bitLenAux 64 y:=rfl;rw[←eb]at b0 b1 b2;generalize hL:Lib.bitLen y=L at b0 b1 b2 b3;obtain⟨s,hs⟩:∃s,s=64-L:=⟨_,rfl⟩
 rw[show(64:Int)-(L:Int)=(s:Int)by omega,cvu _ (by omega),ah,tg _ (by omega),ah];have hp:(0:Nat)<2^s:=Nat.pow_pos (by omega);have cr:2^L*2^s=18446744073709551616:=by
  rw[←Nat.pow_add,show L+s=64 by omega]
 have cp:2^(L-1)*2^s=9223372036854775808:=by
  rw[←Nat.pow_add,show L-1+s=63 by omega]
 have bo:y*2^s<18446744073709551616:=by rw[←cr];exact Nat.mul_lt_mul_of_pos_right b2 hp
 have eh:9223372036854775808≤y*2^s:=by rw[←cp];exact Nat.mul_le_mul_right _ b1
 have be:hi*2^s<18446744073709551616:=Nat.lt_trans (Nat.mul_lt_mul_of_pos_right b6 hp) bo;rw[Nat.mod_eq_of_lt bo];have aw:lo/2^(64-s)<2^s:=by
  rw[Nat.div_lt_iff_lt_mul (Nat.pow_pos (by omega)),←Nat.pow_add,show s+(64-s)=64 by omega];exact bv
 have c3:(32:Int)=((32:Nat):Int):=rfl;rw[c3,kA _ (by omega),ah,JV bo,ah,tg _ (by omega),ah,Nat.mod_eq_of_lt be,fO,ah,
  wu64 (n:=64-(s:Int)) (by omega) (by omega),show(64:Int)-(s:Int)=((64-s:Nat):Int)by omega,kA _ (by omega),ah,
  T7 be (Nat.lt_of_lt_of_le aw (by rw[←cr];exact Nat.le_mul_of_pos_left _ (Nat.pow_pos (by omega)))),ah,Oc aw,tg _ (by omega),ah]
 -- what is divided, shifted
 have er:(hi*18446744073709551616+lo)*2^s<y*2^s*18446744073709551616:=by
  have:hi*18446744073709551616+lo<y*18446744073709551616:=by omega
  rw[Nat.mul_right_comm];exact Nat.mul_lt_mul_of_pos_right this hp
 have an:lo*2^s=lo/2^(64-s)*18446744073709551616+lo*2^s%18446744073709551616:=by
  have e:lo*2^s/18446744073709551616=lo/2^(64-s):=by
   rw[show(18446744073709551616:Nat)=2^(64-s)*2^s by rw[←Nat.pow_add,show 64-s+s=64 by omega]];exact Nat.mul_div_mul_right _ _ hp
  rw[←e,Nat.mul_comm _ 18446744073709551616];exact(Nat.div_add_mod _ _).symm
 have F:(hi*18446744073709551616+lo)*2^s=(hi*2^s+lo/2^(64-s))*18446744073709551616+lo*2^s%18446744073709551616:=by
  rw[Nat.add_mul,an,Nat.mul_right_comm,Nat.add_mul,Nat.add_assoc]
  congr 2
  rw[←an]
 have a7:(hi*18446744073709551616+lo)/y=(hi*18446744073709551616+lo)*2^s/(y*2^s):=(Nat.mul_div_mul_right _ _ hp).symm;have cc:(hi*18446744073709551616+lo)%y=(hi*18446744073709551616+lo)*2^s%(y*2^s)/2^s:=by
  rw[Nat.mul_mod_mul_right,Nat.mul_div_cancel _ hp]
 have aa:(hi*18446744073709551616+lo)/y<18446744073709551616:=by
  rw[Nat.div_lt_iff_lt_mul (by omega),Nat.mul_comm];have:(hi+1)*18446744073709551616≤y*18446744073709551616:=Nat.mul_le_mul_right _ b6;omega
 rw[a7,cc];rw[a7]at aa;generalize(hi*18446744073709551616+lo)*2^s=HS at*;generalize ec:hi*2^s+lo/2^(64-s)=A at*;have bc:lo*2^s%18446744073709551616<18446744073709551616:=Nat.mod_lt _ (by omega);generalize lo*2^s%18446744073709551616=U at*;generalize ej:y*2^s=Y at*
 clear an be aw
 have hu:A<Y:=by omega
 have bd:U/4294967296<4294967296:=by omega
 have bg:U%4294967296<4294967296:=by omega
 have b4:(2:Nat)^32=4294967296:=rfl;rw[kA _ (by omega),ah,JV bc,ah,b4];have cb:Y=Y/4294967296*4294967296+Y%4294967296:=by omega
 have b5:2147483648≤Y/4294967296:=by omega
 have ax:Y/4294967296<4294967296:=by omega
 have b8:Y%4294967296<4294967296:=by omega
 have ca:s≤64:=by omega
 generalize ee:Y/4294967296=yn1 at*;generalize ek:Y%4294967296=yn0 at*;generalize ep:U/4294967296=G at*;generalize es:U%4294967296=H at*;have cw:U=G*4294967296+H:=by omega
 rw[Gw (by omega) (by omega),ah,kr,ah];have et:A/yn1*yn1≤A:=Nat.div_mul_le_self _ _;rw[show((A/yn1:Nat):Int)*(yn1:Int)=((A/yn1*yn1:Nat):Int)from(Int.natCast_mul _ _).symm,eO (by omega),fO,ah,
  show(A:Int)-((A/yn1*yn1:Nat):Int)=((A-A/yn1*yn1:Nat):Int)by omega,eO (by omega)]
 have body:∀{u d q r:Nat} {X Y:Prop} (hq:q<4294967298) (hr:r<4294967296) (hd:d<4294967296),
   ((4294967296≤q∨4294967296*r+d<q*yn0)→X)→(¬(4294967296≤q∨4294967296*r+d<q*yn0)→Y)→
   vK (ag .i .geq (.int .u64 (q:Int)) (.int .u64 4294967296)) λI=>
    vK (gV I false (some (.int .u64 (q:Int)))) λdl=>vK (gV I false (some (.int .u64 (yn0:Int)))) λc1=>vK (gV I false (ag .i .mul dl c1)) λct=>
    vK (gV I false (some (.int .u64 (r:Int)))) λea=>vK (gV I false (ag .i .mul (.int .u64 4294967296) ea)) λc6=>vK (gV I false (some (.int .u64 (d:Int)))) λdz=>
    vK (gV I false (ag .i .add c6 dz)) λc7=>vK (gV I false (ag .i .gtr ct c7)) λc4=>vK (az I (.bool true) c4) λc0=>aA c0 X Y:=by
  intro u d q r X Y hq hr hd hX hY;simp only[go_sem];by_cases hc:4294967296≤q
  ·have e:((4294967296:Int)≤(q:Int))=True:=eq_true (by omega);simp only[go_sem,e];exact hX (.inl hc)
  ·have e:((4294967296:Int)≤(q:Int))=False:=eq_false (by omega);simp only[go_sem,e];have eg:q*yn0≤q*4294967296:=Nat.mul_le_mul_left _ (by omega);rw[show(q:Int)*(yn0:Int)=((q*yn0:Nat):Int)from(Int.natCast_mul _ _).symm,eO (m:=q*yn0) (by omega),
    show(4294967296:Int)*(r:Int)=((4294967296*r:Nat):Int)by omega,eO (m:=4294967296*r) (by omega),
    show((4294967296*r:Nat):Int)+(d:Int)=((4294967296*r+d:Nat):Int)by omega,eO (m:=4294967296*r+d) (by omega)]
   refine aj (λh0=>hX (.inr (by omega))) (λh0=>hY (by omega))
 refine aV (λxs h'=>xs=[.int .u64 (((A*4294967296+G)/Y:Nat):Int)]∧h'=h1) ?_ ?_
 ·refine Jc (d:=G) cb b8 b5 ax hu bd (λq r=>[.int .u64 (q:Int),.int .u64 (r:Int)]) rfl λq r again ρj hq hr g1 g2 g3 g4=>?_
  simp only[gb,uA];refine body (u:=0) hq hr bd (λhc=>?_) (λhc=>?_)
  ·have au:=g4 hc;rw[fO,ah,show(q:Int)-1=((q-1:Nat):Int)by omega,eO (by omega),cN,ah,show(r:Int)+(yn1:Int)=((r+yn1:Nat):Int)by omega,eO (by omega)];rw[JO,ah];refine aj (λh0=>⟨by rw[g2 hc au (by omega)],trivial⟩) (λh0=>g1 _ _ rfl rfl au hc (by omega))
  ·exact⟨by rw[g3 hc],trivial⟩
 rintro xs ρj h2 ⟨rfl,e2⟩;subst e2;simp only[gb];have c8:=Jp hu bd;have b7:=Nat.div_add_mod (A*4294967296+G) Y;have W:(A*4294967296+G)%Y<Y:=Nat.mod_lt _ (by omega);have hD:=QH (M:=A*4294967296+G) (Y:=Y) (d0:=H) (by omega) rfl rfl;obtain⟨ad,ay⟩:∃q,q=(A*4294967296+G)/Y:=⟨_,rfl⟩
 obtain⟨D,a8⟩:∃q,q=(A*4294967296+G)%Y:=⟨_,rfl⟩
 rw[←ay,←a8]at b7 hD;rw[←a8]at W;rw[←ay]at c8 ⊢;have cu:IntKind.u64.wrap (IntKind.u64.wrap (IntKind.u64.wrap ((A:Int)*4294967296)+(G:Int))-IntKind.u64.wrap ((ad:Int)*(Y:Int)))=(D:Int):=by
  rw[show(ad:Int)*(Y:Int)=((Y*ad:Nat):Int)by rw[Nat.mul_comm];exact(Int.natCast_mul _ _).symm];rw[dF,dF,dF,dF]
  clear hD F
  generalize Y*ad=P at*;omega
 rw[kr,ah,cN,ah,kr,ah,fO,ah,cu];have ei:D/yn1*yn1≤D:=Nat.div_mul_le_self _ _;rw[Gw (by omega) (by omega),ah,kr,ah,show((D/yn1:Nat):Int)*(yn1:Int)=((D/yn1*yn1:Nat):Int)from(Int.natCast_mul _ _).symm,eO (by omega),fO,ah,
  show(D:Int)-((D/yn1*yn1:Nat):Int)=((D-D/yn1*yn1:Nat):Int)by omega,eO (by omega)]
 refine aV (λxs h'=>xs=[.int .u64 (((D*4294967296+H)/Y:Nat):Int)]∧h'=h2) ?_ ?_
 ·refine Jc (d:=H) cb b8 b5 ax W bg (λq r=>[.int .u64 (r:Int),.int .u64 (q:Int)]) rfl λq r again ρj hq hr g1 g2 g3 g4=>?_
  simp only[gb,uA];refine body (u:=0) hq hr bg (λhc=>?_) (λhc=>?_)
  ·have au:=g4 hc;rw[fO,ah,show(q:Int)-1=((q-1:Nat):Int)by omega,eO (by omega),cN,ah,show(r:Int)+(yn1:Int)=((r+yn1:Nat):Int)by omega,eO (by omega)];rw[JO,ah];refine aj (λh0=>⟨by rw[g2 hc au (by omega)],trivial⟩) (λh0=>g1 _ _ rfl rfl au hc (by omega))
  ·exact⟨by rw[g3 hc],trivial⟩
 rintro xs ρj h3 ⟨rfl,e3⟩;subst e3;simp only[gb];have c9:=Jp W bg;have a9:=Nat.div_add_mod (D*4294967296+H) Y;have c2:(D*4294967296+H)%Y<Y:=Nat.mod_lt _ (by omega);have bk:HS=(A*4294967296+G)*4294967296+H:=OI F cw;rw[bk]at aa ⊢;rw[hD.1]at aa ⊢;rw[hD.2];obtain⟨ab,ar⟩:∃q,q=(D*4294967296+H)/Y:=⟨_,rfl⟩
 obtain⟨rr,al⟩:∃q,q=(D*4294967296+H)%Y:=⟨_,rfl⟩
 rw[←ar,←al]at a9;rw[←al]at c2;rw[←ar]at c9 aa;rw[←ar,←al];have dq:IntKind.u64.wrap (IntKind.u64.wrap (IntKind.u64.wrap ((D:Int)*4294967296)+(H:Int))-IntKind.u64.wrap ((ab:Int)*(Y:Int)))=(rr:Int):=by
  rw[show(ab:Int)*(Y:Int)=((Y*ab:Nat):Int)by rw[Nat.mul_comm];exact(Int.natCast_mul _ _).symm];rw[dF,dF,dF,dF]
  clear hD F bk
  generalize Y*ab=P at*;omega
 have rq:IntKind.u64.wrap (IntKind.u64.wrap ((ad:Int)*4294967296)+(ab:Int))=((ad*4294967296+ab:Nat):Int):=by
  rw[dF,dF]
  clear hD F bk b7 a9
  omega
 rw[kr,ah,cN,ah,kr,ah,cN,ah,kr,ah,fO,ah,dq,rq,kA _ ca,ah];exact⟨rfl,trivial⟩
theorem Lz {m n:Nat}{b:Bool}(D:9223372036854775808≤m)(A:9223372036854775808≤n):iB m b=iB n b:=by
 unfold iB;cases b
 ·simp only[Bool.false_eq_true,if_false];rw[if_pos (by omega),if_pos (by omega)]
 ·simp only[if_true];rw[if_pos (by omega),if_pos (by omega)]
theorem Mn {a b:Int}(A:I64 a)(F:I64 b):a.natAbs*b.natAbs≤85070591730234615865843651857942052864:=by
 have h1:=nF A;have D:=nF F;exact Nat.le_trans (Nat.mul_le_mul h1 D) (by decide)
theorem Jo {m n:Nat}(h:m≤85070591730234615865843651857942052864):m/n≤85070591730234615865843651857942052864:=Nat.le_trans (Nat.div_le_self _ _) h
theorem lZ {h:af}{a b d:Int}(ha:I64 a)(hb:I64 b)(hd:I64 d):ae prog dw #[.int .i64 a,.int .i64 b,.int .i64 d] h λr h'=>r=.int .i64 (cg a b d)∧h'=h:=by
 apply Hz;unfold xP;simp only[go_sem];unfold cg;refine aj (λh0=>?_) (λh0=>?_)
 ·rw[if_pos h0];exact⟨rfl,trivial⟩
 rw[if_neg h0];have hm:=Mn ha hb;refine(LS ha hb).mono λv1 h1 ⟨e1,w1⟩=>?_
 subst e1 w1;simp only[go_sem];refine(Cj hd).mono λv2 I ⟨e2,w2⟩=>?_
 subst e2 w2;have W:=nF hd;have A:0<d.natAbs:=by omega
 obtain⟨m,au⟩:∃m,m=a.natAbs*b.natAbs:=⟨_,rfl⟩
 obtain⟨bl,G⟩:∃bl,bl=(jl a b != decide (d<0)):=⟨_,rfl⟩
 obtain⟨D,hD⟩:∃D,D=d.natAbs:=⟨_,rfl⟩
 have F:(!(jl a b==decide (d<0)))=bl:=G.symm;rw[←au]at hm ⊢;rw[←G,F,←hD];rw[←hD]at A W;have hq:m/D≤85070591730234615865843651857942052864:=Jo hm;simp only[go_sem];refine aj (λh1=>?_) (λh1=>?_)
 ·have ay:18446744073709551616≤m/D:=by
   rw[Nat.le_div_iff_mul_le A];have I:D≤m/18446744073709551616:=by omega
   have:=(Nat.le_div_iff_mul_le (show 0<18446744073709551616 by omega)).1 I;rw[Nat.mul_comm];exact this
  refine(zn (m:=18446744073709551616) (b:=bl) (by omega)).mono λv h' ⟨e,w⟩=>⟨?_,w⟩
  rw[e,Lz (by omega) (n:=ub m D bl)];unfold ub;omega
 ·have H:m/18446744073709551616<D:=by omega
  have aw:m/D<18446744073709551616:=by
   rw[Nat.div_lt_iff_lt_mul A,Nat.mul_comm];exact(Nat.div_lt_iff_lt_mul (by omega)).1 H
  refine(Xc H (Nat.mod_lt _ (by omega)) (by omega)).mono λv I ⟨e,w⟩=>?_
  subst e w;have aa:m/18446744073709551616*18446744073709551616+m%18446744073709551616=m:=by
   rw[Nat.mul_comm];exact Nat.div_add_mod _ _
  rw[aa];simp only[go_sem];have hr:m%D<D:=Nat.mod_lt _ A;rw[show(D:Int)-((m%D:Nat):Int)=((D-m%D:Nat):Int)by omega,eO (m:=D-m%D) (by omega)];have fin:∀up:Nat,up≤1→ub m D bl=m/D+up→ae prog fj #[.int .u64 ((m/D:Nat):Int),.int .u64 (up:Int),.int .u64 0] I λU ar=>
    vK (aE U 0) λad=>vK (aE U 1) λab=>ae prog du #[ab,ad,.bool bl] ar λal an=>al=.int .i64 (iB (ub m D bl) bl)∧an=I:=by
   intro up ax hn;refine(RY (x:=m/D) (y:=up) (c:=0) (by omega)).mono λv h3 ⟨e,w⟩=>?_
   subst e w;simp only[go_sem];refine(zn (m:=m/D+up+0) (b:=bl) (by omega)).mono λv h' ⟨e,w⟩=>⟨?_,w⟩
   rw[e,hn];rfl
  cases L:bl
  ·rw[L]at fin;simp only[go_sem];refine aj (λh3=>?_) (λh3=>?_)
   ·refine fin 1 (by omega) ?_;unfold ub;simp only[Bool.false_eq_true,if_false];rw[if_pos (by omega)]
   ·refine fin 0 (by omega) ?_;unfold ub;simp only[Bool.false_eq_true,if_false];rw[if_neg (by omega)]
  ·rw[L]at fin;simp only[go_sem];by_cases h3:D-m%D<m%D
   ·have e3:(((D-m%D:Nat):Int)<((m%D:Nat):Int))=True:=eq_true (by omega);simp only[go_sem,e3];refine fin 1 (by omega) ?_;unfold ub;simp only[if_true];rw[if_pos (by omega)]
   ·have e3:(((D-m%D:Nat):Int)<((m%D:Nat):Int))=False:=eq_false (by omega);simp only[go_sem,e3];refine fin 0 (by omega) ?_;unfold ub;simp only[if_true];rw[if_neg (by omega)]
theorem FM {h:af}{m n:Nat}(hm:m<340282366920938463463374607431768211456)(hn:n<128):
  ae prog qY #[.int .u64 ((m/18446744073709551616:Nat):Int),.int .u64 ((m%18446744073709551616:Nat):Int),.int .i64 (n:Int)] h λr h'=>
   r=.tuple #[.int .u64 ((m/2^n/18446744073709551616:Nat):Int),.int .u64 ((m/2^n%18446744073709551616:Nat):Int)]∧h'=h:=by
 apply Kg;unfold AB;simp only[go_sem];have L:m/18446744073709551616<18446744073709551616:=by omega
 refine aj (λh0=>?_) (λh0=>?_)
 ·rw[w64 (n:=(n:Int)-64) (by omega) (by omega),show(n:Int)-64=((n-64:Nat):Int)by omega,kA _ (by omega),ah];refine⟨?_,trivial⟩;have e:m/2^n=m/18446744073709551616/2^(n-64):=by
   rw[Nat.div_div_eq_div_mul,show(18446744073709551616:Nat)=2^64 from rfl,←Nat.pow_add,show 64+(n-64)=n by omega]
  have H:m/18446744073709551616/2^(n-64)<18446744073709551616:=Nat.lt_of_le_of_lt (Nat.div_le_self _ _) L;rw[e,Nat.div_eq_of_lt H,Nat.mod_eq_of_lt H];rfl
 ·have aa:n<64:=by omega
  rw[kA _ (by omega),ah,kA _ (by omega),ah];rw[w64 (n:=64-(n:Int)) (by omega) (by omega),show(64:Int)-(n:Int)=((64-n:Nat):Int)by omega,tg _ (by omega),ah];have F:m%18446744073709551616<18446744073709551616:=Nat.mod_lt _ (by omega);have h2:m%18446744073709551616/2^n<18446744073709551616:=Nat.lt_of_le_of_lt (Nat.div_le_self _ _) F;rw[T7 h2 (Nat.mod_lt _ (by omega)),ah];refine⟨?_,trivial⟩;have I:(0:Nat)<2^n:=Nat.pow_pos (by omega);have A:(18446744073709551616:Nat)=2^n*2^(64-n):=by rw[←Nat.pow_add,show n+(64-n)=64 by omega]
  have D:m%18446744073709551616/2^n<2^(64-n):=by
   rw[Nat.div_lt_iff_lt_mul I,Nat.mul_comm,←A];exact F
  -- the low half of what is above
  have e1:m/2^n=m/18446744073709551616*2^(64-n)+m%18446744073709551616/2^n:=by
   have e:=Nat.div_add_mod m 18446744073709551616;have e2:m=m%18446744073709551616+2^n*(m/18446744073709551616*2^(64-n)):=by
    have:2^n*(m/18446744073709551616*2^(64-n))=18446744073709551616*(m/18446744073709551616):=by
     rw[A,Nat.mul_left_comm,Nat.mul_comm]
    rw[this];omega
   conv=>lhs;rw[e2]
   rw[Nat.add_mul_div_left _ _ I,Nat.add_comm]
  have e3:m/18446744073709551616*2^(64-n)%18446744073709551616=m/18446744073709551616%2^n*2^(64-n):=by
   have:(18446744073709551616:Nat)=2^n*2^(64-n):=A
   conv=>lhs;rhs;rw[this]
   exact Nat.mul_mod_mul_right _ _ _
  rw[e3,Nat.or_comm,Oc D];generalize U:m/18446744073709551616=G at*;have e4:m/2^n/18446744073709551616=G/2^n:=by
   rw[Nat.div_div_eq_div_mul,Nat.mul_comm,←Nat.div_div_eq_div_mul,U]
  have e5:m/2^n%18446744073709551616=G%2^n*2^(64-n)+m%18446744073709551616/2^n:=by
   rw[e1];have hd:=Nat.div_add_mod G (2^n);have:G*2^(64-n)=G%2^n*2^(64-n)+18446744073709551616*(G/2^n):=by
    conv=>lhs;rw[←hd]
    rw[Nat.add_mul,Nat.add_comm,Nat.mul_right_comm,←A]
   rw[this,Nat.add_right_comm,Nat.add_mul_mod_self_left,Nat.mod_eq_of_lt];have h6:G%2^n+1≤2^n:=Nat.mod_lt _ I;have W:(G%2^n+1)*2^(64-n)≤2^n*2^(64-n):=Nat.mul_le_mul_right _ h6;rw[←A,Nat.add_mul,Nat.one_mul]at W;exact Nat.lt_of_lt_of_le (Nat.add_lt_add_left D _) W
  rw[e4,e5]
theorem WR {h:af}{m n:Nat}(I:m<340282366920938463463374607431768211456)(L:n<128):
  ae prog wF #[.int .u64 ((m/18446744073709551616:Nat):Int),.int .u64 ((m%18446744073709551616:Nat):Int),.int .i64 (n:Int)] h λr h'=>r=.bool (decide (m%2^n=0))∧h'=h:=by
 apply Kh;unfold AC;simp only[go_sem];have D:∀(a k:Nat),k≤64→(a*2^(64-k)%18446744073709551616=0↔a%2^k=0):=by
  intro a k H;have A:(18446744073709551616:Nat)=2^k*2^(64-k):=by rw[←Nat.pow_add,show k+(64-k)=64 by omega]
  rw[A,Nat.mul_mod_mul_right];have:0<2^(64-k):=Nat.pow_pos (by omega);constructor
  ·intro h;rcases Nat.mul_eq_zero.1 h with h|h<;>omega
  ·intro h;rw[h,Nat.zero_mul]
 refine aj (λh0=>?_) (λh0=>?_)
 ·-- n ≥ 64
  have e:(2:Nat)^n=18446744073709551616*2^(n-64):=by rw[show(18446744073709551616:Nat)=2^64 from rfl,←Nat.pow_add,show 64+(n-64)=n by omega]
  have key:m%2^n=0↔m%18446744073709551616=0∧m/18446744073709551616%2^(n-64)=0:=by
   rw[e,Nat.mod_mul];constructor
   ·intro h;have h1:m%18446744073709551616=0:=by omega
    refine⟨h1,?_⟩;rw[h1,Nat.zero_add]at h;rcases Nat.mul_eq_zero.1 h with h|h
    ·omega
    ·exact h
   ·rintro⟨h1,G⟩;rw[h1,G]
  by_cases F:m%18446744073709551616=0
  ·have q:(((m%18446744073709551616:Nat):Int)=0)=True:=eq_true (by omega);simp only[go_sem,q];rw[w64 (n:=128-(n:Int)) (by omega) (by omega),show(128:Int)-(n:Int)=((64-(n-64):Nat):Int)by omega,tg _ (by omega),ah];simp only[go_sem];refine⟨?_,trivial⟩
   congr 1
   rw[decide_eq_decide];have:=D (m/18446744073709551616) (n-64) (by omega);constructor
   ·intro h;exact key.2 ⟨F,this.1 (by omega)⟩
   ·intro h;have:=this.2 (key.1 h).2;omega
  ·have q:(((m%18446744073709551616:Nat):Int)=0)=False:=eq_false (by omega);simp only[go_sem,q];refine⟨?_,trivial⟩
   congr 1
   rw[Eq.comm,decide_eq_false_iff_not];exact λh=>F (key.1 h).1
 ·rw[w64 (n:=64-(n:Int)) (by omega) (by omega),show(64:Int)-(n:Int)=((64-n:Nat):Int)by omega,tg _ (by omega),ah];simp only[go_sem];refine⟨?_,trivial⟩
  congr 1
  rw[decide_eq_decide];have:=D (m%18446744073709551616) n (by omega);have e:m%18446744073709551616%2^n=m%2^n:=by
   have A:(18446744073709551616:Nat)=2^n*2^(64-n):=by rw[←Nat.pow_add,show n+(64-n)=64 by omega]
   rw[A,Nat.mod_mul_right_mod]
  rw[e]at this;constructor
  ·intro h;exact this.1 (by omega)
  ·intro h;have:=this.2 h;omega
theorem QY {h:af} {a b n:Int} (ha:I64 a) (hb:I64 b) (hn:I64 n):ae prog p9 #[.int .i64 a,.int .i64 b,.int .i64 n] h λr h'=>r=.int .i64 (nG a b n)∧h'=h:=by
  apply Er;unfold uW;simp only[go_sem];have hm:=Mn ha hb;unfold nG;refine aj (λh0=>?_) (λh0=>?_)
  · rw[if_pos (by omega)];exact⟨rfl,trivial⟩
  rw[if_neg (by omega)];have W:max 0 n=((n.toNat:Nat):Int):=by omega
  rw[W]at h0 ⊢;obtain⟨k,hk⟩:∃k,k=n.toNat:=⟨_,rfl⟩
  rw[←hk]at h0 ⊢;refine(LS ha hb).mono λv1 h1 ⟨e1,w1⟩=>?_
  subst e1 w1;obtain⟨m,ar⟩:∃m,m=a.natAbs*b.natAbs:=⟨_,rfl⟩
  obtain⟨bl,aa⟩:∃bl,bl=jl a b:=⟨_,rfl⟩
  rw[←ar]at hm ⊢;rw[←aa];simp only[go_sem];unfold GS;refine aj (λh1=>?_) (λh1=>?_)
  · rw[if_pos (by omega)]
    exact zn (by omega)
  rw[if_neg (by omega)];refine(FM (m:=m) (n:=k) (by omega) (by omega)).mono λv h2 ⟨e,w⟩=>?_
  subst e w;simp only[go_sem];rw[w64 (n:=(k:Int)-1) (by omega) (by omega),show(k:Int)-1=((k-1:Nat):Int)by omega];refine(FM (m:=m) (n:=k-1) (by omega) (by omega)).mono λv U ⟨e,w⟩=>?_
  subst e w;simp only[go_sem];have au:m/2^k≤85070591730234615865843651857942052864:=Jo hm;rw[Py (Nat.mod_lt _ (by omega)),ah,show m/2^(k-1)%18446744073709551616%2=m/2^(k-1)%2 by omega];have D:ae prog du #[.int .u64 ((m/2^k/18446744073709551616:Nat):Int),.int .u64 ((m/2^k%18446744073709551616:Nat):Int),.bool bl] U λF G=>F=.int .i64 (iB (m/2^k+0) bl)∧G=U:=zn (by omega)
  have A:ae prog fj #[.int .u64 ((m/2^k%18446744073709551616:Nat):Int),.int .u64 1,.int .u64 0] U λL an=>
        vK (aE L 0) λad=>vK (aE L 1) λab=>vK (ag .i .add (.int .u64 ((m/2^k/18446744073709551616:Nat):Int)) ab) λal=>
        ae prog du #[al,ad,.bool bl] an λF G=>F=.int .i64 (iB (m/2^k+1) bl)∧G=U:=by
    refine(RY (x:=m/2^k%18446744073709551616) (y:=1) (c:=0) (by omega)).mono λv h4 ⟨e,w⟩=>?_
    subst e w;simp only[go_sem];generalize m/2^k=M at*;have e1:(M%18446744073709551616+1+0)%18446744073709551616=(M+1)%18446744073709551616:=by omega
    have e2:((M/18446744073709551616:Nat):Int)+(((M%18446744073709551616+1+0)/18446744073709551616:Nat):Int)=(((M+1)/18446744073709551616:Nat):Int):=by omega
    rw[e1,e2,eO (by omega)];exact zn (by omega)
  by_cases hh:m/2^(k-1)%2=0
  · have q:(((m/2^(k-1)%2:Nat):Int)=0)=True:=eq_true (by omega)
    simp only[go_sem,q];rw[if_neg (λh=>by omega)];exact D
  · have q:(((m/2^(k-1)%2:Nat):Int)=0)=False:=eq_false (by omega)
    simp only[go_sem,q];have H:m/2^(k-1)%2=1:=by omega
    cases I:bl
    · rw[I]at A
      simp only[go_sem];rw[if_pos ⟨H,by simp⟩];exact A
    · rw[I]at D A
      simp only[go_sem];rw[w64 (n:=(k:Int)-1) (by omega) (by omega),show(k:Int)-1=((k-1:Nat):Int)by omega];refine(WR (m:=m) (n:=k-1) (by omega) (by omega)).mono λv h4 ⟨e,w⟩=>?_
      subst e w
      try simp only[go_sem]
      refine aj (λh5=>?_) (λh5=>?_)
      · rw[if_neg (λh=>h.2 ⟨trivial,h5⟩)]
        exact D
      · rw[if_pos ⟨H,λh=>h5 h.2⟩]
        exact A
theorem Rm {a:Int}{n:Nat}(k':IntKind)(A:n≤64):ag .i .shl (.int .i64 a) (.int k' (n:Int))=some (.int .i64 (IntKind.i64.wrap (a*2^n))):=by
 show(if(n:Int)<0 then none else some (Value.int .i64 (IntKind.i64.wrap (a*(2^(min (n:Int).toNat 64))))))=_;rw[if_neg (by omega),Int.toNat_natCast,Nat.min_eq_left A]
theorem TI {a:Int}(k':IntKind):ag .i .shl (.int .i64 a) (.int k' 40)=some (.int .i64 (IntKind.i64.wrap (a*1099511627776))):=Rm (n:=40) k' (by omega)
theorem XE {a:Int}(k':IntKind):ag .i .shl (.int .i64 a) (.int k' 31)=some (.int .i64 (IntKind.i64.wrap (a*2147483648))):=Rm (n:=31) k' (by omega)
theorem Vd {h:af}{a b:Int}(F:I64 a)(U:I64 b)(h0:0<b):ae prog pV #[.int .i64 a,.int .i64 b] h λr h'=>r=.int .i64 (a%b)∧h'=h:=by
 apply MR;unfold Db;have L:(b=0)=False:=eq_false (by omega);have D:(b= -1)=False:=eq_false (by omega);have I:(b<0)=False:=eq_false (by omega);simp only[go_sem,L,D];rw[dc _ _ _ _ (by omega),ah];simp only[go_sem,I];have e:= @Int.emod_eq_tmod a b;have W:=Int.emod_nonneg a (show b≠0 by omega);have H:=Int.emod_lt_of_pos a h0;unfold I64 at F U;by_cases hc:a.tmod b=0
 ·simp only[go_sem,hc];refine⟨?_,trivial⟩;rw[hc]at e;split at e
  ·rw[e];rfl
  ·rename_i G;exact absurd (Or.inr (Int.dvd_of_tmod_eq_zero hc)) G
 ·simp only[go_sem,hc];by_cases A:a.tmod b<0
  ·simp only[go_sem,A];split at e
   ·omega
   ·rw[w64 (by omega) (by omega)];refine⟨?_,trivial⟩
    congr 1;omega
  ·simp only[go_sem,A];refine⟨?_,trivial⟩
   congr 1
   split at e<;>omega
theorem RW {h:af}{x l u:Int}:ae prog oK #[.int .i64 x,.int .i64 l,.int .i64 u] h λr h'=>r=.int .i64 (max l (min x u))∧h'=h:=by
 apply Is;unfold yw;simp only[go_sem];exact⟨by simp,by simp⟩
theorem JF {h:af}{a b:Int}(A:I64 a)(D:I64 b):ae prog ul #[.int .i64 a,.int .i64 b] h λr h'=>r=.int .i64 (Ay a b)∧h'=h:=by
 apply MS;unfold Dc;simp only[go_sem,gF];unfold Ay I64 at*;refine aj (λh0=>?_) (λh0=>?_)
 ·exact⟨by congr 1;omega,trivial⟩
 refine aj (λh1=>?_) (λh1=>?_)
 ·exact⟨by congr 1;omega,trivial⟩
 ·exact⟨by congr 1;omega,trivial⟩
theorem QW {h:af}{a b:Int}(A:I64 a)(D:I64 b):ae prog zQ #[.int .i64 a,.int .i64 b] h λr h'=>r=.int .i64 (VY a b)∧h'=h:=by
 apply MQ;unfold Da;refine(lk A).mono λv1 h1 ⟨I,w1⟩=>?_
 subst I w1;refine(lk D).mono λv2 h2 ⟨F,L⟩=>?_
 subst F L;refine(Nk (hG A) (hG D)).mono λW h3 ⟨G,H⟩=>?_
 subst G H;simp only[go_sem];unfold VY;have U:=Mn A D;generalize a.natAbs*b.natAbs=m at*;refine aj (λh0=>?_) (λh0=>?_)
 ·refine(pN (m:=18446744073709551615) (b:=jl a b) (by omega)).mono λv h' ⟨e,w⟩=>⟨?_,w⟩
  rw[e,Lz (n:=m) (by omega) (by omega)]
 ·rw[show m%18446744073709551616=m by omega];exact pN (by omega)
theorem c_Exp {h:af}{t:Int}(D:I64 t):ae prog Cw #[.int .i64 t] h λr h'=>r=.int .i64 (SP t)∧h'=h:=by
 apply Oq;unfold Fw;simp only[go_sem];unfold SP;have A:0≤max 0 t∧max 0 t≤9223372036854775807:=by unfold I64 at D;omega
 generalize max 0 t=T at*;rw[kq _ _ _ _ (by omega),ah,dc _ _ _ _ (by omega),ah,Int.tdiv_eq_ediv_of_nonneg A.1,Int.tmod_eq_emod_of_nonneg A.1,w64 (by omega) (by omega)];have W:0≤T%762123384786∧T%762123384786<762123384786:=by omega
 generalize F:T%762123384786=r at*;refine jN (λi=>[.int .i64 (dW r i).1,.int .i64 (dW r i).2,.int .i64 (i:Int)]) 16 0 rfl (by omega) λi again ρj _ hi H=>?_
 simp only[go_sem];obtain⟨G,I⟩:=zg r i;refine aj (λh0=>?_) (λh0=>?_)
 ·have H:=H (by omega);simp only[dW]at H;rw[w64 (n:=(i:Int)+1) (by omega) (by omega),TI,ah,w64 (by omega) (by omega)];refine(lZ I (by unfold I64;omega) (by unfold I64;omega)).mono λv1 h1 ⟨U,w1⟩=>?_
  subst U w1;rw[dc _ _ _ _ (by omega),ah,Int.tmod_eq_emod_of_nonneg (by omega)];simp only[go_sem];refine aj (λL=>?_) (λL=>?_)
  ·rw[if_pos (by omega)]at H;rw[show((i+1:Nat):Int)=(i:Int)+1 by omega]at H;exact H
  ·rw[if_neg (by omega)]at H;rw[show((i+1:Nat):Int)=(i:Int)+1 by omega]at H;exact H
 ·have:i=16:=by omega
  subst this;exact GB G (by unfold I64;omega)
theorem WZ {h:af}{d s:Int}(hd:I64 d)(D:I64 s):ae prog wY #[.int .i64 d,.int .i64 s] h λr h'=>r=.int .i64 (BA d s)∧h'=h:=by
 apply KM;unfold Ba;simp only[go_sem];unfold BA;refine aj (λh0=>?_) (λh0=>?_)
 ·rw[if_pos (by omega)];exact⟨rfl,trivial⟩
 ·rw[if_neg (by omega),XE,ah];have h1:=K6 (d:=d) (B:=16384) (by omega) (by omega);have A:=K6 (d:=s) (B:=4194304) (by omega) (by omega);rw[w64 (n:=d*d) (by omega) (by omega),w64 (n:=d*d*2147483648) (by omega) (by omega),w64 (n:=s*s) (by omega) (by omega)];exact lZ (by unfold I64;omega) (by unfold I64;omega) (by unfold I64;omega)
theorem Xa {h:af}{d s:Int}(hd:I64 d)(F:I64 s):ae prog wZ #[.int .i64 d,.int .i64 s] h λr h'=>r=.int .i64 (y8 d s)∧h'=h:=by
 apply KN;unfold Bb;refine(WZ hd F).mono λD h1 ⟨A,w1⟩=>?_
 subst A w1;refine(c_Exp (Hm _ _)).mono λD h1 ⟨A,w1⟩=>?_
 subst A w1;exact GB (Jj _) (by unfold I64;omega)
theorem Cm {h:af}{p:Int}(A:I64 p)(h0:p≠ -9223372036854775808):ae prog ug #[.int .i64 p] h λr h'=>r=.int .i64 (max p (-p))∧h'=h:=by
 apply Mw;unfold CM;unfold I64 at A;simp only[go_sem];rw[w64 (by omega) (by omega)];exact⟨by rw[Int.zero_sub],trivial⟩
theorem c_May {h:af}{p q:Int}(A:I64 p)(hq:I64 q):ae prog Ct #[.int .i64 p,.int .i64 q] h λr h'=>r=.bool (decide (Gr p q))∧h'=h:=by
 apply Of;unfold Fl;simp only[go_sem];refine⟨?_,trivial⟩
 congr 1
 rw[decide_eq_decide];unfold Gr I64 at*;by_cases h1:1≤q∧q≤1048576
 ·rw[w64 (n:= -4*q) (by omega) (by omega),w64 (n:=4*q) (by omega) (by omega)];omega
 ·omega
theorem Nx (x:Int):2*x*(2*x+1)=4*(x*x)+2*x:=by
 have e:2*x*(2*x)=4*(x*x):=by rw[Int.mul_assoc 2 x (2*x),Int.mul_left_comm x 2 x];omega
 rw[Int.mul_add,Int.mul_one,e]
theorem Pd {h:af}{p q:Int}(I:I64 p)(h0:p≠ -9223372036854775808)(hq:I64 q):ae prog oB #[.int .i64 p,.int .i64 q] h λr h'=>r=.int .i64 (vX p q)∧h'=h:=by
 apply HA;unfold xQ;unfold vX;refine(Cm I h0).mono λF h1 ⟨A,w1⟩=>?_
 subst A w1;have G:I64 (max p (-p)):=by unfold I64 at*;omega
 refine(lZ (by unfold I64;omega) G hq).mono λF h1 ⟨A,w1⟩=>?_
 subst A w1;refine(lZ (eW _ _ _) G hq).mono λF h1 ⟨A,w1⟩=>?_
 subst A w1;have hu:=eW (cg 10851744800547 (max p (-p)) q) (max p (-p)) q;generalize cg (cg 10851744800547 (max p (-p)) q) (max p (-p)) q=u at*;refine jN (λi=>[.int .i64 (bS u i).1,.int .i64 (bS u i).2,.int .i64 (if i%2=0 then 1 else-1),.int .i64 ((i:Int)+1)]) 30 0 rfl (by omega) λi again ρj _ hi H=>?_
 simp only[go_sem];obtain⟨s1,U⟩:=vW u i;refine aj (λh0=>?_) (λh0=>?_)
 ·have H:=H (by omega);simp only[bS]at H;have L:=K6 (d:=(i:Int)+1) (B:=30) (by omega) (by omega);have he:=Nx ((i:Int)+1);rw[w64 (n:=2*((i:Int)+1)) (by omega) (by omega),w64 (n:=2*((i:Int)+1)+1) (by omega) (by omega),w64 (n:=2*((i:Int)+1)*(2*((i:Int)+1)+1)) (by omega) (by omega),TI,ah,w64 (by omega) (by omega)];refine(lZ U hu (by unfold I64;omega)).mono λF h1 ⟨A,w1⟩=>?_
  subst A w1;rw[w64 (n:=(i:Int)+1+1) (by omega) (by omega)];have W:=eW (bS u i).2 u (2*((i:Int)+1)*(2*((i:Int)+1)+1)*1099511627776);simp only[go_sem];by_cases D:i%2=0
  ·rw[if_pos D,if_neg (by omega)]at H;rw[if_pos D];have A:IntKind.i64.wrap ((bS u i).1+IntKind.i64.wrap (IntKind.i64.wrap (0-1)*cg (bS u i).2 u (2*((i:Int)+1)*(2*((i:Int)+1)+1)*1099511627776)))=IntKind.i64.wrap ((bS u i).1-cg (bS u i).2 u (2*((i:Int)+1)*(2*((i:Int)+1)+1)*1099511627776)):=by
    rw[nr,w64 (n:=0-1) (by omega) (by omega)];congr 1;omega
   rw[A];exact H
  ·rw[if_neg D,if_pos (by omega)]at H;rw[if_neg D];have A:IntKind.i64.wrap ((bS u i).1+IntKind.i64.wrap (IntKind.i64.wrap (0- -1)*cg (bS u i).2 u (2*((i:Int)+1)*(2*((i:Int)+1)+1)*1099511627776)))=IntKind.i64.wrap ((bS u i).1+cg (bS u i).2 u (2*((i:Int)+1)*(2*((i:Int)+1)+1)*1099511627776)):=by
    rw[nr,w64 (n:=0- -1) (by omega) (by omega)];congr 1;omega
   rw[A];exact H
 ·have:i=30:=by omega
  subst this;exact⟨rfl,trivial⟩
theorem Tm {h:af}{p q:Int}(G:I64 p)(hq:I64 q):ae prog sN #[.int .i64 p,.int .i64 q] h λr h'=>r=.int .i64 (sr p q)∧h'=h:=by
 apply Gc;unfold xf;unfold sr;refine(c_May G hq).mono λF h1 ⟨A,w1⟩=>?_
 subst A w1;by_cases D:Gr p q
 ·have H:=D;unfold Gr at H;by_cases h0:3*q≤max p (-p)
  ·rw[if_pos (.inr h0)];simp only[go_sem,D];refine(Cm G (by omega)).mono λF h1 ⟨A,w1⟩=>?_
   subst A w1;rw[w64 (n:=3*q) (by omega) (by omega)];simp only[go_sem,h0];exact⟨by simp,by simp⟩
  ·rw[if_neg (by rintro(I|I);exact I D;omega)];simp only[go_sem,D];refine(Cm G (by omega)).mono λF h1 ⟨A,w1⟩=>?_
   subst A w1;rw[w64 (n:=3*q) (by omega) (by omega)];simp only[go_sem,h0];refine(Pd G (by omega) hq).mono λF h1 ⟨A,w1⟩=>?_
   subst A w1;refine(Pd G (by omega) (by unfold I64;omega)).mono λF h1 ⟨A,w1⟩=>?_
   subst A w1;refine(QY (tS _ _) (tS _ _) (by unfold I64;omega)).mono λF h1 ⟨A,w1⟩=>?_
   subst A w1;exact GB (uw _ _ _) (by unfold I64;omega)
 ·rw[if_pos (.inl D)];simp only[go_sem,D];exact⟨by simp,by simp⟩
end Go.Proofs.YtjljhnandbbldaaGreatDoor
namespace Go.Crisp
open Go
theorem vP (a b:Int):IntKind.i64.wrap (IntKind.i64.wrap a*b)=IntKind.i64.wrap (a*b):=by
 obtain⟨k,A⟩:∃k,IntKind.i64.wrap a=a+18446744073709551616*k:=⟨(IntKind.i64.wrap a-a)/18446744073709551616,by rw[gF];omega⟩
 rw[A,Int.add_mul,Int.mul_assoc,gF,gF];generalize k*b=c;omega
theorem Bt (a b:Int):IntKind.i64.wrap (a*IntKind.i64.wrap b)=IntKind.i64.wrap (a*b):=by
 rw[Int.mul_comm,vP,Int.mul_comm]
theorem nM {a b:Int}(U:I64 a)(hb:0<b):EQ a b=a/b:=by
 unfold EQ Cf jl iB;rw[if_neg (by omega)];unfold I64 at U;have e1:(b<0)=False:=eq_false (by omega);simp only[e1,decide_false];obtain⟨B,rfl⟩:∃B:Nat,b=(B:Int):=⟨b.toNat,by omega⟩
 simp only[Int.natAbs_natCast];by_cases h:a<0
 ·simp only[h,decide_true];obtain⟨A,rfl⟩:∃A:Nat,a= -(A:Int):=⟨(-a).toNat,by omega⟩
  have L:(-(A:Int)).natAbs=A:=by omega
  rw[L];have W:0<B:=by omega
  have hd:=Nat.div_add_mod A B;have hm:=Nat.mod_lt A W;have D:A/B≤A:=Nat.div_le_self _ _;simp only[Bool.not_eq_true',beq_eq_false_iff_ne,ne_eq,Bool.true_eq_false,not_false_eq_true,true_and,if_true];by_cases I:A%B=0
  ·rw[if_neg (show¬ ¬A%B=0 from λh=>h I),Nat.add_zero];have H: -(A:Int)=(B:Int)* -((A/B:Nat):Int):=by
    have:(A:Int)=(B:Int)*((A/B:Nat):Int):=by exact_mod_cast (by omega:A=B*(A/B))
    rw[Int.mul_neg,←this]
   rw[H,Int.mul_ediv_cancel_left _ (by omega)];split<;>omega
  ·rw[if_pos I];have G:2≤B:=by omega
   have h2:=Nat.mul_le_mul_right (A/B) G;have H: -(A:Int)=((B:Int)-((A%B:Nat):Int))+(B:Int)* -((A/B+1:Nat):Int):=by
    have h3:(A:Int)=(B:Int)*((A/B:Nat):Int)+((A%B:Nat):Int):=by exact_mod_cast hd.symm
    rw[Int.mul_neg,show((A/B+1:Nat):Int)=((A/B:Nat):Int)+1 from rfl,Int.mul_add,Int.mul_one];omega
   rw[H,Int.add_mul_ediv_left _ _ (by omega),Int.ediv_eq_zero_of_lt (by omega) (by omega)];split<;>omega
 ·simp only[h,decide_false];obtain⟨A,rfl⟩:∃A:Nat,a=(A:Int):=⟨a.toNat,by omega⟩
  simp only[Int.natAbs_natCast];have F:(!(false==false))=false:=rfl;rw[F];simp only[Bool.false_eq_true,false_and,if_false,Nat.add_zero];have D:A/B≤A:=Nat.div_le_self _ _;rw[if_neg (by omega)];rfl
def si (f n m i:Int):Prop:=0≤f∧f<3∧1≤n∧n≤65536∧1≤m∧m≤65536∧0≤i∧i<m
instance (f n m i:Int):Decidable (si f n m i):=by unfold si;infer_instance
def Jq (a b:Int):Int:= -(-a/b)
def cj (f:Int):Int:=if f=0 then 0 else if f=1 then 2 else 3
def nH (f n m i:Int):Int:=if f=0 then i*n/m else((2*i+1)*n-m-cj f*2*max n m)/(2*m)+1
def lg (f n m i:Int):Int:=if f=0 then Jq ((i+1)*n) m else Jq ((2*i+1)*n-m+cj f*2*max n m) (2*m)
def QI (p q:Int):Int:=if p≥q then 4*(q*q*q)+5*(p*p*q)-p*p*p-8*(p*q*q)else 3*(p*p*p)-5*(p*p*q)+2*(q*q*q)
def DP (p q:Int):Int:=if q<1∨262144<q∨2*q≤p∨p≤ -2*q then 0 else cg (IntKind.i64.wrap (QI (max p (-p)) q)) 1073741824 (IntKind.i64.wrap (2*(q*q*q)))
theorem SK (p q:Int):I64 (DP p q):=by
 unfold DP;split
 ·unfold I64;omega
 ·exact eW _ _ _
def vT (f n m i j:Int):Int:=
 if f=0 then cg (min ((i+1)*n) ((j+1)*m)-max (i*n) (j*m)) 1073741824 n
 else if f=1 then DP (2*m*j-(2*i+1)*n+m) (2*max n m)
 else sr (2*m*j-(2*i+1)*n+m) (2*max n m)
theorem PH (f n m i j:Int):I64 (vT f n m i j):=by
 unfold vT;split
 ·exact eW _ _ _
 split
 ·exact SK _ _
 ·exact M5 _ _
def Al (f n m i:Int):List Int:=(List.range (lg f n m i-nH f n m i).toNat).map λk:Nat=>vT f n m i (nH f n m i+k)
theorem kS {a A b B:Int}(h0:0≤a)(h1:a≤A)(D:0≤b)(F:b≤B):0≤a*b∧a*b≤A*B:=
 ⟨Int.mul_nonneg h0 D,Int.mul_le_mul h1 F D (by omega)⟩
theorem Gx {a A b B:Int}(h0: -A≤a)(h1:a≤A)(F:0≤b)(D:b≤B): -(A*B)≤a*b∧a*b≤A*B:=by
 have G:0≤A:=by omega
 rcases Int.le_total 0 a with h|h
 ·have:=kS h h1 F D;have H:0≤A*B:=Int.mul_nonneg G (by omega);omega
 ·have:=kS (a:= -a) (A:=A) (by omega) (by omega) F D;rw[Int.neg_mul]at this;have H:0≤A*B:=Int.mul_nonneg G (by omega);omega
theorem pL {a b L U:Int}(A:1≤b)(h1: -L≤a)(F:a≤U)(hL:0≤L)(D:0≤U): -L≤a/b∧a/b≤U:=by
 constructor
 ·rw[Int.le_ediv_iff_mul_le (by omega)];have: -L*b≤ -L*1:=Int.mul_le_mul_of_nonpos_left (by omega) A;omega
 ·apply Int.le_of_lt_add_one;rw[Int.ediv_lt_iff_lt_mul (by omega)];have:(U+1)*1≤(U+1)*b:=Int.mul_le_mul_of_nonneg_left A (by omega);omega
structure MayB (f n m i:Int):Prop where
 inb:0≤i*n∧i*n≤4294967296
 in1:(i+1)*n=i*n+n
 tin:(2*i+1)*n=2*(i*n)+n
 rr:cj f*2*max n m=2*(cj f*max n m)
 rb:0≤cj f*max n m∧cj f*max n m≤196608
theorem Qm {f n m i:Int}(h:si f n m i):MayB f n m i:=by
 obtain⟨f0,f1,F,I,H,m1,G,L⟩:=h;have:=kS (a:=i) (A:=65536) (b:=n) (B:=65536) (by omega) (by omega) (by omega) (by omega);have D:0≤cj f∧cj f≤3:=by unfold cj;split;omega;split<;>omega
 have:=kS (a:=cj f) (A:=3) (b:=max n m) (B:=65536) D.1 D.2 (by omega) (by omega);exact⟨by omega,by rw[Int.add_mul,Int.one_mul],by rw[Int.add_mul,Int.one_mul,Int.mul_assoc],by rw[Int.mul_right_comm,Int.mul_comm],by omega⟩
theorem IJ {f n m i:Int}(h:si f n m i): -1048576*65536≤nH f n m i∧nH f n m i≤1048576*65536∧ -1048576*65536≤lg f n m i∧lg f n m i≤1048576*65536:=by
 have G:=Qm h;obtain⟨H,I,A,D,b5⟩:=G;obtain⟨f0,f1,n0,n1,m0,m1,W,i1⟩:=h;unfold nH lg Jq;split
 ·have h1:=pL (a:=i*n) (b:=m) (L:=0) (U:=4294967296) (by omega) (by omega) (by omega) (by omega) (by omega);have F:=pL (a:= -((i+1)*n)) (b:=m) (L:=4295032832) (U:=0) (by omega) (by omega) (by omega) (by omega) (by omega);omega
 ·rw[A,D];have h1:=pL (a:=2*(i*n)+n-m-2*(cj f*max n m)) (b:=2*m) (L:=8591000000) (U:=8591000000) (by omega) (by omega) (by omega) (by omega) (by omega);have F:=pL (a:= -(2*(i*n)+n-m+2*(cj f*max n m))) (b:=2*m) (L:=8591000000) (U:=8591000000) (by omega) (by omega) (by omega) (by omega) (by omega);omega
def New {α:Type}(e:Rp α)(h h':af)(v:Value)(l:List α):Prop:=Rp.Ow e (λ_=>False) h' v l∧Ext h h'∧∀b,blk v b→h.size≤b
theorem New.nil {α:Type}{e:Rp α}{h h':af}(k:Ext h h'):New e h h' (.slice none 0 0) []:=⟨Rp.Ow.nil,k,λb A=>A.elim⟩
theorem New.ext {α:Type}{e:Rp α}{h h' A:af}{v:Value}{l:List α}(H:New e h h' v l)(k:Ext h' A):New e h A v l:=⟨H.1.ext k,H.2.1.trans k,H.2.2⟩
theorem New.before {α:Type}{e:Rp α}{h0 h h':af}{v:Value}{l:List α}(H:New e h h' v l)(k:Ext h0 h):New e h0 h' v l:=⟨H.1,k.trans H.2.1,λb A=>Nat.le_trans k.1 (H.2.2 b A)⟩
theorem New.sl {α:Type}{e:Rp α}{h h':af}{v:Value}{l:List α}(H:New e h h' v l):Rp.Sl e (blk v) h' v l:=H.1.sl.mono λb _ A=>A.elim False.elim id
theorem New.isSl {α:Type}{e:Rp α}{h h':af}{v:Value}{l:List α}(H:New e h h' v l):∃a cap,v=.slice a l.length cap:=H.1.isSl
theorem New.push {α:Type}{e:Rp α}{z z' c:Value}{t F:TypeId}{bytes:Nat}{h h1:af}{v:Value}{l:List α}{x:α}{K:Value→af→Prop}(hw:e.w=1)(H:New e h h1 v l)
  (G:e.R (λ_=>False) h1 [c] x) (L:z.cells.size=1) (A:(l.length+1)*bytes≤140737488355328) (W:l.length+1≤9223372036854775807)
  (I:∀D h',New e h h' D (l++[x])→K D h'):cE #[z'] t 1 [(0,1,c)] h1 λU h3=>cF z F 1 bytes v U h3 K:=by
 refine Rp.push_ow1 hw H.1 G L A W (λb A=>A.elim) λD h' o' f' n'=>I D h' ⟨o',H.2.1.then_fr f' H.2.2,λb A=>?_⟩
 rcases n' b A with h1|h1
 ·exact H.2.2 b h1
 ·exact Nat.le_trans H.2.1.1 h1
theorem New.push_int {k:IntKind}{z z':Value}{t D:TypeId}{bytes:Nat}{h h1:af}{v:Value}{l:List Int}{x:Int}{K:Value→af→Prop}(H:New (Rp.int k) h h1 v l)
  (G:z.cells.size=1) (W:(l.length+1)*bytes≤140737488355328) (L:l.length+1≤9223372036854775807)
  (F:∀A h',New (Rp.int k) h h' A (l++[x])→K A h'):cE #[z'] t 1 [(0,1,.int k x)] h1 λI U=>cF z D 1 bytes v I U K:=
 H.push rfl rfl G W L F
theorem Rp.Sl.int_at {k:IntKind}{Z:Nat→Prop}{h:af}{v:Value}{l:List Int}(H:Rp.Sl (Rp.int k) Z h v l){k':IntKind}{i:Nat}(hi:i<l.length):∃p,aR 1 v (.int k' (i:Int))=some p∧ldV h p=some (.int k l[i]):=by
 obtain⟨p,c,h1,D,A⟩:=H.at1 rfl (k:=k') hi;have A:[c]=[Value.int k l[i]]:=A;cases A;exact⟨p,h1,D⟩
theorem Ah (k:IntKind)(i d most:Nat)(h:i≤most):bdV (some (.int k (i:Int))) d most=some i:=by
 show(if 0≤(i:Int)∧(i:Int)≤(most:Int)then some (i:Int).toNat else none)=_;rw[if_pos (by omega),Int.toNat_natCast]
theorem SlC.part {w:Nat}{h:af}{v:Value}{n:Nat}{cs:List Value}(H:SlC w h v n cs){lo hi:Nat}(h1:lo≤hi)(I:hi≤n){a:Option Addr}{cap:Nat}(G:v=.slice a n cap)(hc:n≤cap):
  SlC w h (.slice (if cap=lo then a else a.map (·.add (lo*w))) (hi-lo) (cap-lo)) (hi-lo) ((cs.drop (lo*w)).take ((hi-lo)*w)):=by
 subst G;obtain⟨hl,W,F,e,H⟩:=H;cases e;have hm:lo*w+(hi-lo)*w=hi*w:=by rw[←Nat.add_mul];congr 1;omega
 have U:hi*w≤n*w:=Nat.mul_le_mul_right w I;refine⟨by rw[List.length_take,List.length_drop];omega,_,_,rfl,?_⟩;by_cases D:(cs.drop (lo*w)).take ((hi-lo)*w)=[]
 ·exact .inl D
 ·refine .inr ?_;rcases H with rfl|⟨b,o,rfl,H⟩
  ·exact absurd (by simp) D
  ·have A:cap≠lo:=by
    intro e;have h0:(hi-lo)*w=0:=by rw[show hi-lo=0 by omega,Nat.zero_mul]
    exact D (by rw[h0];rfl)
   rw[if_neg A];refine⟨b,o+lo*w,by rw[Option.map_some,kF],λj L=>?_⟩;rw[List.length_take,List.length_drop]at L;have:=H (lo*w+j) (by omega);rw[←Nat.add_assoc]at this;rw[this,List.getElem_take,List.getElem_drop]
theorem K7 {h:af}{v:Value}{n:Nat}{cs:List Value}(w:Nat)(H:Own w h v n cs){k:IntKind}{hi:Nat}(F:hi≤n):∃D,un w v none (some (.int k (hi:Int)))=some D∧SlC w h D hi (cs.take (hi*w))∧∀b,blk D b→blk v b:=by
 have hc:∃a cap,v=.slice a n cap∧n≤cap:=by
  rcases H with⟨rfl,rfl,_⟩|⟨b,cap,r,e,rfl,hc,_⟩
  ·exact⟨none,0,rfl,Nat.le_refl _⟩
  ·exact⟨_,cap,rfl,hc⟩
 obtain⟨a,cap,e,hc⟩:=hc;have:=H.sl.part (Nat.zero_le hi) F e hc;subst e;refine⟨_,?_,by simpa using this,λb A=>?_⟩
 ·simp only[un,Ah k hi n cap (show hi≤cap by omega)];simp only[bdV,Nat.zero_mul,Nat.sub_zero]
 ·cases a with
  |none=>simp at A;exact A
  | some a=>
   split at A
   ·exact A
   ·simp only[Option.map_some]at A;have e:(a.add 0).block=a.block:=by unfold Addr.add;split<;>rfl
    rw[show b=(a.add 0).block from A,e];rfl
theorem UH {h:af}{v s:Value}{n m k:Nat}{cs ds:List Value}(H:Own 1 h v n cs)(hm:m<n)(hs:SlC 1 h s k ds)(ho:∀x∈ds,aJ x=true){kk:IntKind}:
  ∃d,un 1 v (some (.int kk (m:Int))) none=some d∧∀K:Value→af→Prop,(∀h',Own 1 h' v n (cs.take m++ds.take (n-m)++cs.drop (m+k))→Fr (blk v) h h'→K (.int .i64 (Nat.min k (n-m):Nat)) h')→Ch 1 d s h K:=by
 have I:=hs.load_some (k:=Nat.min k (n-m)) (Nat.min_le_left ..);obtain⟨ab,a',L,rfl,ad⟩:=hs;rcases H with⟨rfl,rfl,rfl⟩|⟨b,cap,r,e,rfl,hc,hl,hr,U⟩
 ·omega
 ·refine⟨.slice (some ⟨b,m,none⟩) (n-m) (cap-m),?_,λK HK=>?_⟩
  ·simp only[un,Ah kk m 0 cap (show m≤cap by omega)];have A:¬cap=m:=by omega
   have e0:bdV (some (Value.int kk (m:Int))) 0 n=some m:=Ah kk m 0 n (by omega);simp only[bdV,e0,if_neg A,Option.map_some,kF,Nat.zero_add,Nat.mul_one];rw[if_pos (by omega)];simp;exact λhh=>absurd hh A
  ·unfold Ch;simp only[KV];rw[I];have F:ds.take (Nat.min k (n-m)*1)=ds.take (n-m):=by
    rw[Nat.mul_one];rcases Nat.le_total k (n-m)with h1|h1
    ·rw[show Nat.min k (n-m)=k from Nat.min_eq_left h1,List.take_of_length_le (by omega),List.take_of_length_le (by omega)]
    ·rw[show Nat.min k (n-m)=n-m from Nat.min_eq_right h1]
   rw[F];have aa:(ds.take (n-m)).length≤n-m:=by rw[List.length_take];omega
   have G:=kO (o:=m) (ds.take (n-m)) 0 h _ U (by simp;omega) (λv hv=>ho v (List.mem_of_mem_take hv));simp only[G];have D:cs++r=cs.take m++(cs.drop m++r):=by rw[←List.append_assoc,List.take_append_drop]
   have lt:(cs.take m).length=m:=by rw[List.length_take];omega
   have W:=Cy (ds.take (n-m)) (cs.take m) (cs.drop m++r) (by rw[List.length_append,List.length_drop];omega);rw[←D,lt]at W;rw[Nat.add_zero,W];refine HK _ (.inr ⟨b,cap,r,e,rfl,hc,?_,?_,?_⟩) Upd.set.fr
   ·simp only[List.length_append,List.length_take,List.length_drop];omega
   ·simp only[List.length_append,List.length_take,List.length_drop]at hr ⊢;omega
   ·rw[kB U]
    congr 3
    rw[List.append_assoc,List.append_assoc,List.append_assoc]
    congr 2
    rw[List.length_take,List.drop_append];rcases Nat.le_total k (n-m)with h1|h1
    ·rw[List.drop_drop,show min (n-m) ds.length=k by omega,List.length_drop,show k-(cs.length-m)=0 by omega,List.drop_zero]
    ·rw[List.drop_drop,show min (n-m) ds.length=n-m by omega,List.length_drop,show n-m-(cs.length-m)=0 by omega,List.drop_zero,List.drop_eq_nil_of_le (show cs.length≤m+(n-m)by omega),List.drop_eq_nil_of_le (show cs.length≤m+k by omega)]
theorem Rp.Sl.part {α:Type}{e:Rp α}{Z:Nat→Prop}{h:af}{v:Value}{l:List α}(H:Rp.Sl e Z h v l){lo hi:Nat}(h1:lo≤hi)(h2:hi≤l.length){a:Option Addr}{n cap:Nat}(hv:v=.slice a n cap)(hc:n≤cap){k k':IntKind}:
  ∃W,un e.w v (some (.int k (lo:Int))) (some (.int k' (hi:Int)))=some W∧Rp.Sl e Z h W ((l.drop lo).take (hi-lo)):=by
 obtain⟨ds,hs,hz,he⟩:=H;obtain⟨a',aa,U⟩:=hs.isSl;rw[U]at hv;cases hv;have hP:=hs.part h1 h2 U hc;subst U;have A:((l.drop lo).take (hi-lo)).length=hi-lo:=by rw[List.length_take,List.length_drop];omega
 refine⟨_,?_,(ds.drop (lo*e.w)).take ((hi-lo)*e.w),by rw[A];exact hP,λL b F=>?_,λi D=>?_⟩
 ·simp only[un,Ah k' hi _ cap (show hi≤cap by omega),Ah k lo 0 hi h1]
 ·have I:ds≠[]:=λh0=>L (by rw[h0];simp)
  refine hz I b ?_;cases a with
  |none=>simp only[Option.map_none,ite_self]at F;exact F
  | some a=>
   split at F
   ·exact F
   ·simp only[Option.map_some]at F;have ea:(a.add (lo*e.w)).block=a.block:=by unfold Addr.add;split<;>rfl
    rw[show b=(a.add (lo*e.w)).block from F,ea];rfl
 ·have G:lo+i<l.length:=by rw[A]at D;omega
  have:=he (lo+i) G;rw[List.getElem_take,List.getElem_drop];have e2:Rp.el e.w ((ds.drop (lo*e.w)).take ((hi-lo)*e.w)) i=Rp.el e.w ds (lo+i):=by
   show(((ds.drop (lo*e.w)).take ((hi-lo)*e.w)).drop (i*e.w)).take e.w=(ds.drop ((lo+i)*e.w)).take e.w;have hm:i*e.w+e.w≤(hi-lo)*e.w:=by rw[←Nat.succ_mul];exact Nat.mul_le_mul_right _ (by rw[A]at D;exact D)
   rw[List.drop_take,List.drop_drop,List.take_take,Nat.min_eq_left (by omega),←Nat.add_mul]
  rw[e2];exact this
def S (l:List UInt8):Value:=.string ⟨⟨l⟩⟩
theorem S_lit (l:List UInt8):Value.string ⟨l.toArray⟩=S l:=rfl
theorem R4:Value.string ⟨#[]⟩=S []:=rfl
theorem one_S (l:List UInt8):aJ (S l)=true:=rfl
theorem JQ (a b:List UInt8):ag .s .eql (S a) (S b)=some (.bool (decide (a=b))):=by
 show some (Value.bool ((ByteArray.mk (Array.mk a)).toList==(ByteArray.mk (Array.mk b)).toList))=_;rw[ByteArray.toList_eq,ByteArray.toList_eq]
 congr 2
 by_cases h:a=b
 ·subst h;simp
 ·rw[decide_eq_false h];simpa using h
theorem JP (a b:List UInt8):ag .s .neq (S a) (S b)=some (.bool (!decide (a=b))):=by
 show some (Value.bool (!((ByteArray.mk (Array.mk a)).toList==(ByteArray.mk (Array.mk b)).toList)))=_;rw[ByteArray.toList_eq,ByteArray.toList_eq]
 congr 3
 by_cases h:a=b
 ·subst h;simp
 ·rw[decide_eq_false h];simpa using h
theorem lenS (l:List UInt8):EL (S l)=some (.int .i64 l.length):=rfl
namespace Rp
def bs:Rp (List UInt8) where
 w:=1
 R:=λ_ _ cs n=>cs=[S n]
 len:=by rintro _ _ _ _ rfl;rfl
 one:=by rintro _ _ _ _ rfl;simp[one_S]
 fr:=λH _ _=>H
 mono:=λH _=>H
end Rp
attribute [go_sem] S_lit JQ JP lenS
end Go.Crisp
namespace Go.Proofs.YtjljhnandbbldaaGreatDoor
open Go Go.Crisp
attribute [local irreducible] ae cE aP stK aA vK qK bC gK dK aU mkK cF Ch
open _root_.Go.Proofs.Tryz
def JT (b:Int):List UInt8:=if b=0 then[99,108,97,109,112]else if b=1 then[109,105,114,114,111,114]else if b=2 then[119,114,97,112]else[]
def OW (b:Int):List UInt8:=if b=0 then[98,111,120]else if b=1 then[99,117,98,105,99]else if b=2 then[108,97,110,99,122,111,115]else[]
theorem D5 {h:af}(G:dr h){b:Int}:
  ae prog oM #[.int .i64 b] h λr h'=>r=S (JT b)∧h'=h:=by
 apply Iy;unfold yB;obtain⟨v,D,H⟩:=G.names;obtain⟨a,cap,rfl⟩:=H.isSl;simp only[go_sem,D];refine aj (λh1=>?_) (λh1=>?_)
 ·refine⟨?_,trivial⟩;unfold JT;rw[if_neg (by omega),if_neg (by omega),if_neg (by omega)]
 ·obtain⟨n,rfl⟩:∃n:Nat,b=(n:Int):=⟨b.toNat,by omega⟩
  obtain⟨p,A,F⟩:=H.at1 (k:=.i64) (i:=n) (by omega);simp only[go_sem,A,F];refine⟨?_,trivial⟩;have I:n<3:=by omega
  have key:∀(i:Nat) (hi:i< [Value.string (iJ 0),Value.string (iJ 1),Value.string (iJ 2)].length),[Value.string (iJ 0),Value.string (iJ 1),Value.string (iJ 2)][i]=S (JT (i:Int)):=λi hi=>by
   match i,hi with
   |0,_=>rfl
   |1,_=>rfl
   |2,_=>rfl
  exact key n _
theorem LM {h:af}(G:dr h){b:Int}:
  ae prog wQ #[.int .i64 b] h λr h'=>r=S (OW b)∧h'=h:=by
 apply Ol;unfold Fs;simp only[go_sem];refine aj (λh1=>?_) (λh1=>?_)
 ·refine⟨?_,trivial⟩;unfold OW;rw[if_neg (by omega),if_neg (by omega),if_neg (by omega)]
 ·obtain⟨n,rfl⟩:∃n:Nat,b=(n:Int):=⟨b.toNat,by omega⟩
  have A:n<3:=by omega
  have D:=(G.kinds n A).1;have e:Ja 3 2 (.pointer (some ⟨dZ,0,none⟩)) (.int .i64 (n:Int))=some (.pointer (some ⟨dZ,2*n,none⟩)):=by
   show(if 0≤(n:Int)∧(n:Int)<((3:Nat):Int)then some (Value.pointer (some ((⟨dZ,0,none⟩:Addr).add ((n:Int).toNat*2))))else none)=_;rw[if_pos (by omega),kF,Int.toNat_natCast,Nat.zero_add,Nat.mul_comm]
  simp only[go_sem,e,Nat.add_zero,D];refine⟨?_,trivial⟩
  clear h1 D e
  match n,A with
  |0,_=>rfl
  |1,_=>rfl
  |2,_=>rfl
end Go.Proofs.YtjljhnandbbldaaGreatDoor
namespace Go.Proofs.YtjljhnandbbldaaGreatDoor
open Go Go.Crisp
attribute [local irreducible] ae cE aP stK aA vK qK bC gK dK aU mkK cF Ch DH zZ bsK
open _root_.Go.Proofs.Tryz
theorem US {h:af}{f n m i:Int}:ae prog Fg #[.int .i64 f,.int .i64 n,.int .i64 m,.int .i64 i] h λr h'=>r=.bool (decide (si f n m i))∧h'=h:=by
 apply Qe;unfold GT
 try simp only[go_sem]
 refine⟨?_,trivial⟩
 congr 1
 rw[decide_eq_decide];unfold si;omega
theorem U6 {h:af}{a b:Int}(H: -9223372036854775807≤a∧a≤9223372036854775807)(F:0<b)(A:I64 b):ae prog wN #[.int .i64 a,.int .i64 b] h λr h'=>r=.int .i64 (Jq a b)∧h'=h:=by
 apply Oj;unfold Fq
 try simp only[go_sem]
 rw[w64 (by omega) (by omega),Int.zero_sub];have hi:I64 (-a):=by unfold I64;omega
 refine(GC hi A).mono λG h1 ⟨D,w1⟩=>?_
 subst D w1
 try simp only[go_sem]
 rw[nM hi F];have:=pL (a:= -a) (b:=b) (L:=9223372036854775807) (U:=9223372036854775807) (by omega) (by omega) (by omega) (by omega) (by omega);rw[w64 (by omega) (by omega),Int.zero_sub];exact⟨rfl,trivial⟩
theorem P3 {h:af}(G:dr h){f:Int}(f0:0≤f)(f1:f<3):∃p,Ja 3 2 (.pointer (some ⟨dZ,0,none⟩)) (.int .i64 f)=some (.pointer (some ⟨dZ,p,none⟩))∧aB h ⟨dZ,p+1,none⟩=some (.int .i64 (cj f)):=by
 obtain⟨n,rfl⟩:∃n:Nat,f=(n:Int):=⟨f.toNat,by omega⟩
 have A:n<3:=by omega
 refine⟨2*n,?_,?_⟩
 ·show(if 0≤(n:Int)∧(n:Int)<((3:Nat):Int)then some (Value.pointer (some ((⟨dZ,0,none⟩:Addr).add ((n:Int).toNat*2))))else none)=_;rw[if_pos (by omega),kF,Int.toNat_natCast,Nat.zero_add,Nat.mul_comm]
 ·rw[(G.kinds n A).2]
  match n,A with
  |0,_=>rfl
  |1,_=>rfl
  |2,_=>rfl
def XB (f n m i:Int):Value:=if si f n m i then .tuple #[.int .i64 (nH f n m i),.int .i64 (lg f n m i-nH f n m i)]else .tuple #[.int .i64 0,.int .i64 0]
theorem U8 {h:af}(G:dr h){f n m i:Int}:ae prog wO #[.int .i64 f,.int .i64 n,.int .i64 m,.int .i64 i] h λr h'=>r=XB f n m i∧h'=h:=by
 apply KD;unfold AX XB;refine US.mono λI h1 ⟨D,w1⟩=>?_
 subst D w1
 try simp only[go_sem]
 refine aj (λh0=>?_) (λh0=>?_)
 ·rw[if_neg h0];exact⟨rfl,trivial⟩
 have H:si f n m i:=Decidable.of_not_not h0;rw[if_pos H];have L:=IJ H;have hb:=Qm H;obtain⟨b1,b2,b3,b4,b5⟩:=hb;obtain⟨f0,f1,n0,n1,m0,m1,i0,i1⟩:=H;have F:I64 m:=by unfold I64;omega
 rw[w64 (n:=i*n) (by omega) (by omega)];refine(GC (by unfold I64;omega) F).mono λI h1 ⟨D,w1⟩=>?_
 subst D w1;rw[nM (by unfold I64;omega) (by omega)]
 try simp only[go_sem]
 rw[w64 (n:=i+1) (by omega) (by omega),w64 (n:=(i+1)*n) (by omega) (by omega)];refine(U6 (by omega) (by omega) F).mono λI h1 ⟨D,w1⟩=>?_
 subst D w1
 try simp only[go_sem]
 unfold nH lg at L ⊢;refine aj (λA=>?_) (λA=>?_)
 ·have A:f≠0:=A;rw[if_neg A,if_neg A]at*;obtain⟨p,W,U⟩:=P3 G f0 f1;simp only[go_sem,W,U];have hr:0≤cj f∧cj f≤3:=by unfold cj;split;omega;split<;>omega
  rw[w64 (n:=2*i) (by omega) (by omega),w64 (n:=2*i+1) (by omega) (by omega),w64 (n:=(2*i+1)*n) (by omega) (by omega),w64 (n:=(2*i+1)*n-m) (by omega) (by omega),w64 (n:=cj f*2) (by omega) (by omega),
   w64 (n:=cj f*2*max n m) (by omega) (by omega),w64 (n:=(2*i+1)*n-m-cj f*2*max n m) (by omega) (by omega),w64 (n:=2*m) (by omega) (by omega)]
  refine(GC (by unfold I64;omega) (by unfold I64;omega)).mono λI h1 ⟨D,w1⟩=>?_
  subst D w1;rw[nM (by unfold I64;omega) (by omega)]
  try simp only[go_sem]
  rw[w64 (n:=((2*i+1)*n-m-cj f*2*max n m)/(2*m)+1) (by omega) (by omega),w64 (n:=(2*i+1)*n-m+cj f*2*max n m) (by omega) (by omega)];refine(U6 (by omega) (by omega) (by unfold I64;omega)).mono λI h1 ⟨D,w1⟩=>?_
  subst D w1
  try simp only[go_sem]
  rw[w64 (by omega) (by omega)];exact⟨rfl,trivial⟩
 ·have A:f=0:=Decidable.of_not_not A;rw[if_pos A,if_pos A]at*;rw[w64 (by omega) (by omega)];exact⟨rfl,trivial⟩
theorem QZ {h:af}{p q:Int}(H: -4611686018427387904≤p∧p≤4611686018427387904)(hq:I64 q):ae prog sP #[.int .i64 p,.int .i64 q] h λr h'=>r=.int .i64 (DP p q)∧h'=h:=by
 apply Om;unfold Ft
 try simp only[go_sem]
 unfold DP;have D:(((q<1∨262144<q)∨IntKind.i64.wrap (2*q)≤p)∨p≤IntKind.i64.wrap (-2*q))↔(q<1∨262144<q∨2*q≤p∨p≤ -2*q):=by
  unfold I64 at hq;by_cases hc:q<1∨262144<q
  ·omega
  ·rw[w64 (n:=2*q) (by omega) (by omega),w64 (n:= -2*q) (by omega) (by omega)];omega
 refine aj (λh0=>?_) (λh0=>?_)
 ·rw[if_pos (D.1 h0)];exact⟨rfl,trivial⟩
 rw[if_neg λhh=>h0 (D.2 hh)];have F:IntKind.i64.wrap (0-p)= -p:=by rw[w64 (by omega) (by omega)];omega
 rw[F];generalize max p (-p)=a;simp only[vP,Bt,ry,nr,vO,Bs];have G:2*q*q*q=2*(q*q*q):=by grind
 rw[G];unfold QI;refine aj (λh1=>?_) (λh1=>?_)
 ·rw[if_pos h1];have A:(0-a)*a*a+5*a*a*q-8*a*q*q+4*q*q*q=4*(q*q*q)+5*(a*a*q)-a*a*a-8*(a*q*q):=by grind
  rw[A];exact lZ (iN _) (by unfold I64;omega) (iN _)
 ·rw[if_neg h1];have A:3*a*a*a-5*a*a*q+2*(q*q*q)=3*(a*a*a)-5*(a*a*q)+2*(q*q*q):=by grind
  rw[A];exact lZ (iN _) (by unfold I64;omega) (iN _)
theorem Ww {h:af}{f n m i j:Int}(G:si f n m i)(hj: -1048576*65536≤j∧j≤1048576*65536):ae prog zN #[.int .i64 f,.int .i64 n,.int .i64 m,.int .i64 i,.int .i64 j] h λr h'=>r=.int .i64 (vT f n m i j)∧h'=h:=by
 apply MI;unfold CZ
 try simp only[go_sem]
 have L:=Qm G;obtain⟨W,b2,b3,b4,b5⟩:=L;obtain⟨f0,f1,n0,n1,m0,m1,i0,i1⟩:=G;unfold vT;have H:=Gx (a:=j) (A:=1048576*65536) (b:=m) (B:=65536) (by omega) (by omega) (by omega) (by omega);have I:(j+1)*m=j*m+m:=by rw[Int.add_mul,Int.one_mul]
 have U:2*m*j=2*(j*m):=by rw[Int.mul_assoc,Int.mul_comm m j]
 refine aj (λF=>?_) (λF=>?_)
 ·rw[if_pos F];rw[w64 (n:=i+1) (by omega) (by omega),w64 (n:=(i+1)*n) (by omega) (by omega),w64 (n:=j+1) (by omega) (by omega),w64 (n:=(j+1)*m) (by omega) (by omega),w64 (n:=i*n) (by omega) (by omega),w64 (n:=j*m) (by omega) (by omega),w64 (by omega) (by omega)];exact lZ (by unfold I64;omega) (by unfold I64;omega) (by unfold I64;omega)
 rw[if_neg F,w64 (n:=2*m) (by omega) (by omega),w64 (n:=2*m*j) (by omega) (by omega),w64 (n:=2*i) (by omega) (by omega),w64 (n:=2*i+1) (by omega) (by omega),w64 (n:=(2*i+1)*n) (by omega) (by omega),
  w64 (n:=2*m*j-(2*i+1)*n) (by omega) (by omega),w64 (n:=2*m*j-(2*i+1)*n+m) (by omega) (by omega),w64 (n:=2*max n m) (by omega) (by omega)]
 refine aj (λD=>?_) (λD=>?_)
 ·rw[if_pos D];exact QZ (by omega) (by unfold I64;omega)
 ·rw[if_neg D];exact Tm (by unfold I64;omega) (by unfold I64;omega)
def dC (f n m i:Int):Int:=if si f n m i then nH f n m i else 0
def cq (f n m i:Int):List Int:=if si f n m i then Al f n m i else[]
theorem lF {β:Type}(g:Nat→β)(n k:Nat)(h:k<n):((List.range n).map g).take (k+1)=((List.range n).map g).take k++[g k]:=by
 rw[List.take_succ_eq_append_getElem (by simpa using h)];simp
theorem Pe {h:af}(G:dr h){f n m i:Int}:ae prog Aj #[.int .i64 f,.int .i64 n,.int .i64 m,.int .i64 i] h λr h'=>
  ∃v,r=.tuple #[.int .i64 (dC f n m i),v]∧New (Rp.int .i64) h h' v (cq f n m i):=by
 apply Qf;unfold GU;refine(U8 G).mono λv1 h1 ⟨e1,w1⟩=>?_
 subst e1 w1;unfold dC cq XB;by_cases A:si f n m i
 ·rw[if_pos A,if_pos A,if_pos A]
  try simp only[go_sem]
  have W:=IJ A;obtain⟨N,hN⟩:∃N,N=(lg f n m i-nH f n m i).toNat:=⟨_,rfl⟩
  refine bA N 0 (λk v=>[v,.int .i64 (k:Int)]) (λk v h'=>New (Rp.int .i64) h1 h' v ((Al f n m i).take k)) (.slice none 0 0) rfl (Nat.zero_le _) (New.nil (Ext.refl _)) λk v h2 again ρj _ U F H=>?_
  try simp only[go_sem]
  have hl:(Al f n m i).length=N:=by unfold Al;rw[List.length_map,List.length_range,hN]
  refine aj (λh0=>?_) (λh0=>?_)
  ·rw[w64 (n:=nH f n m i+(k:Int)) (by omega) (by omega)];refine(Ww A (by omega)).mono λv2 h3 ⟨L,w2⟩=>?_
   subst L w2;have D:((Al f n m i).take k).length=k:=by rw[List.length_take];omega
   refine F.push_int rfl (by rw[D];omega) (by rw[D];omega) λs' h' I=>?_
   try simp only[go_sem]
   rw[w64 (by omega) (by omega)];have:=H s' h' (by omega) (by
    have e:=lF (λk:Nat=>vT f n m i (nH f n m i+k)) (lg f n m i-nH f n m i).toNat k (by omega);unfold Al at I ⊢;rw[e];exact I)
   exact this
  ·rw[List.take_of_length_le (by omega)]at F;exact⟨v,rfl,F⟩
 ·rw[if_neg A,if_neg A,if_neg A]
  try simp only[go_sem]
  refine jN (λk=>[.slice none 0 0,.int .i64 (k:Int)]) 0 0 rfl (Nat.le_refl _) λk again ρj _ U _=>?_
  have:k=0:=by omega
  subst this
  try simp only[go_sem]
  refine aj (λh0=>absurd h0 (by omega)) (λh0=>?_);exact⟨_,rfl,New.nil (Ext.refl _)⟩
end Go.Proofs.YtjljhnandbbldaaGreatDoor
namespace Go.Crisp
def cK (r:Nat→Int)(i j:Nat):Prop:=r j<r i∨(r i=r j∧i<j)
instance (r:Nat→Int)(i j:Nat):Decidable (cK r i j):=by unfold cK;exact inferInstance
theorem FF (r:Nat→Int)(i:Nat):¬cK r i i:=by unfold cK;omega
theorem jw {r:Nat→Int}{i j k:Nat}(h1:cK r i j)(A:cK r j k):cK r i k:=by unfold cK at*;omega
theorem jx (r:Nat→Int){i j:Nat}(h:i≠j):cK r i j∨cK r j i:=by unfold cK;omega
theorem IN {r:Nat→Int}{i j:Nat}(h1:cK r i j):¬cK r j i:=by unfold cK at*;omega
def jX (r:Nat→Int)(n i:Nat):Nat:=(List.range n).countP λj=>decide (cK r j i)
theorem QL {l:List Nat}{p:Nat→Bool}(h:∀x∈l,p x=true):l.countP p=l.length:=by
 rw[List.countP_eq_length];exact h
theorem O9 {l:List Nat}{p:Nat→Bool}(h:∀x∈l,p x=false):l.countP p=0:=by
 rw[List.countP_eq_zero];intro x A;rw[h x A];simp
theorem Fy {r:Nat→Int}{n:Nat}{l:List Nat}(G:l.Perm (List.range n))(F:l.Pairwise (cK r)){k:Nat}(D:k<l.length):jX r n l[k]=k:=by
 unfold jX;rw[←G.countP_eq];have A:∀(x:Nat),x=l[k]→((l.take k).countP λj=>decide (cK r j x))+((l.drop k).countP λj=>decide (cK r j x))=k:=by
  rintro x rfl;have h1:((l.take k).countP λj=>decide (cK r j l[k]))=(l.take k).length:=QL λx A=>by
   obtain⟨i,hi,rfl⟩:=List.mem_iff_getElem.1 A;rw[List.getElem_take];rw[List.length_take]at hi;exact decide_eq_true (List.pairwise_iff_getElem.1 F i k (by omega) D (by omega))
  have H:((l.drop k).countP λj=>decide (cK r j l[k]))=0:=O9 λx A=>by
   obtain⟨i,hi,rfl⟩:=List.mem_iff_getElem.1 A;rw[List.getElem_drop];rw[List.length_drop]at hi;rcases Nat.eq_zero_or_pos i with h0|h0
   ·subst h0;exact decide_eq_false (FF _ _)
   ·exact decide_eq_false (IN (List.pairwise_iff_getElem.1 F k (k+i) D (by omega) (by omega)))
  rw[h1,H,List.length_take];omega
 have e:∀p:Nat→Bool,l.countP p=(l.take k).countP p+(l.drop k).countP p:=λp=>by rw[←List.countP_append,List.take_append_drop]
 rw[e];exact A _ rfl
theorem Mk {r:Nat→Int}{n i j:Nat}(hi:i<n)(h:cK r i j):jX r n i<jX r n j:=by
 unfold jX;have A:∀l:List Nat,(l.countP λk=>decide (cK r k i))≤l.countP λk=>decide (cK r k j):=λl=>
  List.countP_mono_left λx _ F=>decide_eq_true (jw (of_decide_eq_true F) h)
 obtain⟨a,b,D⟩:=List.append_of_mem (List.mem_range.2 hi);rw[D,List.countP_append,List.countP_append,List.countP_cons,List.countP_cons];have h1:=A a;have G:=A b;rw[if_neg (by simpa using FF r i),if_pos (decide_eq_true h)];omega
theorem Dn {r:Nat→Int}{n i j:Nat}(hi:i<n)(D:j<n)(h:jX r n i=jX r n j):i=j:=by
 by_cases A:i=j
 ·exact A
 ·rcases jx r A with h1|h1
  ·have:=Mk hi h1;omega
  ·have:=Mk D h1;omega
theorem M4 {r:Nat→Int}{n i j:Nat}(hi:i<n)(A:j<n)(h:jX r n i<jX r n j):cK r i j:=by
 have D:i≠j:=λe=>by rw[e]at h;omega
 rcases jx r D with h1|h1
 ·exact h1
 ·have:=Mk A h1;omega
theorem Sn (r:Nat→Int)(n:Nat):∀k,k<n→∃i,i<n∧jX r n i=k:=by
 let le:Nat→Nat→Bool:=λi j=>decide (cK r i j)||decide (i=j)
 have L:∀a b c:Nat,le a b=true→le b c=true→le a c=true:=λa b c h1 A=>by
  simp only[le,Bool.or_eq_true,decide_eq_true_eq]at*;rcases h1 with h1|rfl
  ·rcases A with A|rfl
   ·exact .inl (jw h1 A)
   ·exact .inl h1
  ·exact A
 have D:∀a b:Nat,(le a b||le b a)=true:=λa b=>by
  simp only[le,Bool.or_eq_true,decide_eq_true_eq];by_cases I:a=b
  ·exact .inl (.inr I)
  ·rcases jx r I with h|h
   ·exact .inl (.inl h)
   ·exact .inr (.inl h)
 let l:=(List.range n).mergeSort le
 have F:l.Perm (List.range n):=List.mergeSort_perm _ _;have U:l.Pairwise (λa b=>le a b=true):=List.pairwise_mergeSort (le:=le) L D _;have H:l.Nodup:=F.nodup_iff.2 List.nodup_range;have G:l.Pairwise (cK r):=by
  unfold List.Nodup at H;refine(U.and H).imp λ{a b} ⟨h1,A⟩=>?_
  simp only[le,Bool.or_eq_true,decide_eq_true_eq]at h1;rcases h1 with h1|h1
  ·exact h1
  ·exact absurd h1 A
 intro k W;have hl:l.length=n:=by rw[F.length_eq];simp
 refine⟨l[k]'(by omega),?_,Fy F G _⟩;have:=F.mem_iff.1 (List.getElem_mem (l:=l) (n:=k) (by omega));simpa using this
def iG (r:Nat→Int)(n k:Nat)(i:Nat):Int:=if jX r n i<k then-1 else r i
theorem N0 (r:Nat→Int)(n:Nat):iG r n 0=r:=by funext i;unfold iG;rw[if_neg (by omega)]
theorem Tr {r:Nat→Int}{n k:Nat}(U:∀i,i<n→0≤r i)(W:k<n){b:Nat}(I:b<n)
  (h1:∀i,i<n→iG r n k i≤iG r n k b) (h2:∀i,i<b→iG r n k i<iG r n k b):jX r n b=k:=by
 obtain⟨m,G,F⟩:=Sn r n k W;have pm:iG r n k m=r m:=by unfold iG;rw[if_neg (by omega)]
 have aa:=U m G;have A:=h1 m G;rw[pm]at A;have H:iG r n k b=r b∧¬jX r n b<k:=by
  unfold iG at A ⊢;split at A
  ·omega
  ·rename_i h;rw[if_neg h];exact⟨rfl,h⟩
 rw[H.1]at A;by_cases L:b=m
 ·rw[L];exact F
 ·have ab:jX r n b≠k:=λe=>L (Dn I G (e.trans F.symm))
  have D:cK r m b:=M4 G I (by have:=H.2;omega);unfold cK at D;rcases D with D|⟨e,D⟩
  ·omega
  ·have:=h2 m D;rw[pm,H.1]at this;omega
theorem N8 {r:Nat→Int}{n k b:Nat}(F:b<n)(D:jX r n b=k){i:Nat}(hi:i<n):iG r n (k+1) i=if i=b then-1 else iG r n k i:=by
 unfold iG;by_cases A:i=b
 ·subst A;rw[if_pos (by omega),if_pos rfl]
 ·have:jX r n i≠k:=λe=>A (Dn hi F (e.trans D.symm))
  rw[if_neg A];by_cases h:jX r n i<k
  ·rw[if_pos h,if_pos (by omega)]
  ·rw[if_neg h,if_neg (by omega)]
end Go.Crisp
namespace Go.Crisp
open Go
def kN (l:List Int):Int:=l.foldl Ay 0
def kW (x:Int):Int:=max x (VY x (-1))
def kP (l:List Int):Int:=l.foldl (λs x=>Ay s (kW x)) 0
theorem CF {x:Int}(h:I64 x):kW x=min (x.natAbs:Int) 9223372036854775807:=by
 unfold kW VY iB jl;unfold I64 at h;have e:(-1:Int).natAbs=1:=rfl;rw[e,Nat.mul_one];have D:decide ((-1:Int)<0)=true:=rfl;rw[D];by_cases A:x<0
 ·rw[decide_eq_true A];have:(!(true==true))=false:=rfl;rw[this];simp only[Bool.false_eq_true,if_false];split<;>omega
 ·rw[decide_eq_false A];have:(!(false==true))=true:=rfl;rw[this];simp only[if_true];split<;>omega
theorem nK {f:Int→Int→Int}(A:∀a b,I64 (f a b)):∀(l:List Int) (s:Int),I64 s→I64 (l.foldl f s)
 | [],s,h=>h
 |x::l,s,_=>nK A l _ (A _ _)
theorem vM:I64 0:=by unfold I64;omega
theorem ND (l:List Int):I64 (kN l):=nK vJ l 0 vM
theorem GQ (l:List Int):I64 (kP l):=nK (λa b=>vJ a (kW b)) l 0 vM
theorem K8 {x:Int}(h:I64 x):I64 (kW x):=by rw[CF h];unfold I64;omega
def Cr (l:List Int):Prop:=l.length=0∨1048576<l.length∨∃x∈l,1099511627776<kW x
instance (l:List Int):Decidable (Cr l):=by unfold Cr;infer_instance
def ck (l:List Int):Int:=if Cr l then 7 else if kN l<268435456 then 8 else 0
def fg (l:List Int)(i:Nat):Int:=l.getD i 0*16384/kN l
def df (l:List Int)(i:Nat):Int:=l.getD i 0*16384%kN l
def sq (l:List Int):Nat→Int
 |0=>16384
 |k+1=>sq l k-fg l k
def vC (l:List Int):Int:=sq l l.length
def kM (l:List Int):List Int:=(List.range l.length).map λi=>fg l i+(if(jX (df l) l.length i:Int)<vC l then 1 else 0)
def bN (l:List Int):List Int:=if ck l=0 then kM l else[]
structure zE (l:List Int):Prop where
 pos:0<l.length
 len:l.length≤1048576
 small:∀i, -1099511627776≤l.getD i 0∧l.getD i 0≤1099511627776
 sum:268435456≤kN l
theorem FK {l:List Int}:ck l=0↔ ¬Cr l∧268435456≤kN l:=by
 unfold ck;split
 ·rename_i h;simp[h]
 ·rename_i h;split
  ·rename_i A;simp[h];omega
  ·rename_i A;simp[h];omega
theorem Um {l:List Int}(D:∀x∈l,I64 x)(h:ck l=0):zE l:=by
 obtain⟨h1,G⟩:=FK.1 h;unfold Cr at h1;refine⟨by omega,by omega,λi=>?_,G⟩;by_cases hi:i<l.length
 ·have e:l.getD i 0=l[i]:=by simp[List.getD_eq_getElem?_getD,hi]
  rw[e];have F:=List.getElem_mem hi;have A:¬1099511627776<kW l[i]:=λA=>h1 (.inr (.inr ⟨_,F,A⟩))
  rw[CF (D _ F)]at A;omega
 ·have e:l.getD i 0=0:=by simp[List.getD_eq_getElem?_getD,Nat.le_of_not_lt hi]
  rw[e];omega
def FY (l:List Int):Nat→Int
 |0=>0
 |k+1=>FY l k+l.getD k 0
theorem Mm {l:List Int}(G:zE l):∀k:Nat, -(k*1099511627776:Int)≤FY l k∧FY l k≤k*1099511627776
 |0=>by simp[FY]
 |k+1=>by
  have:=Mm G k;have A:=G.small k;simp only[FY];omega
theorem Nz {l:List Int}(G:zE l):∀k,k≤l.length→kN (l.take k)=FY l k
 |0,_=>by simp[kN,FY]
 |k+1,h=>by
  have A:=Nz G k (by omega);have F:=Mm G k;have D:=G.small k;have e:l.getD k 0=l[k]:=by simp[List.getD_eq_getElem?_getD,show k<l.length by omega]
  have:=G.len;unfold kN at*;rw[List.take_succ_eq_append_getElem (by omega),List.foldl_append,A];simp only[List.foldl_cons,List.foldl_nil,FY];unfold Ay;rw[←e];omega
theorem K4 {l:List Int}(G:zE l):kN l=FY l l.length:=by
 have:=Nz G l.length (Nat.le_refl _)
 rwa [List.take_of_length_le (Nat.le_refl _)]at this
def Mh (l:List Int):Nat→Int
 |0=>0
 |k+1=>Mh l k+df l k
theorem Hh {l:List Int}(G:zE l)(i:Nat):0≤df l i∧df l i<kN l:=by
 have:=G.sum;exact⟨Int.emod_nonneg _ (by omega),Int.emod_lt_of_pos _ (by omega)⟩
theorem vI {l:List Int}(G:zE l)(i:Nat): -67108864≤fg l i∧fg l i≤67108864:=by
 have h1:=G.sum;have A:=G.small i;unfold fg;constructor
 ·rw[Int.le_ediv_iff_mul_le (by omega)];omega
 ·apply Int.le_of_lt_add_one;rw[Int.ediv_lt_iff_lt_mul (by omega)];omega
theorem IM {l:List Int}(G:zE l):∀k:Nat,16384-(k*67108864:Int)≤sq l k∧sq l k≤16384+k*67108864
 |0=>by simp[sq]
 |k+1=>by
  have:=IM G k;have A:=vI G k;simp only[sq];omega
theorem Ro {l:List Int}(G:zE l):∀k:Nat,0≤Mh l k∧Mh l k+k≤k*kN l
 |0=>by simp[Mh]
 |k+1=>by
  have:=Ro G k;have A:=Hh G k;simp only[Mh];rw[show((k+1:Nat):Int)=(k:Int)+1 from rfl,Int.add_mul,Int.one_mul];omega
theorem OF {l:List Int}(G:zE l):∀k,sq l k*kN l+FY l k*16384=16384*kN l+Mh l k
 |0=>by simp[sq,FY,Mh]
 |k+1=>by
  have A:=OF G k;have hd:kN l*fg l k+df l k=l.getD k 0*16384:=Int.mul_ediv_add_emod _ _;simp only[sq,FY,Mh];rw[Int.sub_mul,Int.add_mul,Int.mul_comm (fg l k)];omega
theorem left_bd {l:List Int}(G:zE l):0≤vC l∧vC l<l.length:=by
 have h:=OF G l.length;rw[←K4 G]at h;have A:=Ro G l.length;have F:=G.sum;have D:=G.pos;have e:vC l*kN l=Mh l l.length:=by unfold vC;omega
 constructor
 ·rcases Int.lt_or_le (vC l) 0 with h1|h1
  ·have:vC l*kN l≤(-1)*kN l:=Int.mul_le_mul_of_nonneg_right (by omega) (by omega);omega
  ·exact h1
 ·rcases Int.lt_or_le (vC l) l.length with h1|h1
  ·exact h1
  ·have:(l.length:Int)*kN l≤vC l*kN l:=Int.mul_le_mul_of_nonneg_right h1 (by omega);omega
theorem nB (l:List Int):(kM l).length=l.length:=by simp[kM]
theorem Sb {l:List Int}(G:zE l):∀x∈kM l, -67108864≤x∧x≤67108865:=by
 intro x A;unfold kM at A;obtain⟨i,_,rfl⟩:=List.mem_map.1 A;have:=vI G i;split<;>omega
theorem Be {β:Type}(g:Nat→β)(n i:Nat)(x:β)(h:i<n):((List.range n).map g).set i x=(List.range n).map λj=>if j=i then x else g j:=by
 apply List.ext_getElem
 ·simp
 ·intro k h1 D;simp at h1 D;rw[List.getElem_set];simp;by_cases A:i=k
  ·subst A;simp
  ·rw[if_neg A,if_neg (Ne.symm A)]
theorem bE {β:Type}{g f:Nat→β}{n:Nat}(h:∀i,i<n→g i=f i):(List.range n).map g=(List.range n).map f:=by
 apply List.map_congr_left;intro i hi;exact h i (List.mem_range.1 hi)
end Go.Crisp
namespace Go.Proofs.YtjljhnandbbldaaGreatDoor
open Go Go.Crisp
attribute [local irreducible] ae cE aP stK aA vK qK bC gK dK aU mkK cF Ch DH zZ bsK clK
open _root_.Go.Proofs.Tryz
abbrev SlI (Z:Nat→Prop)(h:af)(v:Value)(l:List Int):Prop:=Rp.Sl (Rp.int .i64) Z h v l
theorem zT {f:Int→Int→Int}{l:List Int}{i:Nat}(h:i<l.length)(s:Int):(l.take (i+1)).foldl f s=f ((l.take i).foldl f s) l[i]:=by
 rw[List.take_succ_eq_append_getElem h,List.foldl_append];rfl
theorem Jr {h:af}{x:Int}(D:I64 x):ae prog ue #[.int .i64 x] h λr h'=>r=.int .i64 (kW x)∧h'=h:=by
 apply Ms;unfold CH;refine(QW D (by unfold I64;omega)).mono λF h1 ⟨A,w1⟩=>?_
 subst A w1;simp only[go_sem];exact⟨rfl,trivial⟩
theorem LK {Z:Nat→Prop}{h:af}{v:Value}{l:List Int}(H:SlI Z h v l)(F:∀x∈l,I64 x)(W:l.length<4611686018427387904):ae prog wH #[v] h λr h'=>r=.int .i64 (kN l)∧h'=h:=by
 apply Oe;unfold Fk;obtain⟨a,cap,e⟩:=H.isSl;have G:aq v=some (.int .i64 (l.length:Int)):=by rw[e];rfl
 rw[G,ah];refine jN (λi=>[.int .i64 ((l.take i).foldl Ay 0),.int .i64 (i:Int)]) l.length 0 rfl (Nat.zero_le _) λi again ρj _ hi D=>?_
 simp only[go_sem];refine aj (λh0=>?_) (λh0=>?_)
 ·have A:i<l.length:=by omega
  obtain⟨p,L,I⟩:=H.int_at (k':=.i64) A;simp only[go_sem,L,I];refine(JF (nK vJ _ _ vM) (F _ (List.getElem_mem _))).mono λv1 h1 ⟨U,w1⟩=>?_
  subst U w1;rw[w64 (by omega) (by omega)];have:=D A;rw[zT A]at this;exact this
 ·rw[List.take_of_length_le (by omega)];exact⟨rfl,trivial⟩
theorem FN {Z:Nat→Prop}{h:af}{v:Value}{l:List Int}(H:SlI Z h v l)(F:∀x∈l,I64 x)(hl:l.length<4611686018427387904):ae prog uf #[v] h λr h'=>r=.int .i64 (kP l)∧h'=h:=by
 apply Mu;unfold CJ;obtain⟨a,cap,e⟩:=H.isSl;have L:aq v=some (.int .i64 (l.length:Int)):=by rw[e];rfl
 rw[L,ah];refine jN (λi=>[.int .i64 ((l.take i).foldl (λs x=>Ay s (kW x)) 0),.int .i64 (i:Int)]) l.length 0 rfl (Nat.zero_le _) λi again ρj _ hi D=>?_
 simp only[go_sem];refine aj (λh0=>?_) (λh0=>?_)
 ·have A:i<l.length:=by omega
  obtain⟨p,W,U⟩:=H.int_at (k':=.i64) A;simp only[go_sem,W,U];have I:=F _ (List.getElem_mem A);refine(Jr I).mono λv1 h1 ⟨G,w1⟩=>?_
  subst G w1;refine(JF (nK (λa b=>vJ a (kW b)) _ _ vM) (K8 I)).mono λv1 h1 ⟨G,w1⟩=>?_
  subst G w1
  try simp only[go_sem]
  rw[w64 (by omega) (by omega)];have:=D A;rw[zT A]at this;exact this
 ·rw[List.take_of_length_le (by omega)];exact⟨rfl,trivial⟩
theorem U5 {h:af}{x:Int}(D:I64 x):ae prog kI #[.int .i64 x] h λr h'=>r=.bool (decide (1099511627776<kW x))∧h'=h:=by
 apply Es;unfold uX;refine(Jr D).mono λF h1 ⟨A,w1⟩=>?_
 subst A w1;simp only[go_sem];exact⟨by simp,by simp⟩
section
attribute [local semireducible] clK
theorem clK_0 {f:FuncId}{a:Value}{h:af}{K:Value→af→Prop}:clK prog (.func (.func f) #[] #[]) #[a] h K=ae prog f #[a] h K:=rfl
theorem clK_2 {f:FuncId}{a b c:Value}{h:af}{K:Value→af→Prop}:clK prog (.func (.func f) #[] #[c]) #[a,b] h K=ae prog f #[a,b,c] h K:=rfl
end
theorem Ng {Z:Nat→Prop}{h:af}{v:Value}{l:List Int}(H:SlI Z h v l)(I:∀x∈l,I64 x)(hl:l.length<4611686018427387904):
  ae prog de #[v,.func (.func kI) #[] #[]] h λr h'=>r=.bool (decide (∃x∈l,1099511627776<kW x))∧h'=h:=by
 apply jL;unfold fb;refine ae.mono (K:=λr h'=>(∃n:Int,r=.int .i64 n∧(0≤n↔ ∃x∈l,1099511627776<kW x))∧h'=h) ?_ ?_
 ·apply kR;unfold fM;obtain⟨a,cap,e⟩:=H.isSl;have U:aq v=some (.int .i64 (l.length:Int)):=by rw[e];rfl
  rw[U,ah];refine bA l.length 0 (λi (_:Unit)=>[.int .i64 (i:Int)]) (λi _ h'=>h'=h∧∀x∈l.take i,¬1099511627776<kW x) () rfl (Nat.zero_le _) ⟨rfl,by simp⟩ λi _ h1 again ρj _ hi ⟨hh,L⟩ G=>?_
  subst hh;simp only[go_sem];refine aj (λh0=>?_) (λh0=>?_)
  ·have A:i<l.length:=by omega
   obtain⟨p,e3,W⟩:=H.int_at (k':=.i64) A;simp only[go_sem,e3,W];rw[clK_0];refine(U5 (I _ (List.getElem_mem A))).mono λv1 h2 ⟨e1,w1⟩=>?_
   subst e1 w1;refine aj (λF=>?_) (λF=>?_)
   ·exact⟨⟨i,rfl,λ_=>⟨_,List.getElem_mem A,F⟩,λ_=>by omega⟩,rfl⟩
   ·rw[w64 (by omega) (by omega)];refine G () _ A ⟨rfl,λx D=>?_⟩;rw[List.take_succ_eq_append_getElem A]at D;rcases List.mem_append.1 D with D|D
    ·exact L x D
    ·rw[List.mem_singleton.1 D];exact F
  ·rw[List.take_of_length_le (by omega)]at L;exact⟨⟨-1,rfl,λh=>by omega,λ⟨x,D,F⟩=>absurd F (L x D)⟩,by first|rfl|trivial⟩
 ·rintro r h' ⟨⟨n,rfl,hn⟩,rfl⟩;simp only[go_sem];refine⟨?_,trivial⟩
  congr 1
  rw[decide_eq_decide];exact hn
theorem Pb {Z:Nat→Prop}{h:af}{v:Value}{l:List Int}(H:SlI Z h v l)(F:∀x∈l,I64 x)(W:l.length<4611686018427387904):ae prog wG #[v] h λr h'=>r=.int .i64 (ck l)∧h'=h:=by
 apply Ki;unfold AD;obtain⟨a,cap,e⟩:=H.isSl;have e2:aq v=some (.int .i64 (l.length:Int)):=by rw[e];rfl
 simp only[go_sem,e2];unfold ck;refine gK_f (λA=>?_) (λA=>?_)
 ·have A:=of_decide_eq_false A;have e3:decide ((l.length:Int)=0∨1048576<(l.length:Int))=false:=decide_eq_false A;simp only[go_sem,e3];refine(Ng H F W).mono λv1 h1 ⟨L,w1⟩=>?_
  subst L w1;simp only[go_sem];refine aj (λh0=>?_) (λh0=>?_)
  ·have D:Cr l:=.inr (.inr h0);rw[if_pos D];exact⟨by simp,by simp⟩
  ·have D:¬Cr l:=by unfold Cr;rintro(G|G|G);omega;omega;exact h0 G
   rw[if_neg D];refine(LK H F W).mono λv1 h1 ⟨L,w1⟩=>?_
   subst L w1;simp only[go_sem];refine aj (λI=>?_) (λI=>?_)
   ·rw[if_pos I];exact⟨by simp,by simp⟩
   ·rw[if_neg I];exact⟨by simp,by simp⟩
 ·have U:=of_decide_eq_true A;have D:Cr l:=by unfold Cr;rcases U with G|G;exact .inl (by omega);exact .inr (.inl (by omega))
  simp only[go_sem,A];rw[if_pos D];exact⟨by simp,by simp⟩
def iD (l:List Int):Prop:=l.length%2=0∨1024<l.length∨kP l<1∨1048576<kP l
instance (l:List Int):Decidable (iD l):=by unfold iD;infer_instance
def xN (l:List Int):Int:=if iD l then 7 else 0
def oN (l:List Int):List Int:=if iD l then[]else l.map λx=>cg x 1073741824 (kP l)
theorem Bm {α β:Type}(g:α→β)(l:List α){k:Nat}(h:k<l.length):(l.map g).take (k+1)=(l.map g).take k++[g l[k]]:=by
 rw[List.take_succ_eq_append_getElem (by simpa using h)];simp
theorem Cl {Z:Nat→Prop}{h:af}{v:Value}{l:List Int}(H:SlI Z h v l)(F:∀x∈l,I64 x)(hl:l.length<4611686018427387904):
  ae prog pS #[v] h λr h'=>∃u,r=.tuple #[u,.int .i64 (xN l)]∧New (Rp.int .i64) h h' u (oN l):=by
 apply Mt;unfold CI;refine(FN H F hl).mono λv1 h1 ⟨e1,w1⟩=>?_
 subst e1 w1;obtain⟨a,cap,e⟩:=H.isSl;have U:aq v=some (.int .i64 (l.length:Int)):=by rw[e];rfl
 simp only[go_sem,U];rw[dc _ _ _ _ (by omega),ah,Int.tmod_eq_emod_of_nonneg (by omega)];simp only[go_sem,U];unfold xN oN;have hs:=GQ l;refine aj (λh0=>?_) (λh0=>?_)
 ·have:iD l:=by unfold iD;omega
  rw[if_pos this,if_pos this];exact⟨_,rfl,New.nil (Ext.refl _)⟩
 ·have L:¬iD l:=by unfold iD;omega
  rw[if_neg L,if_neg L];refine bA l.length 0 (λk u=>[u,.int .i64 (k:Int)]) (λk u h'=>New (Rp.int .i64) h1 h' u ((l.map λx=>cg x 1073741824 (kP l)).take k)) (.slice none 0 0) rfl (Nat.zero_le _) (New.nil (Ext.refl _)) λk u h2 again ρj _ hk G I=>?_
  simp only[go_sem];refine aj (λh0=>?_) (λh0=>?_)
  ·have D:k<l.length:=by omega
   obtain⟨p,e3,e4⟩:=(H.ext G.2.1).int_at (k':=.i64) D;simp only[go_sem,e3,e4];refine(lZ (F _ (List.getElem_mem _)) (by unfold I64;omega) hs).mono λv2 h3 ⟨e5,w5⟩=>?_
   subst e5 w5;have A:((l.map λx=>cg x 1073741824 (kP l)).take k).length=k:=by rw[List.length_take,List.length_map];omega
   unfold iD at L;refine G.push_int rfl (by rw[A];omega) (by rw[A];omega) λs' h' W=>?_
   try rw[cN,ah]
   rw[w64 (by omega) (by omega)];have:=I s' h' D (by rw[Bm _ _ D];exact W);exact this
  ·rw[List.take_of_length_le (by rw[List.length_map];omega)]at G;exact⟨u,rfl,G⟩
theorem Ed (l:List Int):∀x∈oN l,I64 x:=by
 unfold oN;split
 ·simp
 ·intro x A;obtain⟨y,_,rfl⟩:=List.mem_map.1 A;exact eW _ _ _
def kp (s:Int):Prop:=s<1∨4194304<s
instance (s:Int):Decidable (kp s):=by unfold kp;infer_instance
def fu (s:Int):Int:=(3*s+65535)/65536
def Cd (s:Int):Int:=if kp s then 7 else 0
def lX (s:Int):List Int:=if kp s then[]else(List.range (2*fu s+1).toNat).map λk:Nat=>y8 ((k:Int)-fu s) s
theorem Jf (s:Int):∀x∈lX s,I64 x:=by
 unfold lX;split
 ·simp
 ·intro x A;obtain⟨y,_,rfl⟩:=List.mem_map.1 A;exact Qy _ _
theorem JH {h:af}{s:Int}(hs:I64 s):ae prog kJ #[.int .i64 s] h λr h'=>∃u,r=.tuple #[u,.int .i64 (Cd s)]∧New (Rp.int .i64) h h' u (lX s):=by
 apply Et;unfold uY;simp only[go_sem];unfold Cd lX;refine aj (λh0=>?_) (λh0=>?_)
 ·have:kp s:=h0;rw[if_pos this,if_pos this];exact⟨_,rfl,New.nil (Ext.refl _)⟩
 ·have H:¬kp s:=h0;rw[if_neg H,if_neg H];rw[w64 (n:=3*s) (by omega) (by omega),w64 (n:=3*s+65536) (by omega) (by omega),w64 (n:=3*s+65536-1) (by omega) (by omega)];have e1:ag .i .shr (.int .i64 (3*s+65536-1)) (.int .u64 16)=some (.int .i64 (fu s)):=by
   show(if(16:Int)<0 then none else some (Value.int .i64 ((3*s+65536-1).fdiv (2^(min (16:Int).toNat 64)))))=_;rw[if_neg (by omega),Int.fdiv_eq_ediv_of_nonneg _ (by decide)];unfold fu
   congr 2
   rw[show 3*s+65536-1=3*s+65535 by omega];rfl
  rw[e1,ah];have hr:0≤fu s∧fu s≤193:=by unfold fu;omega
  generalize fu s=q at*;simp only[go_sem];rw[w64 (n:=0-q) (by omega) (by omega)];obtain⟨N,hN⟩:∃N,N=(2*q+1).toNat:=⟨_,rfl⟩
  rw[←hN];refine bA N 0 (λk u=>[u,.int .i64 ((k:Int)-q)]) (λk u h'=>New (Rp.int .i64) h h' u (((List.range N).map λk:Nat=>y8 ((k:Int)-q) s).take k)) (.slice none 0 0) rfl (Nat.zero_le _) (New.nil (Ext.refl _)) λk u h2 again ρj _ hk G F=>?_
  simp only[go_sem];refine aj (λI=>?_) (λI=>?_)
  ·have D:k<N:=by omega
   refine(Xa (by unfold I64;omega) hs).mono λv2 I ⟨W,U⟩=>?_
   subst W U;have A:(((List.range N).map λk:Nat=>y8 ((k:Int)-q) s).take k).length=k:=by rw[List.length_take,List.length_map,List.length_range];omega
   refine G.push_int rfl (by rw[A];omega) (by rw[A];omega) λs' h' L=>?_
   try rw[cN,ah]
   rw[w64 (by omega) (by omega)];have:=F s' h' D (by rw[lF _ _ _ D];exact L);rw[show((k+1:Nat):Int)-q=(k:Int)-q+1 by omega]at this;exact this
  ·rw[List.take_of_length_le (by rw[List.length_map,List.length_range];omega)]at G;exact⟨u,rfl,G⟩
end Go.Proofs.YtjljhnandbbldaaGreatDoor
namespace Go.Crisp
section
section
variable {α:Type}{lt:α→α→Prop}
theorem zV (F:∀{a b c},lt a b→lt b c→lt a c){L:List α}(h:L.Pairwise lt){x:α}{i j:Nat}(G:i≤j)(D:j<L.length)(A:lt L[j] x):lt (L[i]'(by omega)) x:=by
 rcases Nat.lt_or_ge i j with h1|h1
 ·exact F (List.pairwise_iff_getElem.1 h i j (by omega) D h1) A
 ·have:i=j:=by omega
  subst this;exact A
theorem zW (F:∀{a b c},lt a b→lt b c→lt a c){L:List α}(h:L.Pairwise lt){x:α}{i j:Nat}(G:i≤j)(D:j<L.length)(A:lt x (L[i]'(by omega))):lt x L[j]:=by
 rcases Nat.lt_or_ge i j with h1|h1
 ·exact F A (List.pairwise_iff_getElem.1 h i j (by omega) D h1)
 ·have:i=j:=by omega
  subst this;exact A
theorem cross (A:∀{a b c},lt a b→lt b c→lt a c){L R:List α}(hL:L.Pairwise lt)(G:R.Pairwise lt){i j:Nat}(hi:i≤L.length)(U:j≤R.length)
  (h1:∀(a:0<i) (b:j<R.length),lt (L[i-1]'(by omega)) R[j]) (I:∀(a:0<j) (b:i<L.length),lt (R[j-1]'(by omega)) L[i]):
  ∀x∈L.take i++R.take j,∀y∈L.drop i++R.drop j,lt x y:=by
 intro x D y F;rcases List.mem_append.1 D with D|D<;>rcases List.mem_append.1 F with F|F<;>
  obtain⟨p,H,rfl⟩:=List.mem_iff_getElem.1 D<;>obtain⟨q,hq,rfl⟩:=List.mem_iff_getElem.1 F<;>
  rw[List.length_take]at H<;>rw[List.length_drop]at hq<;>rw[List.getElem_take,List.getElem_drop]
 ·exact List.pairwise_iff_getElem.1 hL p (i+q) (by omega) (by omega) (by omega)
 ·exact zV (lt:=lt) A (L:=L) hL (i:=p) (j:=i-1) (by omega) (by omega) (zW (lt:=lt) A (x:=L[i-1]) (L:=R) G (i:=j) (j:=j+q) (by omega) (by omega) (h1 (by omega) (by omega)))
 ·exact zV (lt:=lt) A (L:=R) G (i:=p) (j:=j-1) (by omega) (by omega) (zW (lt:=lt) A (x:=R[j-1]) (L:=L) hL (i:=i) (j:=i+q) (by omega) (by omega) (I (by omega) (by omega)))
 ·exact List.pairwise_iff_getElem.1 G p (j+q) (by omega) (by omega) (by omega)
theorem XO {L R A D:List α}{i j:Nat}(hc:∀x∈L.take i++R.take j,∀y∈L.drop i++R.drop j,lt x y)
  (F:A.Perm (L.take i++R.take j)) (G:D.Perm (L.drop i++R.drop j)) (H:A.Pairwise lt) (U:D.Pairwise lt):(A++D).Perm (L++R)∧(A++D).Pairwise lt:=by
 refine⟨?_,List.pairwise_append.2 ⟨H,U,λx I y W=>hc x (F.mem_iff.1 I) y (G.mem_iff.1 W)⟩⟩;refine(F.append G).trans ?_;have e:(L.take i++R.take j++(L.drop i++R.drop j)).Perm ((L.take i++L.drop i)++(R.take j++R.drop j)):=by
  rw[List.append_assoc,List.append_assoc];refine List.Perm.append_left _ ?_;rw[←List.append_assoc,←List.append_assoc];exact List.Perm.append_right _ List.perm_append_comm
 rwa [List.take_append_drop,List.take_append_drop]at e
end
end
end Go.Crisp
namespace Go.Proofs.YtjljhnandbbldaaGreatDoor
open Go Go.Crisp
attribute [local irreducible] ae cE aP stK aA vK qK bC gK dK aU mkK cF Ch DH zZ bsK clK
open _root_.Go.Proofs.Tryz
section
abbrev iv (i:Nat):Value:=.int .i64 (i:Int)
structure FT (v f:Value)(P:af→Prop)(r:Nat→Int)(n:Nat):Prop where
 call:∀{h:af} {a b:Nat} {K:Value→af→Prop},P h→a<n→b<n→(∀c:Int,(c<0↔r b<r a)→K (.int .i64 c) h)→clK prog f #[iv a,iv b] h K
 fr:∀{h h':af},P h→Fr (blk v) h h'→P h'
structure di (v:Value)(P:af→Prop)(n:Nat)(h:af)(l:List Nat):Prop where
 own:Own 1 h v l.length (l.map iv)
 ok:P h
 small:l.length<4611686018427387904
 below:∀x∈l,x<n
section
variable {v f:Value}{P:af→Prop}{r:Nat→Int}{n:Nat}
theorem di.at {h:af}{l:List Nat}(H:di v P n h l){i:Nat}(hi:i<l.length):∃p,aR 1 v (iv i)=some p∧ldV h p=some (iv l[i]):=by
 obtain⟨p,h1,A,_⟩:=H.own.at1 (k:=.i64) hi;exact⟨p,h1,by rw[A,List.getElem_map]⟩
theorem di.swap (C:FT v f P r n){h:af}{A B D:List Nat}{x y:Nat}(H:di v P n h (A++x::(B++y::D))){i j:Nat}(hi:i=A.length)(hj:j=A.length+1+B.length):
  ∃ p q,aR 1 v (iv i)=some p∧aR 1 v (iv j)=some q∧ldV h p=some (iv x)∧ldV h q=some (iv y)∧∀K:Value→af→Prop,
   (∀h',di v P n h' (A++y::(B++x::D))→Fr (blk v) h h'→K undef h')→
    (stK 1 p (iv y) h λ_ F=>stK 1 q (iv x) F K)∧(stK 1 q (iv x) h λ_ F=>stK 1 p (iv y) F K):=by
 subst hi hj;have l1:A.length<(A++x::(B++y::D)).length:=by simp
 have l2:A.length+1+B.length<(A++x::(B++y::D)).length:=by simp;omega
 obtain⟨p,h1,F,G⟩:=H.own.at1 (k:=.i64) l1;obtain⟨q,g1,g2,g3⟩:=H.own.at1 (k:=.i64) l2;have e1:(A++x::(B++y::D))[A.length]=x:=by simp
 have e2:(A++x::(B++y::D))[A.length+1+B.length]=y:=by
  apply Option.some.inj;rw[←List.getElem?_eq_getElem,List.getElem?_append_right (by omega),show A.length+1+B.length-A.length=B.length+1 by omega,List.getElem?_cons_succ,List.getElem?_append_right (by omega)];simp
 rw[List.getElem_map,e1]at F;rw[List.getElem_map,e2]at g2;have fin:∀h',Own 1 h' v (A++x::(B++y::D)).length ((A++y::(B++x::D)).map iv)→Fr (blk v) h h'→di v P n h' (A++y::(B++x::D)):=λh' o f'=>
  ⟨by rw[show(A++y::(B++x::D)).length=(A++x::(B++y::D)).length by simp];exact o,C.fr H.ok f',by have:=H.small;simpa using this,λz hz=>H.below z (by
   simp only[List.mem_append,List.mem_cons]at hz ⊢;rcases hz with h|h|h|h|h<;>simp[h])⟩
 have s1:((A++x::(B++y::D)).map iv).set A.length (iv y)=(A++y::(B++y::D)).map iv:=by simp
 have s2:((A++y::(B++y::D)).map iv).set (A.length+1+B.length) (iv x)=(A++y::(B++x::D)).map iv:=by
  rw[←List.map_set]
  congr 1
  rw[List.set_append_right _ _ (by omega),show A.length+1+B.length-A.length=B.length+1 by omega,List.set_cons_succ,List.set_append_right _ _ (by omega)];simp
 have s3:((A++x::(B++y::D)).map iv).set (A.length+1+B.length) (iv x)=(A++x::(B++x::D)).map iv:=by
  rw[←List.map_set]
  congr 1
  rw[List.set_append_right _ _ (by omega),show A.length+1+B.length-A.length=B.length+1 by omega,List.set_cons_succ,List.set_append_right _ _ (by omega)];simp
 have s4:((A++x::(B++x::D)).map iv).set A.length (iv y)=(A++y::(B++x::D)).map iv:=by simp
 refine⟨p,q,h1,g1,F,g2,λK HK=>⟨?_,?_⟩⟩
 ·refine G _ _ rfl λF o2 f2 z2=>?_
  rw[s1]at o2;obtain⟨q',I,_,W⟩:=o2.at1 (k:=.i64) l2;rw[g1]at I;cases I;refine W _ _ rfl λG L f3 z3=>?_
  rw[s2]at L;exact HK G (fin G L (f2.trans f3)) (f2.trans f3)
 ·refine g3 _ _ rfl λF o2 f2 z2=>?_
  rw[s3]at o2;obtain⟨p',h1',_,U⟩:=o2.at1 (k:=.i64) l1;rw[h1]at h1';cases h1';refine U _ _ rfl λG L f3 z3=>?_
  rw[s4]at L;exact HK G (fin G L (f2.trans f3)) (f2.trans f3)
theorem qP (a b:Nat)(h:a+b≤9223372036854775807):IntKind.i64.wrap ((a:Int)+(b:Int))=((a+b:Nat):Int):=by rw[w64 (by omega) (by omega)];omega
theorem jM (a b:Nat)(h:b≤a)(A:a≤9223372036854775807):IntKind.i64.wrap ((a:Int)-(b:Int))=((a-b:Nat):Int):=by rw[w64 (by omega) (by omega)];omega
theorem pE (a:Nat)(h:a+1≤9223372036854775807):IntKind.i64.wrap ((a:Int)+1)=((a+1:Nat):Int):=by rw[w64 (by omega) (by omega)];omega
theorem DI (a:Nat)(h:1≤a)(A:a≤9223372036854775807):IntKind.i64.wrap ((a:Int)-1)=((a-1:Nat):Int):=by rw[w64 (by omega) (by omega)];omega
theorem zk (C:FT v f P r n){h:af}{A U M V D:List Nat}(H:di v P n h (A++U++M++V++D)){a b k:Nat}(ha:a=A.length)(hb:b=A.length+U.length+M.length)(hU:U.length=k)(hV:V.length=k):
  ae prog cB #[v,iv a,iv b,iv k,f] h λ_ h'=>di v P n h' (A++V++M++U++D)∧Fr (blk v) h h':=by
 apply nD;unfold gU;have L:=H.small;simp only[List.length_append]at L;refine bA k 0 (λi (_:Unit)=>[iv i]) (λi _ h'=>di v P n h' (A++V.take i++(U.drop i++M++U.take i++(V.drop i++D)))∧Fr (blk v) h h') () rfl (Nat.zero_le _) ⟨by simpa using H,Fr.refl _ _⟩ λi _ h1 again ρj _ hi ⟨F,W⟩ G=>?_
 try simp only[go_sem]
 refine aj (λh0=>?_) (λh0=>?_)
 ·have I:i<k:=by omega
  have dU:U.drop i=U[i]::U.drop (i+1):=List.drop_eq_getElem_cons (by omega);have dV:V.drop i=V[i]::V.drop (i+1):=List.drop_eq_getElem_cons (by omega);have tU:U.take (i+1)=U.take i++[U[i]]:=List.take_succ_eq_append_getElem (by omega);have tV:V.take (i+1)=V.take i++[V[i]]:=List.take_succ_eq_append_getElem (by omega);have H2:di v P n h1 ((A++V.take i)++U[i]::((U.drop (i+1)++M++U.take i)++V[i]::(V.drop (i+1)++D))):=by
   rw[dU,dV]at F;simpa only[List.append_assoc,List.cons_append,List.nil_append]using F
  obtain⟨p,q,e1,e2,e3,e4,st⟩:=H2.swap C (i:=a+i) (j:=b+i) (by rw[List.length_append,List.length_take];omega) (by simp only[List.length_append,List.length_take,List.length_drop];omega);refine aI (λh'=>h'=h1) rfl ?_;rw[qP a i (by omega),qP b i (by omega)];simp only[go_sem,e1,e2];refine ao (iv V[i]) (λh' e=>by rw[e];exact e4) ?_;refine ao (iv U[i]) (λh' e=>by rw[e];exact e3) ?_;refine(st _ λh3 H3 F3=>?_).1;rw[pE i (by omega)];refine G () h3 I ⟨?_,W.trans F3⟩;rw[tU,tV];simpa only[List.append_assoc,List.cons_append,List.nil_append]using H3
 ·have:i=k:=by omega
  subst this;rw[List.take_of_length_le (by omega),List.take_of_length_le (by omega),List.drop_eq_nil_of_le (by omega),List.drop_eq_nil_of_le (by omega)]at F;exact⟨by simpa using F,W⟩
theorem UR (C:FT v f P r n){h:af}{A U V D:List Nat}(H:di v P n h (A++U++V++D)){a m b:Nat}(ha:a=A.length)(hm:m=A.length+U.length)(hb:b=A.length+U.length+V.length)(hU:0<U.length)(hV:0<V.length):
  ae prog fS #[v,iv a,iv m,iv b,f] h λ_ h'=>di v P n h' (A++V++U++D)∧Fr (blk v) h h':=by
 apply qM;unfold jf;have al:=H.small;simp only[List.length_append]at al;simp only[fO,ah];rw[jM m a (by omega) (by omega),jM b m (by omega) (by omega)];refine cO (λd xs h'=>∃(P1 G F L:List Nat),d=G.length+F.length∧xs=[iv G.length,iv F.length]∧0<G.length∧0<F.length∧di v P n h' (P1++G++F++L)∧Fr (blk v) h h'∧m=P1.length+G.length∧P1++F++G++L=A++V++U++D)
  (U.length+V.length) ⟨A,U,V,D,rfl,by rw[show m-a=U.length by omega,show b-m=V.length by omega],hU,hV,H,Fr.refl _ _,hm,rfl⟩ ?_
 rintro d xs ρj h1 again ⟨P1,G,F,L,rfl,rfl,u0,v0,H1,F1,an,hg⟩ aa;have ab:=H1.small;simp only[List.length_append]at ab;simp only[gb,uA,vH,ah];by_cases ad:G.length=F.length
 ·have e:((G.length:Int)=(F.length:Int))=True:=eq_true (by omega);simp only[go_sem,e];rw[jM m G.length (by omega) (by omega)];refine(zk C (A:=P1) (U:=G) (M:=[]) (V:=F) (D:=L) (k:=G.length) (by simpa using H1) (by omega) (by simp;omega) rfl ad.symm).mono λw h2 ⟨H2,F2⟩=>?_
  refine⟨?_,F1.trans F2⟩;rw[←hg];simpa using H2
 ·have e:((G.length:Int)=(F.length:Int))=False:=eq_false (by omega);simp only[go_sem,e];refine aj (λh0=>?_) (λh0=>?_)
  ·rw[jM m G.length (by omega) (by omega)];have I:G=G.take F.length++G.drop F.length:=(List.take_append_drop _ _).symm;have W:(G.take F.length).length=F.length:=by rw[List.length_take];omega
   have l2:(G.drop F.length).length=G.length-F.length:=by rw[List.length_drop]
   refine(zk C (A:=P1) (U:=G.take F.length) (M:=G.drop F.length) (V:=F) (D:=L) (k:=F.length) (by rw[List.append_assoc P1,←I];exact H1) (by omega) (by omega) W rfl).mono λw h2 ⟨H2,F2⟩=>?_
   try simp only[go_sem]
   rw[jM G.length F.length (by omega) (by omega)];refine aa _ _ (G.length-F.length+F.length) (by omega) ⟨P1++F,G.drop F.length,G.take F.length,L,by rw[W,l2],by rw[W,l2],by omega,by omega,by simpa using H2,F1.trans F2,by rw[List.length_append];omega,?_⟩;rw[←hg];simp only[List.append_assoc];rw[←List.append_assoc (G.take _),←I]
  ·rw[jM m G.length (by omega) (by omega),qP m F.length (by omega),jM (m+F.length) G.length (by omega) (by omega)];have I:F=F.take (F.length-G.length)++F.drop (F.length-G.length):=(List.take_append_drop _ _).symm;have W:(F.take (F.length-G.length)).length=F.length-G.length:=by rw[List.length_take];omega
   have l2:(F.drop (F.length-G.length)).length=G.length:=by rw[List.length_drop];omega
   refine(zk C (A:=P1) (U:=G) (M:=F.take (F.length-G.length)) (V:=F.drop (F.length-G.length)) (D:=L) (k:=G.length) (by
    have e:P1++G++F.take (F.length-G.length)++F.drop (F.length-G.length)++L=P1++G++F++L:=by
     conv=>rhs;rw[I]
     simp only[List.append_assoc]
    rw[e];exact H1) (by omega) (by omega) rfl l2).mono λw h2 ⟨H2,F2⟩=>?_
   try simp only[go_sem]
   rw[jM F.length G.length (by omega) (by omega)];refine aa _ _ (G.length+(F.length-G.length)) (by omega) ⟨P1,F.drop (F.length-G.length),F.take (F.length-G.length),G++L,by rw[W,l2],by rw[W,l2],by omega,by omega,by simpa using H2,F1.trans F2,by omega,?_⟩;rw[←hg];simp only[List.append_assoc];rw[←List.append_assoc (F.take _),←I]
end
end
section
theorem DT {i j:Nat}{K:Value→Prop}(h:i+j<9223372036854775808):(vK (ag .i .add (iv i) (iv j)) λF=>vK (eS .u64 F) λD=>vK (ag .i .shr D (.int .u64 1)) λA=>vK (eS .i64 A) K)=K (iv ((i+j)/2)):=by
 rw[cN,ah,qP i j (by omega),zi,ah,eO (by omega),show(1:Int)=((1:Nat):Int)from rfl,kA _ (by omega),ah,zi,ah,w64 (by omega) (by omega)]
section
variable {v f:Value}{P:af→Prop}{r:Nat→Int}{n:Nat}
theorem pI {x y:Nat}(h:x<y):cK r y x↔r x<r y:=by unfold cK;omega
theorem P5 {F G:List Nat}{x:Nat}(A:(F++G).Pairwise (cK r))(h1:∀y∈F,cK r y x)(I:∀y∈G,cK r x y):(F++x::G).Pairwise (cK r):=by
 rw[List.pairwise_append]at A ⊢;refine⟨A.1,List.pairwise_cons.2 ⟨I,A.2.1⟩,λy H z D=>?_⟩;rcases List.mem_cons.1 D with rfl|D
 ·exact h1 y H
 ·exact A.2.2 y H z D
theorem SI {F:List Nat}{y x:Nat}(D:(F++[y]).Pairwise (cK r))(h:cK r y x):∀z∈F++[y],cK r z x:=by
 rw[List.pairwise_append]at D;intro z A;rcases List.mem_append.1 A with A|A
 ·exact jw (D.2.2 z A y (by simp)) h
 ·rw[List.mem_singleton.1 A];exact h
theorem FP (C:FT v f P r n){h:af}{A M D:List Nat}(H:di v P n h (A++M++D)){a b:Nat}(ha:a=A.length)(hb:b=A.length+M.length)(ax:M.Pairwise (· < ·)):
  ae prog cI #[v,iv a,iv b,f] h λ_ h'=>∃M':List Nat,M'.Perm M∧M'.Pairwise (cK r)∧di v P n h' (A++M'++D)∧Fr (blk v) h h':=by
 apply kQ;unfold fK;have a8:=H.small;simp only[List.length_append]at a8;rw[cN,ah,pE a (by omega)];refine bA (M.length-1) 0 (λk (_:Unit)=>[iv (a+1+k)]) (λk _ h'=>∃S:List Nat,S.Perm (M.take (k+1))∧S.Pairwise (cK r)∧di v P n h' (A++S++M.drop (k+1)++D)∧Fr (blk v) h h') () rfl (Nat.zero_le _)
  ⟨M.take 1,List.Perm.refl _,?_,by rw[List.append_assoc A,List.take_append_drop];exact H,Fr.refl _ _⟩ λk _ h1 again ρj _ hk ⟨S,hp,hs,H1,F1⟩ au=>?_
 ·cases M with
  |nil=>simp
  |cons x M=>simp
 simp only[gb,bU,ah];refine aj (λh0=>?_) (λh0=>?_)
 ·have I:k+1<M.length:=by omega
  have dM:M.drop (k+1)=M[k+1]::M.drop (k+1+1):=List.drop_eq_getElem_cons I;have tM:M.take (k+1+1)=M.take (k+1)++[M[k+1]]:=List.take_succ_eq_append_getElem I;have a7:S.length=k+1:=by rw[hp.length_eq,List.length_take];omega
  have aw:∀y∈S,y<M[k+1]:=λy hy=>by
   have:=hp.mem_iff.1 hy;obtain⟨i,hi,rfl⟩:=List.mem_iff_getElem.1 this;rw[List.length_take]at hi;rw[List.getElem_take];exact List.pairwise_iff_getElem.1 ax i (k+1) (by omega) I (by omega)
  generalize M[k+1]=x at*;refine cO (λd xs h'=>∃F G:List Nat,d=F.length∧xs=[iv (a+F.length)]∧S=F++G∧(∀y∈G,cK r x y)∧di v P n h' (A++F++x::(G++M.drop (k+1+1)++D))∧Fr (blk v) h h') S.length
   ⟨S,[],rfl,by rw[a7];congr 2;omega,by simp,by simp,by rw[dM]at H1;simpa only[List.append_assoc,List.cons_append,List.nil_append]using H1,F1⟩ ?_
  rintro d xs ρj2 U ar ⟨F,G,rfl,rfl,rfl,hx,L,F2⟩ aa;simp only[gb,l8,ah];have iU:(∀y∈F,cK r y x)→di v P n U (A++F++x::(G++M.drop (k+1+1)++D))→Fr (blk v) h U→again [.int .i64 (IntKind.i64.wrap (((a+1+k:Nat):Int)+1))] U:=by
   intro g1 g2 g3;rw[pE (a+1+k) (by omega),show a+1+k+1=a+1+(k+1)by omega];refine au () U (by omega) ⟨F++x::G,?_,P5 hs g1 hx,by simpa only[List.append_assoc,List.cons_append,List.nil_append]using g2,g3⟩;rw[tM];exact List.perm_middle.trans ((List.Perm.cons _ hp).trans (List.perm_append_comm (l₁:=[x])))
  refine aI (λh'=>h'=U) rfl ?_;rcases List.eq_nil_or_concat F with rfl|⟨F,y,rfl⟩
  ·have e:((a:Int)<((a+([]:List Nat).length:Nat):Int))=False:=eq_false (by simp);simp only[go_sem,e];refine ao undef (λ_ _=>rfl) ?_;refine ao undef (λ_ _=>rfl) ?_
   try simp only[go_sem]
   exact iU (by simp) L F2
  ·have ad:(F.concat y).length=F.length+1:=by simp
   have an:y<x:=aw y (by simp);have al:=L.small;simp only[List.length_append,List.length_cons,ad]at al;have H3:di v P n U ((A++F)++y::([]++x::(G++M.drop (k+1+1)++D))):=by
    simpa only[List.concat_eq_append,List.append_assoc,List.cons_append,List.nil_append]using L
   obtain⟨p,q,e1,e2,e3,e4,st⟩:=H3.swap C (i:=a+F.length) (j:=a+(F.length+1)) (by rw[List.length_append];omega) (by rw[List.length_append,List.length_nil];omega);have e:((a:Int)<((a+(F.length+1):Nat):Int))=True:=eq_true (by omega);have es:IntKind.i64.wrap (((a+(F.length+1):Nat):Int)-1)=((a+F.length:Nat):Int):=by rw[DI _ (by omega) (by omega)];congr 1
   simp only[go_sem,e,ad,es,e1,e2];refine ao (iv x) (λh' e=>by rw[e];exact e4) ?_;refine ao (iv y) (λh' e=>by rw[e];exact e3) ?_;refine C.call L.ok (L.below x (by simp)) (L.below y (by simp)) λc hc=>?_
   simp only[go_sem];have ay:(F++[y]).Pairwise (cK r):=by
    have:=(List.pairwise_append.1 hs).1;simpa only[List.concat_eq_append]using this
   refine aj (λW=>?_) (λW=>?_)
   ·refine aI (λh'=>h'=U) rfl ?_
    try simp only[go_sem,e1,e2]
    refine ao (iv y) (λh' e=>by rw[e];exact e3) ?_;refine ao (iv x) (λh' e=>by rw[e];exact e4) ?_;refine(st _ λh3 H4 F3=>?_).2;refine aa _ h3 F.length (by omega) ⟨F,y::G,rfl,rfl,by simp[List.concat_eq_append],λz hz=>?_,by simpa only[List.append_assoc,List.cons_append,List.nil_append]using H4,F2.trans F3⟩;rcases List.mem_cons.1 hz with rfl|hz
    ·exact(pI an).2 (hc.1 W)
    ·exact hx z hz
   ·refine iU ?_ L F2;have hl:cK r y x:=by
     have:¬cK r x y:=λg=>W (hc.2 ((pI an).1 g))
     exact(jx r (show y≠x by omega)).resolve_right this
    have:=SI ay hl;simpa only[List.concat_eq_append]using this
 ·have ab:M.length≤k+1:=by omega
  refine⟨S,?_,hs,?_,F1⟩
  ·rw[List.take_of_length_le ab]at hp;exact hp
  ·rw[List.drop_eq_nil_of_le ab]at H1;simpa using H1
theorem Jt (C:FT v f P r n):∀(N:Nat) {h:af} {A L R D:List Nat} (H:di v P n h (A++L++R++D)) {a m b:Nat} (ha:a=A.length) (hm:m=A.length+L.length) (hb:b=A.length+L.length+R.length)
  (hL:0<L.length) (hR:0<R.length) (sL:L.Pairwise (cK r)) (sR:R.Pairwise (cK r)) (ad:∀x∈L,∀y∈R,x<y) (hN:L.length+R.length≤N),
  ae prog bJ #[v,iv a,iv m,iv b,f] h λ_ h'=>∃S:List Nat,S.Perm (L++R)∧S.Pairwise (cK r)∧di v P n h' (A++S++D)∧Fr (blk v) h h':=by
 intro N;induction N with
 |zero=>intro h A L R D H a m b ha hm hb hL hR sL sR ad hN;omega
 |succ N ih=>
 intro h A L R D H a m b ha hm hb hL hR sL sR ad hN;apply pB;unfold iy;have c0:=H.small;simp only[List.length_append]at c0
 -- elements of the two parts
 have bk:∀{h':af},di v P n h' (A++L++R++D)→∀k (hk:k<L.length),∃p,aR 1 v (iv (a+k))=some p∧ldV h' p=some (iv L[k])∧L[k]<n:=λH' k hk=>by
  obtain⟨p,W,e2⟩:=H'.at (i:=a+k) (by simp only[List.length_append];omega);have e:(A++L++R++D)[a+k]'(by simp only[List.length_append];omega)=L[k]:=by
   apply Option.some.inj;rw[←List.getElem?_eq_getElem,List.append_assoc,List.append_assoc,List.getElem?_append_right (by omega),show a+k-A.length=k by omega,List.getElem?_append_left hk,List.getElem?_eq_getElem hk]
  exact⟨p,W,by rw[e2,e],H'.below _ (by simp[List.getElem_mem])⟩
 have ay:∀{h':af},di v P n h' (A++L++R++D)→∀k (hk:k<R.length),∃p,aR 1 v (iv (m+k))=some p∧ldV h' p=some (iv R[k])∧R[k]<n:=λH' k hk=>by
  obtain⟨p,W,e2⟩:=H'.at (i:=m+k) (by simp only[List.length_append];omega);have e:(A++L++R++D)[m+k]'(by simp only[List.length_append];omega)=R[k]:=by
   apply Option.some.inj;rw[←List.getElem?_eq_getElem,List.append_assoc,List.getElem?_append_right (by simp only[List.length_append];omega),List.length_append,show m+k-(A.length+L.length)=k by omega,List.getElem?_append_left hk,List.getElem?_eq_getElem hk]
  exact⟨p,W,by rw[e2,e],H'.below _ (by simp[List.getElem_mem])⟩
 simp only[fO,sG,ah];rw[jM m a (by omega) (by omega),jM b m (by omega) (by omega)];refine aj (λh1=>?_) (λh1=>?_)
 ·-- one on the left
  have c4:L.length=1:=by omega
  obtain⟨x,rfl⟩:=List.length_eq_one_iff.1 c4;refine cO (λd xs h'=>h'=h∧∃i j:Nat,d=j-i∧xs=[iv (m+i),iv (m+j)]∧i≤j∧j≤R.length∧(∀h0:0<i,∀hi:i-1<R.length,cK r R[i-1] x)∧(∀hj:j<R.length,¬cK r R[j] x)) R.length
   ⟨rfl,0,R.length,rfl,by rw[show b=m+R.length by omega];rfl,by omega,Nat.le_refl _,by omega,by omega⟩ ?_
  rintro d xs ρj h' again ⟨hh,i,j,rfl,rfl,b5,hj,c1,c2⟩ an;subst hh;simp only[gb,uA,bU,ah];refine aj (λI=>?_) (λI=>?_)
  ·rw[DT (by omega),show(m+i+(m+j))/2=m+(i+j)/2 by omega];have hk:(i+j)/2<R.length:=by omega
   obtain⟨p,W,e2,b1⟩:=ay H ((i+j)/2) hk;obtain⟨q,g1,g2,b2⟩:=bk H 0 (by omega);simp only[Nat.add_zero,List.getElem_cons_zero]at g1 g2 b2;refine aI (λI=>I=h') rfl ?_;simp only[W,g1,ah];refine ao _ (λI e=>by rw[e];exact e2) ?_;refine ao _ (λI e=>by rw[e];exact g2) ?_;refine C.call H.ok b1 b2 λc hc=>?_
   have ar:x<R[(i+j)/2]:=ad x (by simp) _ (List.getElem_mem _)
   try simp only[go_sem]
   refine aj (λG=>?_) (λG=>?_)
   ·rw[pE _ (by omega)];refine an _ _ (j-((i+j)/2+1)) (by omega) ⟨rfl,(i+j)/2+1,j,rfl,rfl,by omega,hj,λ_ _=>?_,c2⟩;exact(pI ar).2 (hc.1 G)
   ·refine an _ _ ((i+j)/2-i) (by omega) ⟨rfl,i,(i+j)/2,rfl,rfl,by omega,by omega,c1,λ_ g=>G (hc.2 ((pI ar).1 g))⟩
  ·have au:i=j:=by omega
   subst au
   -- it goes to its place
   refine bA i 0 (λc (_:Unit)=>[iv (a+c)]) (λc _ I=>di v P n I (A++R.take c++x::(R.drop c++D))∧Fr (blk v) h' I) () rfl (Nat.zero_le _) ⟨by simpa using H,Fr.refl _ _⟩ λc _ I a7 ρj2 _ hc ⟨H2,F2⟩ ax=>?_
   simp only[gb,fO,bU,ah];rw[DI _ (by omega) (by omega)];have lA:A.length+[x].length=A.length+1:=rfl;refine aj (λG=>?_) (λG=>?_)
   ·have dl:c<i:=by omega
    have dR:R.drop c=R[c]::R.drop (c+1):=List.drop_eq_getElem_cons (by omega);have tR:R.take (c+1)=R.take c++[R[c]]:=List.take_succ_eq_append_getElem (by omega);have H3:di v P n I ((A++R.take c)++x::([]++R[c]::(R.drop (c+1)++D))):=by
     rw[dR]at H2;simpa only[List.append_assoc,List.cons_append,List.nil_append]using H2
    obtain⟨p,q,W,e2,e3,e4,st⟩:=H3.swap C (i:=a+c) (j:=a+c+1) (by rw[List.length_append,List.length_take];omega) (by rw[List.length_append,List.length_take,List.length_nil];omega);refine aI (λG=>G=I) rfl ?_;rw[cN,ah,pE _ (by omega)];simp only[go_sem,W,e2];refine ao _ (λG e=>by rw[e];exact e4) ?_;refine ao _ (λG e=>by rw[e];exact e3) ?_;refine(st _ λG H4 F3=>?_).1
    try rw[pE _ (by omega)]
    refine ax () G dl ⟨?_,F2.trans F3⟩;rw[tR];simpa only[List.append_assoc,List.cons_append,List.nil_append]using H4
   ·have:c=i:=by omega
    subst this;refine⟨R.take c++x::R.drop c,?_,?_,by simpa only[List.append_assoc,List.cons_append,List.nil_append]using H2,F2⟩
    ·refine List.perm_middle.trans ?_;rw[List.take_append_drop];exact List.Perm.refl _
    ·refine P5 (by rw[List.take_append_drop];exact sR) (λy hy=>?_) (λy hy=>?_)
     ·obtain⟨k,hk,rfl⟩:=List.mem_iff_getElem.1 hy;rw[List.length_take]at hk;rw[List.getElem_take];exact zV (lt:=cK r) jw sR (i:=k) (j:=c-1) (by omega) (by omega) (c1 (by omega) (by omega))
     ·obtain⟨k,hk,rfl⟩:=List.mem_iff_getElem.1 hy;rw[List.length_drop]at hk;rw[List.getElem_drop];have hx:cK r x R[c]:=(jx r (show x≠R[c]by have:=ad x (by simp) _ (List.getElem_mem (l:=R) (n:=c) (by omega));omega)).resolve_right (c2 (by omega));exact zW (lt:=cK r) jw sR (i:=c) (j:=c+k) (by omega) (by omega) hx
 refine aj (λI=>?_) (λI=>?_)
 ·-- one on the right
  have c6:R.length=1:=by omega
  obtain⟨y,rfl⟩:=List.length_eq_one_iff.1 c6;refine cO (λd xs h'=>h'=h∧∃i j:Nat,d=j-i∧xs=[iv (a+i),iv (a+j)]∧i≤j∧j≤L.length∧(∀h0:0<i,∀hi:i-1<L.length,cK r L[i-1] y)∧(∀hj:j<L.length,¬cK r L[j] y)) L.length
   ⟨rfl,0,L.length,rfl,by rw[show m=a+L.length by omega];rfl,by omega,Nat.le_refl _,by omega,by omega⟩ ?_
  rintro d xs ρj h' again ⟨hh,i,j,rfl,rfl,b5,hj,c1,c2⟩ an;subst hh;simp only[gb,uA,bU,ah];refine aj (λG=>?_) (λG=>?_)
  ·rw[DT (by omega),show(a+i+(a+j))/2=a+(i+j)/2 by omega];have hk:(i+j)/2<L.length:=by omega
   obtain⟨p,W,e2,b1⟩:=bk H ((i+j)/2) hk;obtain⟨q,g1,g2,b2⟩:=ay H 0 (by simp);simp only[Nat.add_zero,List.getElem_cons_zero]at g1 g2 b2;refine aI (λI=>I=h') rfl ?_;simp only[W,g1,ah];refine ao _ (λI e=>by rw[e];exact g2) ?_;refine ao _ (λI e=>by rw[e];exact e2) ?_;refine C.call H.ok b2 b1 λc hc=>?_
   have ar:L[(i+j)/2]<y:=ad _ (List.getElem_mem _) y (by simp);simp only[go_sem];refine aj (λU=>?_) (λU=>?_)
   ·rw[pE _ (by omega)];refine an _ _ (j-((i+j)/2+1)) (by omega) ⟨rfl,(i+j)/2+1,j,rfl,rfl,by omega,hj,λ_ _=>?_,c2⟩;have e:(i+j)/2+1-1=(i+j)/2:=by omega
    simp only[e];exact(jx r (by omega)).resolve_right λg=>U (hc.2 ((pI ar).1 g))
   ·refine an _ _ ((i+j)/2-i) (by omega) ⟨rfl,i,(i+j)/2,rfl,rfl,by omega,by omega,c1,λ_ g=>?_⟩;exact IN g ((pI ar).2 (hc.1 (Decidable.of_not_not U)))
  ·have au:i=j:=by omega
   subst au;refine cO (λd xs I=>∃c:Nat,d=c∧xs=[iv (a+c)]∧i≤c∧c≤L.length∧di v P n I (A++L.take c++y::(L.drop c++D))∧Fr (blk v) h' I) L.length
    ⟨L.length,rfl,by rw[show m=a+L.length by omega],hj,Nat.le_refl _,by rw[List.take_of_length_le (Nat.le_refl _),List.drop_eq_nil_of_le (Nat.le_refl _)];simpa using H,Fr.refl _ _⟩ ?_
   rintro d xs ρj2 I a7 ⟨c,a9,rfl,eb,ec,H2,F2⟩ ax;have a9:=a9.symm;subst a9;simp only[gb,l8,ah];refine aj (λU=>?_) (λU=>?_)
   ·obtain⟨c,rfl⟩:∃e,c=e+1:=⟨c-1,by omega⟩
    have dL:L.drop c=L[c]::L.drop (c+1):=List.drop_eq_getElem_cons (by omega);have tL:L.take (c+1)=L.take c++[L[c]]:=List.take_succ_eq_append_getElem (by omega);have H3:di v P n I ((A++L.take c)++L[c]::([]++y::(L.drop (c+1)++D))):=by
     rw[tL]at H2;simpa only[List.append_assoc,List.cons_append,List.nil_append]using H2
    obtain⟨p,q,W,e2,e3,e4,st⟩:=H3.swap C (i:=a+c) (j:=a+(c+1)) (by rw[List.length_append,List.length_take];omega) (by rw[List.length_append,List.length_take,List.length_nil];omega);have es:IntKind.i64.wrap (((a+(c+1):Nat):Int)-1)=((a+c:Nat):Int):=by rw[DI _ (by omega) (by omega)];congr 1
    refine aI (λG=>G=I) rfl ?_;simp only[go_sem,es,W,e2];refine ao _ (λG e=>by rw[e];exact e3) ?_;refine ao _ (λG e=>by rw[e];exact e4) ?_;refine(st _ λG H4 F3=>?_).2;refine ax _ G c (by omega) ⟨c,rfl,rfl,by omega,by omega,?_,F2.trans F3⟩;rw[dL];simpa only[List.append_assoc,List.cons_append,List.nil_append]using H4
   ·have:c=i:=by omega
    subst this;refine⟨L.take c++y::L.drop c,?_,?_,by simpa only[List.append_assoc,List.cons_append,List.nil_append]using H2,F2⟩
    ·refine List.perm_middle.trans ?_;rw[List.take_append_drop];exact List.perm_append_comm (l₁:=[y])
    ·refine P5 (by rw[List.take_append_drop];exact sL) (λz hz=>?_) (λz hz=>?_)
     ·obtain⟨k,hk,rfl⟩:=List.mem_iff_getElem.1 hz;rw[List.length_take]at hk;rw[List.getElem_take];exact zV (lt:=cK r) jw sL (i:=k) (j:=c-1) (by omega) (by omega) (c1 (by omega) (by omega))
     ·obtain⟨k,hk,rfl⟩:=List.mem_iff_getElem.1 hz;rw[List.length_drop]at hk;rw[List.getElem_drop];have hx:cK r y L[c]:=(jx r (show y≠L[c]by have:=ad _ (List.getElem_mem (l:=L) (n:=c) (by omega)) y (by simp);omega)).resolve_right (c2 (by omega));exact zW (lt:=cK r) jw sL (i:=c) (j:=c+k) (by omega) (by omega) hx
 -- cut in the middle
 rw[DT (by omega)];obtain⟨F,b7⟩:∃F,F=(a+b)/2:=⟨_,rfl⟩
 rw[←b7,cN,ah,qP F m (by omega)];obtain⟨s0,bc⟩:∃s0,s0=if F<m then F+m-b else a:=⟨_,rfl⟩
 obtain⟨r0,bg⟩:∃r0,r0=if F<m then F else m:=⟨_,rfl⟩
 have aa:(F<m→s0=F+m-b)∧(¬F<m→s0=a):=⟨λh=>by rw[bc,if_pos h],λh=>by rw[bc,if_neg h]⟩
 have ab:(F<m→r0=F)∧(¬F<m→r0=m):=⟨λh=>by rw[bg,if_pos h],λh=>by rw[bg,if_neg h]⟩
 clear bc bg
 refine aV (λxs h'=>h'=h∧xs=[iv s0,iv r0]) ?_ ?_
 ·rw[l8,ah];refine aj (λG=>?_) (λG=>?_)
  ·rw[fO,ah,jM (F+m) b (by omega) (by omega)];exact⟨rfl,by rw[aa.1 (by omega),ab.1 (by omega)]⟩
  ·exact⟨rfl,by rw[aa.2 (by omega),ab.2 (by omega)]⟩
 rintro xs ρj h' ⟨hh,rfl⟩;subst hh;simp only[gb,uA];rw[fO,ah,DI (F+m) (by omega) (by omega)];have c9:a≤s0∧s0≤r0∧r0≤m∧r0≤F∧F+m-b≤s0:=by
  by_cases G:F<m
  ·have W:=aa.1 G;have e2:=ab.1 G;omega
  ·have W:=aa.2 G;have e2:=ab.2 G;omega
 -- which ones come ahead
 have be:∀c:Nat,s0≤c→c<r0→∃(h1:c-a<L.length) (I:F-1-c<R.length),∃p q,aR 1 v (iv c)=some p∧ldV h' p=some (iv L[c-a])∧aR 1 v (iv (F+m-1-c))=some q∧ldV h' q=some (iv R[F-1-c])∧L[c-a]<n∧R[F-1-c]<n:=by
  intro c h1 I;have l1:c-a<L.length:=by omega
  have l2:F-1-c<R.length:=by omega
  obtain⟨p,W,e2,b1⟩:=bk H (c-a) l1;obtain⟨q,g1,g2,b2⟩:=ay H (F-1-c) l2;rw[show a+(c-a)=c by omega]at W;rw[show m+(F-1-c)=F+m-1-c by omega]at g1;exact⟨l1,l2,p,q,W,e2,g1,g2,b1,b2⟩
 refine cO (λd xs I=>I=h'∧∃i j:Nat,d=j-i∧xs=[iv i,iv j]∧s0≤i∧i≤j∧j≤r0∧(∀h0:s0<i,∀(g1:i-1-a<L.length) (g2:F-i<R.length),cK r L[i-1-a] R[F-i])∧(j<r0→∀(g1:j-a<L.length) (g2:F-1-j<R.length),cK r R[F-1-j] L[j-a])) (r0-s0)
  ⟨rfl,s0,r0,rfl,rfl,Nat.le_refl _,c9.2.1,Nat.le_refl _,by omega,by omega⟩ ?_
 rintro d xs ρj2 I again ⟨hh,i,j,rfl,rfl,c7,b5,c8,c1,c2⟩ an;subst hh;simp only[gb,uA,bU,ah];refine aj (λG=>?_) (λG=>?_)
 ·rw[DT (by omega)];obtain⟨l1,l2,p,q,W,e2,g1,g2,b1,b2⟩:=be ((i+j)/2) (by omega) (by omega);obtain⟨c,hc⟩:∃c,c=(i+j)/2:=⟨_,rfl⟩
  simp only[←hc]at l1 l2 W e2 g1 g2 b1 b2 ⊢;have ar:L[c-a]<R[F-1-c]:=ad _ (List.getElem_mem _) _ (List.getElem_mem _);refine aI (λU=>U=I) rfl ?_;simp only[fO,ah];rw[jM (F+m-1) c (by omega) (by omega)];simp only[W,g1,ah];refine ao _ (λG e=>by rw[e];exact g2) ?_;refine ao _ (λG e=>by rw[e];exact e2) ?_;refine C.call H.ok b2 b1 λw hw=>?_
  simp only[go_sem];refine aj (λU=>?_) (λU=>?_)
  ·rw[pE _ (by omega)];refine an _ _ (j-(c+1)) (by omega) ⟨rfl,c+1,j,rfl,rfl,by omega,by omega,c8,λ_ _ _=>?_,c2⟩;have:cK r L[c-a] R[F-1-c]:=(jx r (by omega)).resolve_right λg=>U (hw.2 ((pI ar).1 g))
   have e:F-(c+1)=F-1-c:=by omega
   simp only[e,Nat.add_sub_cancel];exact this
  ·refine an _ _ (c-i) (by omega) ⟨rfl,i,c,rfl,rfl,c7,by omega,by omega,c1,λ_ _ _=>(pI ar).2 (hw.1 (Decidable.of_not_not U))⟩
 -- turned round
 have au:i=j:=by omega
 subst au;obtain⟨p,hp⟩:∃p,p=i-a:=⟨_,rfl⟩
 obtain⟨q,hq⟩:∃q,q=F-i:=⟨_,rfl⟩
 have ct:p≤L.length:=by omega
 have cr:q≤R.length:=by omega
 have x1:∀(g1:0<p) (g2:q<R.length),cK r (L[p-1]'(by omega)) R[q]:=λg1 g2=>by
  have hs:s0<i:=by
   by_cases U:F<m
   ·have:=aa.1 U;omega
   ·have:=aa.2 U;omega
  have:=c1 hs (by omega) (by omega);have W:i-1-a=p-1:=by omega
  simp only[W,←hq]at this;exact this
 have x2:∀(g1:0<q) (g2:p<L.length),cK r (R[q-1]'(by omega)) L[p]:=λg1 g2=>by
  have hs:i<r0:=by
   by_cases U:F<m
   ·have:=ab.1 U;omega
   ·have:=ab.2 U;omega
  have:=c2 hs (by omega) (by omega);have W:F-1-i=q-1:=by omega
  simp only[W,←hp]at this;exact this
 have cw:=cross (lt:=cK r) jw sL sR ct cr x1 x2;have lp:(L.take p).length=p:=by rw[List.length_take];omega
 have lq:(R.take q).length=q:=by rw[List.length_take];omega
 have ld:(L.drop p).length=L.length-p:=by rw[List.length_drop]
 have lr:(R.drop q).length=R.length-q:=by rw[List.length_drop]
 have eL:L=L.take p++L.drop p:=(List.take_append_drop _ _).symm;have eR:R=R.take q++R.drop q:=(List.take_append_drop _ _).symm;have H0:di v P n I ((A++L.take p)++L.drop p++R.take q++(R.drop q++D)):=by
  have e:(A++L.take p)++L.drop p++R.take q++(R.drop q++D)=A++L++R++D:=by
   conv=>rhs;rw[eL,eR]
   simp only[List.append_assoc]
  rw[e];exact H
 rw[fO,ah,jM (F+m) i (by omega) (by omega)];refine aV (λ_ G=>di v P n G (A++L.take p++R.take q++(L.drop p++R.drop q++D))∧Fr (blk v) I G) ?_ ?_
 ·simp only[go_sem];refine aj (λU=>?_) (λU=>?_)
  ·refine(UR C H0 (a:=i) (m:=m) (b:=F+m-i) (by rw[List.length_append];omega) (by rw[List.length_append];omega) (by rw[List.length_append];omega) (by omega) (by omega)).mono λw G ⟨H3,F3⟩=>?_
   exact⟨by simpa only[List.append_assoc]using H3,F3⟩
  ·refine⟨?_,Fr.refl _ _⟩;by_cases h5:p=L.length
   ·rw[List.drop_eq_nil_of_le (show L.length≤p by omega)]at H0 ⊢;simpa only[List.append_assoc,List.append_nil,List.nil_append]using H0
   ·have:q=0:=by omega
    subst this;simpa only[List.append_assoc,List.take_zero,List.append_nil,List.nil_append]using H0
 rintro xs ρj3 G ⟨H3,F3⟩
 -- the two halves
 have b3:∀x∈L.take p,∀y∈R.take q,x<y:=λx hx y hy=>ad x (List.mem_of_mem_take hx) y (List.mem_of_mem_take hy)
 have b8:∀x∈L.drop p,∀y∈R.drop q,x<y:=λx hx y hy=>ad x (List.mem_of_mem_drop hx) y (List.mem_of_mem_drop hy)
 have b6:=sL.sublist (List.take_sublist p L);have cb:=sL.sublist (List.drop_sublist p L);have bv:=sR.sublist (List.take_sublist q R);have ca:=sR.sublist (List.drop_sublist q R);have al:∀(S1:List Nat) (U:af),S1.Perm (L.take p++R.take q)→S1.Pairwise (cK r)→di v P n U (A++S1++(L.drop p++R.drop q++D))→Fr (blk v) I U→
   vK (ag .i .lss (iv F) (iv (F+m-i))) λaw=>vK (gV aw true (some (iv (F+m-i)))) λbo=>vK (gV aw true (some (iv b))) λb0=>vK (gV aw true (ag .i .lss bo b0)) λb4=>vK (az aw b4 (.bool false)) λci=>
    aA ci (ae prog bJ #[v,iv F,iv (F+m-i),iv b,f] U λdq a8=>∃S:List Nat,S.Perm (L++R)∧S.Pairwise (cK r)∧di v P n a8 (A++S++D)∧Fr (blk v) I a8)
     (∃S:List Nat,S.Perm (L++R)∧S.Pairwise (cK r)∧di v P n U (A++S++D)∧Fr (blk v) I U):=by
  intro S1 U cc c3 H4 F4;have ea:S1.length=p+q:=by rw[cc.length_eq,List.length_append];omega
  have fin:∀(S2:List Nat) (h5:af),S2.Perm (L.drop p++R.drop q)→S2.Pairwise (cK r)→di v P n h5 (A++S1++S2++D)→Fr (blk v) I h5→∃S:List Nat,S.Perm (L++R)∧S.Pairwise (cK r)∧di v P n h5 (A++S++D)∧Fr (blk v) I h5:=by
   intro S2 h5 cu cp H5 F5;obtain⟨m1,m2⟩:=XO (lt:=cK r) cw cc cu c3 cp;exact⟨S1++S2,m1,m2,by simpa only[List.append_assoc]using H5,F5⟩
  simp only[go_sem];refine aj (λh6=>?_) (λh6=>?_)
  ·refine(ih (A:=A++S1) (L:=L.drop p) (R:=R.drop q) (D:=D) (by simpa only[List.append_assoc]using H4) (by rw[List.length_append];omega) (by rw[List.length_append];omega) (by rw[List.length_append];omega) (by omega) (by omega) cb ca b8 (by omega)).mono λw h5 ⟨S2,g1,g2,g3,g4⟩=>?_
   exact fin S2 h5 g1 g2 g3 (F4.trans g4)
  ·by_cases h7:L.length≤p
   ·rw[List.drop_eq_nil_of_le h7]at H4 fin;exact fin (R.drop q) U (by simp) ca (by simpa only[List.append_assoc,List.nil_append]using H4) F4
   ·have h8:R.length≤q:=by omega
    rw[List.drop_eq_nil_of_le h8]at H4 fin;exact fin (L.drop p) U (by simp) cb (by simpa only[List.append_assoc,List.append_nil,List.nil_append]using H4) F4
 simp only[bU,ah];by_cases U:a<i∧i<F
 ·have W:((a:Int)<(i:Int))=True:=eq_true (by omega);have e2:((i:Int)<(F:Int))=True:=eq_true (by omega);simp only[go_sem,W,e2];refine(ih (A:=A) (L:=L.take p) (R:=R.take q) (D:=L.drop p++R.drop q++D) H3 (by omega) (by omega) (by omega) (by omega) (by omega) b6 bv b3 (by omega)).mono λw h5 ⟨S1,g1,g2,g3,g4⟩=>?_
  have:=al S1 h5 g1 g2 g3 (F3.trans g4);simp only[go_sem]at this ⊢;exact this
 ·have W:((a:Int)<(i:Int)∧(i:Int)<(F:Int))=False:=eq_false (by omega);simp only[go_sem,W];by_cases h5:p=0
  ·subst h5;have:=al (R.take q) G (by simp) bv (by simpa only[List.append_assoc,List.take_zero,List.append_nil,List.nil_append]using H3) F3;simp only[go_sem]at this ⊢;exact this
  ·have bd:q=0:=by omega
   have dz:=bd;have:=al (L.take p) G (by rw[bd];simp) b6 (by rw[bd]at H3 ⊢;simpa only[List.append_assoc,List.take_zero,List.append_nil,List.nil_append]using H3) F3;simp only[go_sem]at this ⊢;exact this
end
end
section
def Srt (r:Nat→Int)(lo:Nat)(S:List Nat):Prop:=S.Perm (List.range' lo S.length)∧S.Pairwise (cK r)
theorem Srt.mem {r:Nat→Int}{lo:Nat}{S:List Nat}(H:Srt r lo S){x:Nat}(A:x∈S):lo≤x∧x<lo+S.length:=by
 have:=H.1.mem_iff.1 A;simpa using this
theorem Srt.join {r:Nat→Int}{lo:Nat}{A D S:List Nat}(h1:Srt r lo A)(G:Srt r (lo+A.length) D)(F:S.Perm (A++D))(I:S.Pairwise (cK r)):Srt r lo S:=by
 refine⟨?_,I⟩;have H:S.length=A.length+D.length:=by rw[F.length_eq,List.length_append]
 refine F.trans ((h1.1.append G.1).trans ?_);rw[H,List.range'_append_1]
inductive BS (r:Nat→Int)(B:Nat):Nat→List Nat→Prop
 |nil (lo:Nat):BS r B lo []
 |last (lo:Nat) (S:List Nat):0<S.length→S.length≤B→Srt r lo S→BS r B lo S
 |cons (lo:Nat) (S T:List Nat):S.length=B→Srt r lo S→BS r B (lo+B) T→BS r B lo (S++T)
theorem BS.one {r:Nat→Int}{B lo:Nat}{Y:List Nat}(F:0<B)(H:BS r B lo Y)(D:B≤Y.length):∃S T,Y=S++T∧S.length=B∧Srt r lo S∧BS r B (lo+B) T:=by
 cases H
 ·simp at D;omega
 ·rename_i h0 h1 A;exact⟨Y,[],by simp,by omega,A,.nil _⟩
 ·rename_i S T h0 h1 A;exact⟨S,T,rfl,h0,h1,A⟩
theorem BS.short {r:Nat→Int}{B lo:Nat}{Y:List Nat}(G:0<B)(H:BS r B lo Y)(D:Y.length≤B)(h0:0<Y.length):Srt r lo Y:=by
 cases H
 ·simp at h0
 ·rename_i h0 h1 A;exact A
 ·rename_i S T F h1 A;have:T=[]:=List.eq_nil_of_length_eq_zero (by simp at D;omega);subst this;simpa using h1
section
variable {v f:Value}{P:af→Prop}{r:Nat→Int}{n:Nat}
theorem UP (C:FT v f P r n){h:af}{N:Nat}(H:di v P n h (List.range' 0 N))(hN:N≤1048576):
  ae prog fR #[v,iv N,f] h λ_ h'=>∃S:List Nat,S.Perm (List.range N)∧S.Pairwise (cK r)∧di v P n h' S∧Fr (blk v) h h':=by
 apply qL;unfold je;refine cO (λd xs h'=>∃(X:List Nat),d=N-X.length∧xs=[iv X.length,iv (X.length+20)]∧X.length≤N∧(∀T,BS r 20 X.length T→BS r 20 0 (X++T))∧di v P n h' (X++List.range' X.length (N-X.length))∧Fr (blk v) h h') N
  ⟨[],rfl,rfl,Nat.zero_le _,λT h=>h,by simpa using H,Fr.refl _ _⟩ ?_
 rintro d xs ρj h1 again ⟨X,rfl,rfl,hX,hT,H1,F1⟩ ay;simp only[gb,uA,JN,ah];refine aj (λh0=>?_) (λh0=>?_)
 ·have er:List.range' X.length (N-X.length)=List.range' X.length 20++List.range' (X.length+20) (N-(X.length+20)):=by
   rw[List.range'_append_1];congr 1;omega
  have H2:di v P n h1 (X++List.range' X.length 20++List.range' (X.length+20) (N-(X.length+20))):=by rw[er]at H1;simpa only[List.append_assoc]using H1
  refine(FP C H2 (a:=X.length) (b:=X.length+20) rfl (by simp) List.pairwise_lt_range').mono λw h2 ⟨M',hp,hs,H3,F2⟩=>?_
  have hM:M'.length=20:=by rw[hp.length_eq];simp
  have W:(X++M').length=X.length+20:=by rw[List.length_append,hM]
  rw[cN,ah,show(20:Int)=((20:Nat):Int)from rfl,qP _ _ (by omega)];refine ay _ h2 (N-(X++M').length) (by omega) ⟨X++M',rfl,by rw[W],by omega,λT F=>?_,by rw[W];exact H3,F1.trans F2⟩;rw[W]at F;rw[List.append_assoc];exact hT _ (.cons _ M' T hM ⟨by rw[hM];exact hp,hs⟩ F)
 ·refine(FP C (A:=X) (M:=List.range' X.length (N-X.length)) (D:=[]) (by simpa using H1) (a:=X.length) (b:=N) rfl (by simp;omega) List.pairwise_lt_range').mono λw h2 ⟨M',hp,hs,H3,F2⟩=>?_
  have hM:M'.length=N-X.length:=by rw[hp.length_eq];simp
  rw[List.append_nil]at H3;have a7:BS r 20 0 (X++M'):=by
   refine hT _ ?_;rcases Nat.eq_zero_or_pos M'.length with h3|h3
   ·rw[List.eq_nil_of_length_eq_zero h3];exact .nil _
   ·exact .last _ _ h3 (by omega) ⟨by rw[hM];exact hp,hs⟩
  have au:(X++M').length=N:=by rw[List.length_append];omega
  generalize X++M'=Y0 at*
  -- blocks that grow
  refine cO (λd xs h'=>∃(B:Nat) (Y:List Nat),d=N-B∧xs=[iv B]∧0<B∧B≤2097152∧Y.length=N∧BS r B 0 Y∧di v P n h' Y∧Fr (blk v) h h') (N-20)
   ⟨20,Y0,rfl,rfl,by omega,by omega,au,a7,H3,F1.trans F2⟩ ?_
  rintro d xs ρj2 h3 U ⟨B,Y,rfl,rfl,hB,a8,aa,hY,H4,F3⟩ an;simp only[gb,bU,ah];refine aj (λh4=>?_) (λh4=>?_)
  ·rw [kr,ah,show(2:Int)*(B:Int)=((2*B:Nat):Int)by omega,w64 (n:=((2*B:Nat):Int)) (by omega) (by omega)];refine cO (λd xs h'=>∃(X Z:List Nat),d=Z.length∧xs=[iv X.length,iv (X.length+2*B)]∧X.length+Z.length=N∧(∀T,BS r (2*B) X.length T→BS r (2*B) 0 (X++T))∧BS r B X.length Z∧di v P n h' (X++Z)∧Fr (blk v) h h') N
    ⟨[],Y,aa.symm,by simp,by simpa using aa,λT h=>h,hY,H4,F3⟩ ?_
   rintro d xs ρj3 h5 aw ⟨X,Z,rfl,rfl,al,ad,hZ,H5,F5⟩ ar;simp only[gb,uA,JN,ah];refine aj (λh6=>?_) (λh6=>?_)
   ·obtain⟨S1,T1,rfl,l1,s1,b1⟩:=hZ.one hB (by omega);rw[List.length_append]at al;obtain⟨S2,T2,rfl,l2,s2,b2⟩:=b1.one hB (by omega);rw[List.length_append]at al;rw[cN,ah,qP _ _ (by omega)];refine(Jt C (S1.length+S2.length) (A:=X) (L:=S1) (R:=S2) (D:=T2) (by simpa only[List.append_assoc]using H5) (a:=X.length) (m:=X.length+B) (b:=X.length+2*B) rfl (by omega) (by omega) (by omega) (by omega) s1.2 s2.2 (λx hx y hy=>by
     have:=s1.mem hx;have:=s2.mem hy;omega) (Nat.le_refl _)).mono λw h7 ⟨S,G,ab,H7,F7⟩=>?_
    have hS:S.length=2*B:=by rw[G.length_eq,List.length_append];omega
    have W:(X++S).length=X.length+2*B:=by rw[List.length_append,hS]
    rw[cN,ah,qP _ _ (by omega)];refine ar _ h7 T2.length (by simp;omega) ⟨X++S,T2,rfl,by rw[W],by rw[W];omega,λT F=>?_,by rw[W,show X.length+2*B=X.length+B+B by omega];exact b2,H7,F5.trans F7⟩;rw[W]at F;rw[List.append_assoc];exact ad _ (.cons _ S T hS (Srt.join s1 (by rw[l1];exact s2) G ab) F)
   ·rw[cN,ah,qP _ _ (by omega),bU,ah];have go:∀(Y':List Nat) (h8:af),Y'.length=N→BS r (2*B) 0 Y'→di v P n h8 Y'→Fr (blk v) h h8→vK (ag .i .mul (iv B) (.int .i64 2)) λax=>U [ax] h8:=by
     intro Y' h8 g1 g2 g3 g4;rw[kr,ah,show(B:Int)*2=((2*B:Nat):Int)by omega,w64 (n:=((2*B:Nat):Int)) (by omega) (by omega)];exact an _ h8 (N-2*B) (by omega) ⟨2*B,Y',rfl,rfl,by omega,by omega,g1,g2,g3,g4⟩
    refine aj (λh8=>?_) (λh8=>?_)
    ·obtain⟨S1,T1,rfl,l1,s1,b1⟩:=hZ.one hB (by omega);rw[List.length_append]at al;have s2:=b1.short hB (by omega) (by omega);refine(Jt C (S1.length+T1.length) (A:=X) (L:=S1) (R:=T1) (D:=[]) (by simpa only[List.append_assoc,List.append_nil]using H5) (a:=X.length) (m:=X.length+B) (b:=N) rfl (by omega) (by omega) (by omega) (by omega) s1.2 s2.2 (λx hx y hy=>by
      have:=s1.mem hx;have:=s2.mem hy;omega) (Nat.le_refl _)).mono λw I ⟨S,G,ab,H7,F7⟩=>?_
     have hS:S.length=S1.length+T1.length:=by rw[G.length_eq,List.length_append]
     rw[List.append_nil]at H7;exact go (X++S) I (by rw[List.length_append];omega) (ad _ (.last _ S (by omega) (by omega) (Srt.join s1 (by rw[l1];exact s2) G ab))) H7 (F5.trans F7)
    ·refine go (X++Z) h5 (by rw[List.length_append];omega) (ad _ ?_) H5 F5;rcases Nat.eq_zero_or_pos Z.length with I|I
     ·rw[List.eq_nil_of_length_eq_zero I];exact .nil _
     ·exact .last _ _ I (by omega) (hZ.short hB (by omega) I)
  ·have:Srt r 0 Y:=by
    rcases Nat.eq_zero_or_pos Y.length with I|I
    ·have:Y=[]:=List.eq_nil_of_length_eq_zero I;subst this;exact⟨by simp,List.Pairwise.nil⟩
    ·exact hY.short hB (by omega) I
   refine⟨Y,?_,this.2,H4,F3⟩;have hp:=this.1;rw[aa]at hp;rw[List.range_eq_range'];exact hp
theorem Na (C:FT v f P r n){h:af}{N:Nat}(H:di v P n h (List.range' 0 N))(F:N≤1048576):
  ae prog dB #[v,f] h λ_ h'=>∃S:List Nat,S.Perm (List.range N)∧S.Pairwise (cK r)∧di v P n h' S∧Fr (blk v) h h':=by
 apply kn;unfold fH;have A:=H.own;rw[List.length_range']at A;obtain⟨a,cap,e⟩:=A.isSl;have D:aq v=some (iv N):=by rw[e];rfl
 rw[D,ah];exact UP C H F
end
end
abbrev KZ:Value:=.int .i64 0
structure Mk3 (n:Nat)(h0:af)(rows:List Value)(vr:Option (Nat×TypeId×Value))(h:af):Prop where
 ext:Ext h0 h
 own:∀r∈rows,Own 1 h r n (List.replicate n KZ)∧∀b,blk r b→h0.size≤b
 dis:rows.Pairwise λr s=>∀b,blk r b→¬blk s b
 var:∀p,vr=some p→h[p.1]? =some (.cells #[p.2.2] p.2.1 (0,0))∧h0.size≤p.1∧∀r∈rows,¬blk r p.1
theorem Mk3.start (n:Nat)(h:af):Mk3 n h [] none h:=⟨Ext.refl _,by simp,List.Pairwise.nil,by simp⟩
theorem Mk3.mkr {n:Nat}{h0 h:af}{rows:List Value}{G:Option (Nat×TypeId×Value)}{t:TypeId}{K:Value→af→Prop}(M:Mk3 n h0 rows G h)(hn:n≤1048576)
  (H:∀v h',Mk3 n h0 (rows++[v]) G h'→K v h'):mkK KZ t 1 8 (.int .i64 (n:Int)) (.int .i64 (n:Int)) h K:=by
 refine lU rfl (by omega) (by omega) λv h' o e f=>H v h' ⟨M.ext.trans e,?_,?_,?_⟩
 ·intro r A;rcases List.mem_append.1 A with A|A
  ·exact⟨(M.own r A).1.fr (M:=λ_=>False) e.fr λ_ _=>id,(M.own r A).2⟩
  ·rw[List.mem_singleton.1 A];exact⟨o,λb D=>Nat.le_trans M.ext.1 (f b D)⟩
 ·rw[List.pairwise_append];refine⟨M.dis,by simp,λr A s W b D F=>?_⟩;rw[List.mem_singleton.1 W]at F;have h1:=(M.own r A).1.lt D;have I:=f b F;omega
 ·intro p L;obtain⟨h1,I,U⟩:=M.var p L;refine⟨e.row h1,I,λr A=>?_⟩;rcases List.mem_append.1 A with A|A
  ·exact U r A
  ·rw[List.mem_singleton.1 A];intro D;have:=f _ D;have:=aW h1;omega
theorem Mk3.nw {n:Nat}{h0 h:af}{rows:List Value}{t:TypeId}{c:Value}{K:Value→af→Prop}(M:Mk3 n h0 rows none h)
  (H:∀b h',Mk3 n h0 rows (some (b,t,c)) h'→K (.pointer (some ⟨b,0,none⟩)) h'):aP #[c] t h K:=by
 refine aC λb h' r e f=>H b h' ⟨M.ext.trans e,λs A=>⟨(M.own s A).1.fr (M:=λ_=>False) e.fr λ_ _=>id,(M.own s A).2⟩,M.dis,?_⟩
 rintro p D;cases D;refine⟨r,Nat.le_trans M.ext.1 f,λs A F=>?_⟩;have:=(M.own s A).1.lt F;simp only at this;omega
theorem Mk3.st {n:Nat}{h0 h:af}{rows:List Value}{t:TypeId}{b:Nat}{c v:Value}{K:Value→af→Prop}(M:Mk3 n h0 rows (some (b,t,c)) h)(L:v∈rows)
  (H:∀h',Mk3 n h0 rows (some (b,t,v)) h'→K undef h'):stK 1 (.pointer (some ⟨b,0,none⟩)) v h K:=by
 obtain⟨h1,D,A⟩:=M.var _ rfl;simp only at h1 D A;obtain⟨a,cap,e⟩:=(M.own v L).1.isSl;refine bK h1 (by simp) (by rw[e];rfl) λh' r u=>H h' ⟨M.ext.upd D u,?_,M.dis,?_⟩
 ·intro s F;exact⟨(M.own s F).1.fr u.fr λk I U=>A s F (U▸I),(M.own s F).2⟩
 ·rintro p G;cases G;exact⟨by simpa using r,D,A⟩
def Xz (n:Nat)(h0:af)(xs:List Value)(h:af):Prop:=
 ∃(x y z:Value) (b:Nat) (t:TypeId),xs=[x,y,.pointer (some ⟨b,0,none⟩)]∧Ext h0 h∧(Own 1 h x n (List.replicate n KZ)∧∀b,blk x b→h0.size≤b)∧(Own 1 h y n (List.replicate n KZ)∧∀b,blk y b→h0.size≤b)∧
  (Own 1 h z n (List.replicate n KZ)∧∀b,blk z b→h0.size≤b)∧(∀b,blk x b→¬blk y b)∧(∀b,blk x b→¬blk z b)∧(∀b,blk y b→¬blk z b)∧
  h[b]? =some (.cells #[z] t (0,0))∧h0.size≤b∧¬blk x b∧¬blk y b∧¬blk z b
theorem Mk3.made {n:Nat}{h0 h:af}{rows:List Value}{t:TypeId}{b:Nat}{z:Value}(M:Mk3 n h0 rows (some (b,t,z)) h)(i j k:Nat){x y:Value}(A:rows[i]? =some x)(D:rows[j]? =some y)(H:rows[k]? =some z)(h1:i≠j)(h2:i≠k)(h3:j≠k):
  Xz n h0 [x,y,.pointer (some ⟨b,0,none⟩)] h:=by
 obtain⟨v1,W,G⟩:=M.var _ rfl;simp only at v1 W G;have dis:∀(i j:Nat) (x y:Value),rows[i]? =some x→rows[j]? =some y→i≠j→∀b,blk x b→¬blk y b:=by
  intro i j x y A D aa b hb F;obtain⟨I,ei⟩:=List.getElem?_eq_some_iff.1 A;obtain⟨L,U⟩:=List.getElem?_eq_some_iff.1 D;rcases Nat.lt_or_ge i j with h|h
  ·have:=List.pairwise_iff_getElem.1 M.dis i j I L h b (by rw[ei];exact hb);rw[U]at this;exact this F
  ·have:=List.pairwise_iff_getElem.1 M.dis j i L I (by omega) b (by rw[U];exact F);rw[ei]at this;exact this hb
 exact⟨x,y,z,b,t,rfl,M.ext,M.own x (List.mem_of_getElem? A),M.own y (List.mem_of_getElem? D),M.own z (List.mem_of_getElem? H),dis i j x y A D h1,dis i k x z A H h2,dis j k y z D H h3,v1,W,G x (List.mem_of_getElem? A),G y (List.mem_of_getElem? D),G z (List.mem_of_getElem? H)⟩
theorem Own.at_map {h:af}{v:Value}{n:Nat}{g:Nat→Int}(H:Own 1 h v n ((List.range n).map λi=>Value.int .i64 (g i))){k:IntKind}{i:Nat}(hi:i<n):
  ∃p,aR 1 v (.int k (i:Int))=some p∧ldV h p=some (.int .i64 (g i))∧∀(x:Int) (K:Value→af→Prop),
   (∀h',Own 1 h' v n ((List.range n).map λj=>Value.int .i64 (if j=i then x else g j))→Fr (blk v) h h'→K undef h')→stK 1 p (.int .i64 x) h K:=by
 obtain⟨p,h1,F,D⟩:=Own.at1 H (k:=k) hi;refine⟨p,h1,by rw[F];simp,λx K A=>D _ _ rfl λh' o f _=>A h' ?_ f⟩;rw[Be _ _ _ _ hi]at o;have e:(λj=>if j=i then Value.int .i64 x else Value.int .i64 (g j))=λj=>Value.int .i64 (if j=i then x else g j):=by
  funext j;split<;>rfl
 rw[e]at o;exact o
theorem Gv (n:Nat):List.replicate n KZ=(List.range n).map λi=>Value.int .i64 ((λ_=>0:Nat→Int) i):=by
 apply List.ext_getElem<;>simp
theorem Tg {h:af}{a b:Int}:ae prog ki #[.int .i64 a,.int .i64 b] h λr h'=>(∃c:Int,r=.int .i64 c∧(c<0↔a<b))∧h'=h:=by
 have A:∀{x:Int} {h:af},ae prog jr #[.int .i64 x] h λr h'=>r=.bool false∧h'=h:=by
  intro x h;apply BV;unfold rW
  try simp only[go_sem]
  exact⟨by simp,by simp⟩
 apply yV;unfold pe;refine A.mono λF h1 ⟨D,w1⟩=>?_
 subst D w1;refine A.mono λF h1 ⟨D,w1⟩=>?_
 subst D w1
 try simp only[go_sem]
 refine aj (λh0=>⟨⟨-1,rfl,by omega⟩,by first|rfl|trivial⟩) (λh0=>?_);refine aj (λh0=>⟨⟨1,rfl,by omega⟩,by first|rfl|trivial⟩) (λh0=>⟨⟨0,rfl,by omega⟩,by first|rfl|trivial⟩)
def Xx (b:Nat)(t:TypeId)(z:Value)(n:Nat)(r:Nat→Int)(h:af):Prop:=h[b]? =some (.cells #[z] t (0,0))∧Own 1 h z n ((List.range n).map λi=>Value.int .i64 (r i))
theorem UJ {v z:Value}{b n:Nat}{t:TypeId}{r:Nat→Int}(h1:¬blk v b)(h2:∀b,blk v b→¬blk z b):FT v (.func (.func kc) #[] #[.pointer (some ⟨b,0,none⟩)]) (Xx b t z n r) r n where
 call:=λ{h a c K} ⟨D,A⟩ W hc H=>by
  rw[clK_2];apply yL;unfold oQ;obtain⟨p,e1,G,_⟩:=Own.at_map A (k:=.i64) W;obtain⟨q,e3,L,_⟩:=Own.at_map A (k:=.i64) hc;have F:ldV h (.pointer (some ⟨b,0,none⟩))=some z:=by rw[qR,ai D];rfl
  refine aI (λh'=>h'=h) rfl ?_;refine ao z (λh' e=>by rw[e];exact F) ?_;simp only[go_sem,e3];refine ao _ (λh' e=>by rw[e];exact L) ?_;refine ao z (λh' e=>by rw[e];exact F) ?_;simp only[go_sem,e1];refine ao _ (λh' e=>by rw[e];exact G) ?_;refine Tg.mono λw h' ⟨⟨m,e,U⟩,hh⟩=>?_
  subst e hh;exact H m U
 fr:=λ{h h'} ⟨D,A⟩ f=>⟨f.row D h1,A.fr f λk I hb=>h2 k hb I⟩
theorem VP {l:List Int}{S:List Nat}(G:S.Perm (List.range l.length))(I:S.Pairwise (cK (df l))){k i:Nat}(H:k<S.length)(hi:i<l.length):(if(jX (df l) l.length i:Int)<((k+1:Nat):Int)then(1:Int)else 0)=if i=S[k]then(if(jX (df l) l.length i:Int)<(k:Int)then(1:Int)else 0)+1 else if(jX (df l) l.length i:Int)<(k:Int)then 1 else 0:=by
 have F:=Fy G I H;have D:S[k]<l.length:=by have:=G.mem_iff.1 (List.getElem_mem H);simpa using this
 by_cases A:i=S[k]
 ·rw[if_pos A,A,F,if_pos (by omega),if_neg (by omega)];rfl
 ·rw[if_neg A];have:jX (df l) l.length i≠k:=λe=>A (Dn hi D (e.trans F.symm))
  by_cases h:jX (df l) l.length i<k
  ·rw[if_pos (by omega),if_pos (by omega)]
  ·rw[if_neg (by omega),if_neg (by omega)]
theorem zu {Z:Nat→Prop}{h:af}{v:Value}{l:List Int}(H:SlI Z h v l)(U:∀x∈l,I64 x)(hl:l.length<4611686018427387904):
  ae prog ij #[v] h λr h'=>∃u,r=.tuple #[u,.int .i64 (ck l)]∧New (Rp.int .i64) h h' u (bN l):=by
 apply Dp;unfold tj;refine(Pb H U hl).mono λv1 h1 ⟨e1,w1⟩=>?_
 subst e1 w1;obtain⟨a,cap,e⟩:=H.isSl;have e2:aq v=some (.int .i64 (l.length:Int)):=by rw[e];rfl
 simp only[vH,ah];unfold bN;by_cases hc:¬ck l=0
 ·have q:(ck l=0)=False:=eq_false hc;rw[if_neg hc];simp only[go_sem,q];exact⟨_,rfl,New.nil (Ext.refl _)⟩
 have hc:ck l=0:=Decidable.of_not_not hc;have G:=Um U hc;have q:(ck l=0)=True:=eq_true hc;rw[if_pos hc];simp only[go_sem,q];refine(LK H U hl).mono λv1 h1 ⟨e1,w1⟩=>?_
 subst e1 w1;have hn:=G.len;refine aV (Xz l.length h1) ?_ ?_
 ·refine aI (Ext h1) (Ext.refl _) ?_;refine ao _ (λh' _=>e2) ?_;refine ao _ (λh' _=>e2) ?_;refine ao _ (λh' _=>e2) ?_;have M0:=Mk3.start l.length h1
  repeat' first
   |exact Mk3.ext ‹Mk3 _ _ _ _ _›
   |exact Mk3.made ‹Mk3 _ _ _ _ _› 0 1 2 rfl rfl rfl (by decide) (by decide) (by decide)
   |exact Mk3.made ‹Mk3 _ _ _ _ _› 0 2 1 rfl rfl rfl (by decide) (by decide) (by decide)
   |exact Mk3.made ‹Mk3 _ _ _ _ _› 1 0 2 rfl rfl rfl (by decide) (by decide) (by decide)
   |exact Mk3.made ‹Mk3 _ _ _ _ _› 1 2 0 rfl rfl rfl (by decide) (by decide) (by decide)
   |exact Mk3.made ‹Mk3 _ _ _ _ _› 2 0 1 rfl rfl rfl (by decide) (by decide) (by decide)
   |exact Mk3.made ‹Mk3 _ _ _ _ _› 2 1 0 rfl rfl rfl (by decide) (by decide) (by decide)
   |refine And.intro ?_ ?_
   |refine Mk3.mkr ‹Mk3 _ _ _ _ _› hn λv' h' M=>?_
   |refine Mk3.nw ‹Mk3 _ _ _ _ _› λb' h' M=>?_
   |refine Mk3.st ‹Mk3 _ _ _ _ _› (by simp) λh' M=>?_
 rintro xs ρj I ⟨x,y,z,b,t,rfl,E2,⟨ox,fx⟩,⟨oy,fy⟩,⟨oz,fz⟩,F,an,W,hb,cb,nx,ny,nz⟩;simp only[gb,uA,V5,e2,ah];have s1:=G.sum;have ar:=ND l
 -- quotients and rests
 refine bA l.length 0 (λk (_:Unit)=>[.int .i64 (sq l k),.int .i64 (k:Int)]) (λk _ h'=>Ext h1 h'∧Own 1 h' x l.length ((List.range l.length).map λi=>Value.int .i64 (if i<k then fg l i else 0))∧
   Own 1 h' y l.length ((List.range l.length).map λi=>Value.int .i64 (if i<k then(i:Int)else 0))∧Own 1 h' z l.length ((List.range l.length).map λi=>Value.int .i64 (if i<k then df l i else 0))∧h'[b]? =some (.cells #[z] t (0,0))) () rfl (Nat.zero_le _)
  ⟨E2,by rw[Gv]at ox;simpa using ox,by rw[Gv]at oy;simpa using oy,by rw[Gv]at oz;simpa using oz,hb⟩ λk _ h3 again ρj2 _ hk ⟨E3,o1,o2,o3,D⟩ bc=>?_
 try simp only[go_sem]
 refine aj (λh0=>?_) (λh0=>?_)
 ·have A:k<l.length:=by omega
  have H3:=H.ext E3;obtain⟨p,e3,e4⟩:=H3.int_at (k':=.i64) A;simp only[go_sem,e3,e4];have eg:l.getD k 0=l[k]:=by simp[List.getD_eq_getElem?_getD,A]
  have L:=G.small k;rw[eg]at L;refine aI (λh'=>h'[b]? =some (.cells #[z] t (0,0))) D ?_;refine ao z (λh' e=>by rw[ai e];rfl) ?_;rw[w64 (n:=l[k]*16384) (by omega) (by omega)];refine(GC (by unfold I64;omega) ar).mono λv1 h4 ⟨e5,w5⟩=>?_
  subst e5 w5;refine⟨D,?_⟩;rw[nM (by unfold I64;omega) (by omega)];refine(Vd (by unfold I64;omega) ar (by omega)).mono λv1 h4 ⟨e5,w5⟩=>?_
  subst e5 w5;refine⟨D,?_⟩;have eb:l[k]*16384/kN l=fg l k:=by unfold fg;rw[eg]
  have er:l[k]*16384%kN l=df l k:=by unfold df;rw[eg]
  rw[eb,er];obtain⟨px,x1,x2,x3⟩:=Own.at_map o1 (k:=.i64) A;simp only[go_sem,x1];refine x3 _ _ λh5 bv f5=>?_
  have b0:=o3.fr f5 λc hc L=>an c L hc
  have b1:=o2.fr f5 λc hc L=>F c L hc
  have au:=f5.row D nx;refine⟨au,?_⟩;obtain⟨pz,z1,z2,z3⟩:=Own.at_map b0 (k:=.i64) A;simp only[go_sem,z1];refine z3 _ _ λh6 b5 f6=>?_
  have b4:=b1.fr f6 λc hc hz=>W c hc hz
  have a8:=bv.fr f6 λc hc hz=>an c hc hz
  have bo:=f6.row au nz;obtain⟨py,y1,y2,y3⟩:=Own.at_map b4 (k:=.i64) A;simp only[go_sem,y1];refine y3 _ _ λh7 b2 f7=>?_
  have ad:=a8.fr f7 λc hc hy=>F c hc hy
  have bk:=b5.fr f7 λc hc hy=>W c hy hc
  have be:=f7.row bo ny;obtain⟨ca,aa,ab,_⟩:=Own.at_map ad (k:=.i64) A;rw[x1]at aa;cases aa;simp only[if_true]at ab;have bd:=vI G k;have b7:=IM G k;simp only[go_sem,x1,ab];rw[w64 (n:=sq l k-fg l k) (by omega) (by omega),w64 (n:=(k:Int)+1) (by omega) (by omega)];have E7:Ext h1 h7:=((E3.then_fr f5 fx).then_fr f6 fz).then_fr f7 fy;refine bc () h7 A ⟨E7,?_,?_,?_,be⟩
  ·have e:(List.range l.length).map (λj=>Value.int .i64 (if j=k then fg l k else if j<k then fg l j else 0))=(List.range l.length).map λi=>Value.int .i64 (if i<k+1 then fg l i else 0):=bE λi _=>by
    congr 1
    by_cases h1:i=k
    ·subst h1;simp
    ·rw[if_neg h1];by_cases I:i<k
     ·rw[if_pos I,if_pos (by omega)]
     ·rw[if_neg I,if_neg (by omega)]
   rw[←e];exact ad
  ·have e:(List.range l.length).map (λj=>Value.int .i64 (if j=k then(k:Int)else if j<k then(j:Int)else 0))=(List.range l.length).map λi=>Value.int .i64 (if i<k+1 then(i:Int)else 0):=bE λi _=>by
    congr 1
    by_cases h1:i=k
    ·subst h1;simp
    ·rw[if_neg h1];by_cases I:i<k
     ·rw[if_pos I,if_pos (by omega)]
     ·rw[if_neg I,if_neg (by omega)]
   rw[←e];exact b2
  ·have e:(List.range l.length).map (λj=>Value.int .i64 (if j=k then df l k else if j<k then df l j else 0))=(List.range l.length).map λi=>Value.int .i64 (if i<k+1 then df l i else 0):=bE λi _=>by
    congr 1
    by_cases h1:i=k
    ·subst h1;simp
    ·rw[if_neg h1];by_cases I:i<k
     ·rw[if_pos I,if_pos (by omega)]
     ·rw[if_neg I,if_neg (by omega)]
   rw[←e];exact bk
 ·have a9:k=l.length:=by omega
  subst a9;have o1:Own 1 h3 x l.length ((List.range l.length).map λi=>Value.int .i64 (fg l i)):=by
   rw[←bE (g:=λi=>Value.int .i64 (if i<l.length then fg l i else 0)) (λi hi=>by rw[if_pos hi])];exact o1
  have o3:Own 1 h3 z l.length ((List.range l.length).map λi=>Value.int .i64 (df l i)):=by
   rw[←bE (g:=λi=>Value.int .i64 (if i<l.length then df l i else 0)) (λi hi=>by rw[if_pos hi])];exact o3
  have o2:Own 1 h3 y (List.range' 0 l.length).length ((List.range' 0 l.length).map iv):=by
   rw[List.length_range',←List.range_eq_range',←bE (g:=λi=>Value.int .i64 (if i<l.length then(i:Int)else 0)) (λi hi=>by rw[if_pos hi])];exact o2
  have IX:di y (Xx b t z l.length (df l)) l.length h3 (List.range' 0 l.length):=⟨o2,⟨D,o3⟩,by simpa using hl,λi hi=>by simpa using hi⟩
  refine(Na (UJ ny W) IX hn).mono λw h4 ⟨S,hp,hs,bg,f4⟩=>?_
  obtain⟨L0,L1⟩:=left_bd G;obtain⟨m,hm⟩:∃m:Nat,vC l=(m:Int):=⟨(vC l).toNat,by omega⟩
  have b8:S.length=l.length:=by rw[hp.length_eq];simp
  obtain⟨v',q1,q2,q3⟩:=K7 1 bg.own (k:=.i64) (hi:=m) (by omega);have o1:=o1.fr f4 λc hc hy=>F c hc hy
  have ay:sq l l.length=(m:Int):=hm;rw[ay,q1,ah];obtain⟨a',b6,e'⟩:=q2.isSl;have a7:aq v'=some (.int .i64 (m:Int)):=by rw[e'];rfl
  rw[a7,ah];refine bA m 0 (λk (_:Unit)=>[.int .i64 (k:Int)]) (λk _ h'=>Ext h1 h'∧Own 1 h' x l.length ((List.range l.length).map λi=>Value.int .i64 (fg l i+(if(jX (df l) l.length i:Int)<(k:Int)then 1 else 0)))∧Fr (blk x) h4 h') () rfl (Nat.zero_le _)
   ⟨E3.then_fr f4 fy,by
    rw[bE (f:=λi=>Value.int .i64 (fg l i)) (λi hi=>by rw[if_neg (by omega),Int.add_zero])];exact o1,Fr.refl _ _⟩ λk _ h5 ax ρj5 _ hk ⟨E5,o5,f5⟩ aw=>?_
  try simp only[go_sem]
  refine aj (λh6=>?_) (λh6=>?_)
  ·have A:k<m:=by omega
   have q5:=q2.fr f5 λc _ hc L=>F c L (q3 c hc)
   obtain⟨p,p1,p2⟩:=q5.at1 (k:=.i64) A;have al:k<S.length:=by omega
   have p2:ldV h5 p=some (iv S[k]):=by
    rw[p2];simp
   have b3:S[k]<l.length:=by have:=hp.mem_iff.1 (List.getElem_mem al);simpa using this
   obtain⟨px,x1,x2,x3⟩:=Own.at_map o5 (k:=.i64) b3;simp only[go_sem,p1,p2,x1,x2];have bd:=vI G S[k];rw[w64 (n:=fg l S[k]+(if(jX (df l) l.length S[k]:Int)<(k:Int)then 1 else 0)+1) (by split<;>omega) (by split<;>omega)];refine x3 _ _ λh7 o7 f7=>?_
   rw[w64 (n:=(k:Int)+1) (by omega) (by omega)];refine aw () h7 A ⟨E5.then_fr f7 fx,?_,f5.trans f7⟩;rw[bE (f:=λj=>Value.int .i64 (if j=S[k]then fg l S[k]+(if(jX (df l) l.length S[k]:Int)<(k:Int)then 1 else 0)+1 else fg l j+if(jX (df l) l.length j:Int)<(k:Int)then 1 else 0)) (λi hi=>by
    rw[VP hp hs al hi]
    congr 1
    by_cases he:i=S[k]
    ·rw[if_pos he,if_pos he,←he];omega
    ·rw[if_neg he,if_neg he])]
   exact o7
  ·have:k=m:=by omega
   subst this;refine⟨x,by rw[hc],⟨(kM l).map λn=>Value.int .i64 n,?_,λc _=>id,λi hi=>?_⟩,E5,fx⟩
   ·rw[nB];unfold kM;rw[List.map_map];simp only[←hm]at o5;exact o5
   ·have e:Rp.el (Rp.int .i64).w ((kM l).map λn=>Value.int .i64 n) i=[Value.int .i64 (kM l)[i]]:=by
     have:=Rp.el_one (ds:=(kM l).map λn=>Value.int .i64 n) (i:=i) (by simpa using hi);rw[List.getElem_map]at this;exact this
    exact e
theorem Th {h:af}{x y:Nat}(A:x<18446744073709551616)(D:y<18446744073709551616):
  ae prog qi #[.int .u64 (x:Int),.int .u64 (y:Int)] h λr h'=>r=.tuple #[.int .u64 ((x*y/18446744073709551616:Nat):Int),.int .u64 ((x*y%18446744073709551616:Nat):Int)]∧h'=h:=by
 apply EC;unfold vl;rw[cf];refine(Nk A D).mono λv h1 ⟨e,w⟩=>?_
 subst e w
 try simp only[go_sem]
 exact⟨by simp,by simp⟩
theorem TP (n:Nat)(x:Int):List.replicate n (Value.int .i64 x)=(List.replicate n x).map λn=>Value.int .i64 n:=by simp
theorem Rv {k:IntKind}{h:af}{v:Value}{l:List Int}(H:Own 1 h v l.length (l.map λn=>Value.int k n)):Rp.Ow (Rp.int k) (λ_=>False) h v l:=
 ⟨l.map λn=>Value.int k n,H,λc _=>id,λi hi=>by
  have:=Rp.el_one (ds:=l.map λn=>Value.int k n) (i:=i) (by simpa using hi);rw[List.getElem_map]at this;exact this⟩
theorem Tl {Z:Nat→Prop}{h:af}{v:Value}{x:Int}{n:Nat}(H:SlI Z h v [x])(U:1≤n)(ar:n≤4096):
  ae prog eI #[v,.int .i64 (n:Int)] h λr h'=>New (Rp.int .i64) h h' r (List.replicate n x):=by
 apply mJ;unfold gL;have F:((n:Int)<0)=False:=eq_false (by omega);simp only[go_sem,F];refine aV (λ_ h'=>h'=h) rfl λI ρj h' e=>?_
 subst e;obtain⟨ds,hs,hz,he⟩:=H;have aa:=hs.1;have hd:ds=[Value.int .i64 x]:=by
  have h1:=he 0 (by simp);have W:ds.length=1:=by simpa[Rp.int]using aa
  obtain⟨d,rfl⟩:=List.length_eq_one_iff.1 W;exact h1
 subst hd;obtain⟨a,cap,ev⟩:=hs.isSl;have e2:aq v=some (.int .i64 ((1:Nat):Int)):=by rw[ev];rfl
 simp only[go_sem,e2];rw[eO (by omega),eO (m:=n) (by omega)];refine(Th (x:=1) (y:=n) (by omega) (by omega)).mono λw h1 ⟨e,hh⟩=>?_
 subst e hh
 try simp only[go_sem]
 rw[show 1*n/18446744073709551616=0 by omega,show 1*n%18446744073709551616=n by omega];refine aV (λ_ h'=>h'=h1) ?_ λI ρj2 h2 e=>?_
 ·refine aj (λh0=>absurd h0 (by omega)) (λ_=>rfl)
 subst e
 try simp only[go_sem]
 rw[w64 (n:=(n:Int)) (by omega) (by omega)];refine lU rfl (by omega) (by omega) λu h3 o e f=>?_
 have ad:SlC 1 h3 v 1 [Value.int .i64 x]:=hs.ext e;refine D0 o ad (by simp[aJ]) λh4 o4 f4 z4=>?_
 have E4:Ext h2 h4:=e.then_fr f4 f;have D:Nat.min 1 n=1:=Nat.min_eq_left U;rw[D];obtain⟨a2,al,eu⟩:=o4.isSl;have e3:aq u=some (.int .i64 (n:Int)):=by rw[eu];rfl
 have st:Own 1 h4 u n (List.replicate 1 (Value.int .i64 x)++List.replicate (n-1) (.int .i64 0)):=by
  have e:[Value.int .i64 x].take n++(List.replicate n (Value.int .i64 0)).drop 1=List.replicate 1 (Value.int .i64 x)++List.replicate (n-1) (.int .i64 0):=by
   rw[List.take_of_length_le (by simpa using U),List.drop_replicate];rfl
  rw[←e];exact o4
 refine cO (λd I h'=>∃m:Nat,d=n-m∧I=[.int .i64 (m:Int)]∧1≤m∧m≤n∧Ext h2 h'∧Own 1 h' u n (List.replicate m (Value.int .i64 x)++List.replicate (n-m) (.int .i64 0))) (n-1) ⟨1,rfl,rfl,Nat.le_refl _,U,E4,st⟩ ?_;rintro d I ρj3 h5 again ⟨m,rfl,rfl,an,ab,E5,o5⟩ L;simp only[gb,e3,ah,bU];refine aj (λh0=>?_) (λh0=>?_)
 ·refine aI (λh'=>h'=h5) rfl ?_;obtain⟨w,w1,G,w3⟩:=K7 1 o5 (k:=.i64) (hi:=m) ab;have G:SlC 1 h5 w m (List.replicate m (Value.int .i64 x)):=by
   have e:(List.replicate m (Value.int .i64 x)++List.replicate (n-m) (Value.int .i64 0)).take (m*1)=List.replicate m (Value.int .i64 x):=by
    rw[Nat.mul_one,List.take_append_of_le_length (by simp),List.take_of_length_le (by simp)]
   rw[e]at G;exact G
  obtain⟨d,d1,d2⟩:=UH o5 (show m<n by omega) G (λy hy=>by rw[(List.mem_replicate.1 hy).2];rfl) (kk:=.i64);rw[d1,ah,w1,ah];refine d2 _ λh6 o6 f6=>?_
  have A:Nat.min m (n-m)=min m (n-m):=rfl;rw[A,cN,ah,w64 (by omega) (by omega),show(m:Int)+((min m (n-m):Nat):Int)=((m+min m (n-m):Nat):Int)by omega];refine L _ h6 (n-(m+min m (n-m))) (by omega) ⟨m+min m (n-m),rfl,rfl,by omega,by omega,E5.then_fr f6 f,?_⟩;have e:(List.replicate m (Value.int .i64 x)++List.replicate (n-m) (Value.int .i64 0)).take m++(List.replicate m (Value.int .i64 x)).take (n-m)++(List.replicate m (Value.int .i64 x)++List.replicate (n-m) (Value.int .i64 0)).drop (m+m)
    =List.replicate (m+min m (n-m)) (Value.int .i64 x)++List.replicate (n-(m+min m (n-m))) (.int .i64 0):=by
   rw[List.take_append_of_le_length (by simp),List.take_of_length_le (by simp),List.take_replicate,List.drop_append,List.drop_eq_nil_of_le (by simp),List.nil_append,List.drop_replicate,List.length_replicate,List.replicate_append_replicate,Nat.min_comm]
   congr 2;omega
  rw[←e];exact o6
 ·have:m=n:=by omega
  subst this;refine⟨Rv ?_,E5,f⟩;rw[List.length_replicate,←TP];simpa using o5
def qV (r:Int):Prop:=r<0∨511<r
instance (r:Int):Decidable (qV r):=by unfold qV;infer_instance
def L5 (r:Int):Int:=if qV r then 7 else xN (List.replicate (2*r+1).toNat 1)
def vG (r:Int):List Int:=if qV r then[]else oN (List.replicate (2*r+1).toNat 1)
theorem L4 (r:Int):∀x∈vG r,I64 x:=by
 unfold vG;split
 ·simp
 ·exact Ed _
theorem Yt {h:af}{r:Int}(U:I64 r):ae prog zF #[.int .i64 r] h λw h'=>∃u,w=.tuple #[u,.int .i64 (L5 r)]∧New (Rp.int .i64) h h' u (vG r):=by
 apply Mv;unfold CL
 try simp only[go_sem]
 unfold L5 vG;refine aj (λh0=>?_) (λh0=>?_)
 ·have:qV r:=h0;rw[if_pos this,if_pos this];exact⟨_,rfl,New.nil (Ext.refl _)⟩
 ·have D:¬qV r:=h0;rw[if_neg D,if_neg D];refine cz (Rp.fill_one rfl) λb h1 r1 H n1=>?_
  rw[w64 (n:=2*r) (by omega) (by omega)]
  try simp only[go_sem]
  rw[w64 (n:=2*r+1) (by omega) (by omega)];have L:SlI (λ_=>True) h1 (.slice (some ⟨b,0,none⟩) 1 1) [1]:=⟨[Value.int .i64 1],Rp.SlC.single (cs:=[Value.int .i64 1]) r1,λ_ _ _=>trivial,λi hi=>by
   have:i=0:=by simpa using hi
   subst this;rfl⟩
  obtain⟨N,I⟩:∃N:Nat,N=(2*r+1).toNat:=⟨_,rfl⟩
  rw[←I,show 2*r+1=(N:Int)by omega];refine(Tl L (n:=N) (by omega) (by omega)).mono λv h2 A=>?_
  refine(Cl A.sl (λx F=>by rw[(List.mem_replicate.1 F).2];unfold I64;omega) (by rw[List.length_replicate];omega)).mono λw W ⟨u,e,G⟩=>?_
  subst e
  try simp only[go_sem]
  exact⟨u,rfl,G.before (H.trans A.2.1)⟩
end Go.Proofs.YtjljhnandbbldaaGreatDoor
namespace Go.Crisp
open Go
theorem fo (c:Array Value):aF c []=some c:=rfl
theorem wD {a b x y:Value}(A:aJ a=true)(D:aJ b=true):aF #[x,y] [(0,1,a),(1,1,b)]=some #[a,b]:=by
 simp only[aF,bT A,bT D];rfl
theorem RI {a x y z w:Value}(A:aJ a=true):aF #[x,y,z,w] [(0,1,a)]=some #[a,y,z,w]:=by
 simp only[aF,bT A];rfl
def bu (ls:List (Int×List Int)):Int:=ls.foldl (λm x=>max m (x.2.length:Int)) 0
def GR (ls:List (Int×List Int)):Int:=ls.foldl (λm x=>max m (kP x.2)) 0
theorem BZ (ls:List (Int×List Int))(x:Int×List Int):bu (ls++[x])=max (bu ls) (x.2.length:Int):=by unfold bu;rw[List.foldl_append];rfl
theorem PR (ls:List (Int×List Int))(x:Int×List Int):GR (ls++[x])=max (GR ls) (kP x.2):=by unfold GR;rw[List.foldl_append];rfl
def km:Rp (Int×List Int) where
 w:=2
 R:=λZ h cs x=>∃v,cs=[.int .i64 x.1,v]∧Rp.Sl (Rp.int .i64) Z h v x.2
 len:=by rintro _ _ _ _ ⟨v,rfl,_⟩;rfl
 one:=by
  rintro _ _ _ _ ⟨v,rfl,H⟩ u hu;rcases List.mem_cons.1 hu with rfl|hu
  ·rfl
  ·rw[List.mem_singleton.1 hu];exact H.one
 fr:=by rintro _ _ _ _ _ _ ⟨v,rfl,H⟩ f q;exact⟨v,rfl,H.fr f q⟩
 mono:=by rintro _ _ _ _ _ ⟨v,rfl,H⟩ q;exact⟨v,rfl,H.mono q⟩
def Vs (v:Value):Prop:=∃a n c,v=.slice a n c∧n≤c
theorem Rp.Ow.cap {α:Type}{e:Rp α}{Z:Nat→Prop}{h:af}{v:Value}{l:List α}(H:Rp.Ow e Z h v l):Vs v:=by
 obtain⟨ds,o,_⟩:=H;rcases o with⟨rfl,_,_⟩|⟨b,cap,r,e,rfl,hc,_⟩
 ·exact⟨_,_,_,rfl,Nat.le_refl _⟩
 ·exact⟨_,_,_,rfl,hc⟩
structure Tbl where
 n:Int
 lines:List (Int×List Int)
def rTbl:Rp Tbl where
 w:=4
 R:=λZ h cs t=>∃lv,cs=[.int .i64 t.n,lv,.int .i64 (bu t.lines),.int .i64 (GR t.lines)]∧Rp.Sl km Z h lv t.lines∧Vs lv
 len:=by rintro _ _ _ _ ⟨v,rfl,_⟩;rfl
 one:=by
  rintro _ _ _ _ ⟨v,rfl,H,_⟩;exact ak rfl (ak H.one (ak rfl (ak rfl aQ)))
 fr:=by rintro _ _ _ _ _ _ ⟨v,rfl,H,c⟩ f q;exact⟨v,rfl,H.fr f q,c⟩
 mono:=by rintro _ _ _ _ _ ⟨v,rfl,H,c⟩ q;exact⟨v,rfl,H.mono q,c⟩
abbrev dY (Z:Nat→Prop)(h:af)(p:Value)(t:Tbl):Prop:=Rp.Pt rTbl Z h p t
theorem dY.open {Z:Nat→Prop}{h:af}{p:Value}{t:Tbl}(H:dY Z h p t):∃b lv,p=.pointer (some ⟨b,0,none⟩)∧aB h ⟨b,0,none⟩=some (.int .i64 t.n)∧aB h ⟨b,1,none⟩=some lv∧aB h ⟨b,2,none⟩=some (.int .i64 (bu t.lines))∧
  aB h ⟨b,3,none⟩=some (.int .i64 (GR t.lines))∧Rp.Sl km Z h lv t.lines∧Z b∧b<h.size∧Vs lv:=by
 obtain⟨b,ds,ty,rfl,r,A,lv,rfl,D,hc⟩:=H;exact⟨b,lv,rfl,ai r,ai r,ai r,ai r,D,A,aW r,hc⟩
structure Bq (h0:af)(Z:Nat→Prop)(h:af)(b:Nat)(ty:TypeId)(lv:Value)(n:Int)(ls:List (Int×List Int)):Prop where
 ext:Ext h0 h
 row:h[b]? =some (.cells #[.int .i64 n,lv,.int .i64 (bu ls),.int .i64 (GR ls)] ty (0,0))
 ow:Rp.Ow km Z h lv ls
 nb:h0.size≤b
 nl:∀c,blk lv c→h0.size≤c
 zb:¬Z b
 lb:¬blk lv b
 zf:∀c,Z c→h0.size≤c∧c<h.size
theorem Bq.more {h0 h:af}{Z Z':Nat→Prop}{b:Nat}{ty:TypeId}{lv:Value}{n:Int}{ls:List (Int×List Int)}{h':af}(T:Bq h0 Z h b ty lv n ls)(e:Ext h h')(q:∀c,Z c→Z' c)(D:∀c,Z' c→¬Z c→h.size≤c∧c<h'.size):Bq h0 Z' h' b ty lv n ls where
 ext:=T.ext.trans e
 row:=e.row T.row
 ow:=(T.ow.ext e).mono (λc _ A=>q c A) λc hc A=>by
  by_cases h1:Z c
  ·obtain⟨ds,_,F,_⟩:=T.ow;exact F c hc h1
  ·have:=D c A h1;have:=T.ow.lt hc;omega
 nb:=T.nb
 nl:=T.nl
 zb:=λA=>by
  by_cases h1:Z b
  ·exact T.zb h1
  ·have:=D b A h1;have:=aW T.row;omega
 lb:=T.lb
 zf:=λc A=>by
  by_cases h1:Z c
  ·have:=T.zf c h1;have:=e.1;omega
  ·have:=D c A h1;have:=T.ext.1;omega
theorem Bq.done {h0 h:af}{Z:Nat→Prop}{b:Nat}{ty:TypeId}{lv:Value}{n:Int}{ls:List (Int×List Int)}(T:Bq h0 Z h b ty lv n ls):dY (λc=>h0.size≤c∧c<h.size) h (.pointer (some ⟨b,0,none⟩)) ⟨n,ls⟩:=
 ⟨b,[_,_,_,_],ty,rfl,T.row,⟨T.nb,aW T.row⟩,lv,rfl,T.ow.sl.mono λc _ hc=>by
  rcases hc with hc|hc
  ·exact T.zf c hc
  ·exact⟨T.nl c hc,T.ow.lt hc⟩,T.ow.cap⟩
end Go.Crisp
namespace Go.Proofs.YtjljhnandbbldaaGreatDoor
open Go Go.Crisp
attribute [local irreducible] ae cE aP stK aA vK qK bC gK dK aU mkK cF Ch DH zZ bsK clK
open _root_.Go.Proofs.Tryz
theorem zj {h:af}{n:Int}:ae prog mh #[.int .i64 n] h λr h'=>r=.bool (decide (1≤n∧n≤65536))∧h'=h:=by
 apply Kj;unfold AE
 try simp only[go_sem]
 exact⟨by simp,by simp⟩
theorem Js {h0 h:af}{Z:Nat→Prop}{b:Nat}{ty:TypeId}{lv u:Value}{n first:Int}{ls:List (Int×List Int)}{l:List Int}(T:Bq h0 Z h b ty lv n ls)(H:SlI Z h u l)(aa:∀x∈l,I64 x)(hl:l.length<1048577)(ab:ls.length≤65536):
  ae prog jp #[.pointer (some ⟨b,0,none⟩),.int .i64 first,u] h λ_ h'=>∃D,Bq h0 Z h' b ty D n (ls++[(first,l)])∧Fr (λc=>c=b∨blk lv c) h h':=by
 apply BH;unfold rF;have c1:aB h ⟨b,1,none⟩=some lv:=ai T.row;obtain⟨au,cu,eu⟩:=H.isSl;have L:aq u=some (.int .i64 (l.length:Int)):=by rw[eu];rfl
 simp only[go_sem,c1,wD (a:=.int .i64 first) (b:=u) rfl H.one,Option.map_some];refine Rp.push_ow (e:=km) (cs:=[.int .i64 first,u]) (x:=(first,l)) T.ow ⟨u,rfl,H⟩ rfl rfl (by omega) (by omega) (λc hc=>(T.zf c hc).2) λD h1 o1 f1 n1=>?_
 have r1:=f1.row T.row T.lb;have G:¬blk D b:=λhb=>by
  rcases n1 b hb with A|A
  ·exact T.lb A
  ·have:=aW T.row;omega
 obtain⟨al,cl,el⟩:=o1.isSl
 try simp only[go_sem]
 refine bK r1 (by simp) (by rw[el];rfl) λA r2 u2=>?_
 have c2:aB A ⟨b,2,none⟩=some (.int .i64 (bu ls)):=ai r2;simp only[go_sem,c2,L];refine bK r2 (by simp) rfl λI r3 u3=>?_
 have c3:aB I ⟨b,3,none⟩=some (.int .i64 (GR ls)):=ai r3;refine aI (λh'=>h'=I) rfl ?_
 try simp only[go_sem]
 refine ao _ (λh' e=>by rw[e];exact c3) ?_;have F3:Fr (λc=>c=b∨blk lv c) h I:=((f1.mono λc _ hc=>.inr hc).trans (u2.fr.mono λc _ hc=>.inl hc)).trans (u3.fr.mono λc _ hc=>.inl hc);have H3:SlI Z I u l:=H.fr F3 λc hc F U=>by
  rcases U with rfl|U
  ·exact T.zb F
  ·obtain⟨ds,_,A,_⟩:=T.ow;exact A c U F
 refine(FN H3 aa (by omega)).mono λw h4 ⟨e4,w4⟩=>?_
 subst e4 w4;refine⟨rfl,?_⟩;refine ao _ (λh' _=>IG _ _ _) ?_;refine bK r3 (by simp) rfl λh5 r5 u5=>?_
 have W:=F3.trans (u5.fr.mono (M':=λc=>c=b∨blk lv c) λc _ hc=>.inl hc);refine⟨D,⟨?_,?_,?_,T.nb,?_,T.zb,G,?_⟩,W⟩
 ·exact T.ext.then_fr W λc hc=>by
   rcases hc with rfl|hc
   ·exact T.nb
   ·exact T.nl c hc
 ·rw[BZ,PR];simpa using r5
 ·have g:Fr (λc=>c=b) h1 h5:=(u2.fr.trans u3.fr).trans u5.fr;exact o1.fr g (λc _ F he=>T.zb (he▸F)) λc hc he=>G (he▸hc)
 ·intro c hc;rcases n1 c hc with A|A
  ·exact T.nl c A
  ·exact Nat.le_trans T.ext.1 A
 ·intro c F;have:=T.zf c F;have:=W.1;omega
end Go.Proofs.YtjljhnandbbldaaGreatDoor
namespace Go.Proofs.YtjljhnandbbldaaGreatDoor
open Go Go.Crisp
attribute [local irreducible] ae cE aP stK aA vK qK bC gK dK aU mkK cF Ch DH zZ bsK
open _root_.Go.Proofs.Tryz
abbrev Two (h:af)(b:Nat)(t:TypeId)(x y:Value):Prop:=h[b]? =some (.cells #[x,y] t (0,0))
theorem Two.a {h:af}{b:Nat}{t:TypeId}{x y:Value}(r:Two h b t x y):aB h ⟨b,0,none⟩=some x:=ai r
theorem Two.b {h:af}{b:Nat}{t:TypeId}{x y:Value}(r:Two h b t x y):aB h ⟨b,1,none⟩=some y:=ai r
theorem Two.all {h:af}{b:Nat}{t:TypeId}{x y:Value}(r:Two h b t x y):aH 2 h (.pointer (some ⟨b,0,none⟩))=some (.agg #[x,y]):=aM (l:=[x,y]) r 2 rfl
abbrev Big (h:af)(b:Nat)(t:TypeId)(n:Nat):Prop:=Two h b t (.int .u64 ((n/18446744073709551616:Nat):Int)) (.int .u64 ((n%18446744073709551616:Nat):Int))
theorem Big.all {h:af}{b:Nat}{t:TypeId}{n:Nat}(r:Big h b t n):aH 2 h (.pointer (some ⟨b,0,none⟩))=some (l9 n):=Two.all r
theorem fP (n:Nat):Value.cells (l9 n)=#[.int .u64 ((n/18446744073709551616:Nat):Int),.int .u64 ((n%18446744073709551616:Nat):Int)]:=rfl
theorem z8 {n:Nat}(h:n<18446744073709551616):l9 n=.agg #[.int .u64 0,.int .u64 (n:Int)]:=by
 unfold l9;rw[Nat.div_eq_of_lt h,Nat.mod_eq_of_lt h];rfl
theorem zS:l9 0=.agg #[.int .u64 0,.int .u64 0]:=rfl
theorem vx:l9 1=.agg #[.int .u64 0,.int .u64 1]:=rfl
theorem gG {t:TypeId}{b:Nat}{h:af}{x y:Value}{n:Nat}{K:Value→af→Prop}(r:Two h b t x y)(A:∀h',Big h' b t n→Upd b h h'→K undef h'):stK 2 (.pointer (some ⟨b,0,none⟩)) (l9 n) h K:=
 ch (l:=[.int .u64 ((n/18446744073709551616:Nat):Int),.int .u64 ((n%18446744073709551616:Nat):Int)]) r rfl (ak rfl (ak rfl aQ)) rfl A
theorem ji {t:TypeId}{h:af}{n:Nat}{K:Value→af→Prop}(H:∀b h',Big h' b t n→Ext h h'→h.size≤b→K (.pointer (some ⟨b,0,none⟩)) h'):aP #[.int .u64 0,.int .u64 0] t h λv D=>stK 2 v (l9 n) D λ_ A=>K v A:=
 cD (cs:=[.int .u64 ((n/18446744073709551616:Nat):Int),.int .u64 ((n%18446744073709551616:Nat):Int)]) rfl (ak rfl (ak rfl aQ)) rfl H
theorem jk {a b x y:Int}:aF #[(.int .u64 x),(.int .u64 y)] [(0,1,(.int .u64 a)),(1,1,(.int .u64 b))]=some #[.int .u64 a,.int .u64 b]:=wD rfl rfl
theorem Wq {b x y:Int}:aF #[(.int .u64 x),(.int .u64 y)] [(1,1,(.int .u64 b))]=some #[.int .u64 x,.int .u64 b]:=by
 simp only[aF,bT (v:=.int .u64 b) rfl];rfl
theorem bi (c:Array Value):(some c).map Value.agg=some (.agg c):=rfl
theorem D6 {n:Nat}{x y:Int}(A:x=((n/18446744073709551616:Nat):Int))(D:y=((n%18446744073709551616:Nat):Int)):(Value.agg #[.int .u64 x,.int .u64 y])=l9 n:=by rw[A,D];rfl
theorem lh {h:af}{n bit:Nat}(hb:bit≤1)(U:2*n+bit<340282366920938463463374607431768211456):
  ae prog dO #[l9 n,.int .u64 (bit:Int)] h λr h'=>r=l9 (2*n+bit)∧Ext h h':=by
 apply HM;unfold xW;rw[fP];refine aC λI h1 r1 D n1=>?_
 refine aC λL h2 r2 A H=>?_
 have r1:=A.row r1;simp only[go_sem,Two.a r1,Two.b r1];rw[show(1:Int)=((1:Nat):Int)from rfl,show(63:Int)=((63:Nat):Int)from rfl,tg _ (by omega),ah,kA _ (by omega),ah,cN,ah,tg _ (by omega),ah,cN,ah,jk,bi,ah];rw[D6 (n:=2*n+bit) (by rw[dF];omega) (by rw[dF];omega)];refine gG r2 λW G F=>?_
 rw[G.all,ah];exact⟨rfl,(D.trans A).upd (Nat.le_trans D.1 H) F⟩
theorem zo {h:af}{m n:Nat}(hn:m+n<340282366920938463463374607431768211456):
  ae prog gv #[l9 m,l9 n] h λr h'=>r=l9 (m+n)∧Ext h h':=by
 apply Kz;unfold AT;rw[fP,fP];refine aC λb1 h1 r1 e1 n1=>?_
 refine aC λb2 h2 r2 F n2=>?_
 refine aC λb3 h3 A G n3=>?_
 have r1:=(F.trans G).row r1;have r2:=G.row r2;have l3:=aW A;simp only[go_sem,Two.a r1,Two.b r1,Two.a r2,Two.b r2];rw[jk,bi,ah];refine aC λW h4 r4 e4 n4=>?_
 refine ch (l:=[_,_]) r4 rfl (ak rfl (ak rfl aQ)) rfl λh5 D u5=>?_
 have U:=e4.upd n4 u5;have r1:=U.row r1;have A:=U.row A;simp only[dF]at D;simp only[go_sem,Two.a D,Two.b D,Two.b r1,dF];have e0:=e1.trans (F.trans (G.trans U));have k3:h.size≤b3:=Nat.le_trans (e1.trans F).1 n3;have k4:h.size≤W:=Nat.le_trans (e1.trans (F.trans G)).1 n4;have H:b3≠W:=by omega
 refine aj (λhc=>?_) (λhc=>?_)
 ·refine bK D (by simp) rfl λh6 L u6=>?_
  have A:=u6.row H A;have L:Two h6 W _ (.int .u64 _) (.int .u64 _):=L;rw[Two.all L,ah];rw[D6 (n:=m+n) (by omega) (by omega)];refine gG A λh7 r7 I=>?_
  rw[r7.all,ah];exact⟨rfl,(e0.upd k4 u6).upd k3 I⟩
 ·rw[Two.all D,ah];rw[D6 (n:=m+n) (by omega) (by omega)];refine gG A λh7 r7 I=>?_
  rw[r7.all,ah];exact⟨rfl,e0.upd k3 I⟩
theorem LP {h:af}{m n:Nat}(hm:m<340282366920938463463374607431768211456)(hn:n≤m):
  ae prog oE #[l9 m,l9 n] h λr h'=>r=l9 (m-n)∧Ext h h':=by
 apply HU;unfold xZ;rw[fP,fP];refine aC λb1 h1 r1 e1 n1=>?_
 refine aC λb2 h2 r2 F n2=>?_
 refine aC λb3 h3 A G n3=>?_
 have r1:=(F.trans G).row r1;have r2:=G.row r2;have l3:=aW A;simp only[go_sem,Two.a r1,Two.b r1,Two.a r2,Two.b r2];rw[jk,bi,ah];refine aC λW h4 r4 e4 n4=>?_
 refine ch (l:=[_,_]) r4 rfl (ak rfl (ak rfl aQ)) rfl λh5 D u5=>?_
 have H:=e4.upd n4 u5;have r1:=H.row r1;have r2:=H.row r2;have A:=H.row A;simp only[dF]at D;simp only[go_sem,Two.a D,Two.b D,Two.b r1,Two.b r2,dF];have e0:=e1.trans (F.trans (G.trans H));have k3:h.size≤b3:=Nat.le_trans (e1.trans F).1 n3;have k4:h.size≤W:=Nat.le_trans (e1.trans (F.trans G)).1 n4;have I:b3≠W:=by omega
 refine aj (λhc=>?_) (λhc=>?_)
 ·refine bK D (by simp) rfl λh6 U u6=>?_
  have A:=u6.row I A;have U:Two h6 W _ (.int .u64 _) (.int .u64 _):=U;rw[Two.all U,ah];rw[D6 (n:=m-n) (by omega) (by omega)];refine gG A λh7 r7 L=>?_
  rw[r7.all,ah];exact⟨rfl,(e0.upd k4 u6).upd k3 L⟩
 ·rw[Two.all D,ah];rw[D6 (n:=m-n) (by omega) (by omega)];refine gG A λh7 r7 L=>?_
  rw[r7.all,ah];exact⟨rfl,e0.upd k3 L⟩
theorem zq {h:af}{m n:Nat}:ae prog iL #[l9 m,l9 n] h λr h'=>r=.bool (decide (m<n))∧Ext h h':=by
 apply KB;unfold AV;rw[fP,fP];refine aC λG h1 r1 D L=>?_
 refine aC λH I r2 A F=>?_
 have r1:=A.row r1;simp only[go_sem,Two.a r1,Two.b r1,Two.a r2,Two.b r2];refine aj (λhc=>?_) (λhc=>?_)
 ·exact⟨by congr 1;exact decide_eq_decide.2 (by omega),D.trans A⟩
 ·exact⟨by congr 1;exact decide_eq_decide.2 (by omega),D.trans A⟩
theorem Fc {a:Nat}(A:a<18446744073709551616):ag .i .and (.int .u64 (a:Int)) (.int .u64 1)=some (.int .u64 ((a%2:Nat):Int)):=by
 have:=No A (b:=1) (by omega);rw[Nat.and_one_is_mod]at this;exact this
theorem Ae {h:af}{m i:Nat}(I:m<340282366920938463463374607431768211456)(hi:i<128):ae prog gw #[l9 m,.int .i64 (i:Int)] h λr h'=>r=.int .u64 ((m/2^i%2:Nat):Int)∧Ext h h':=by
 apply MH;unfold CY;rw[fP];refine aC λH h1 r1 D L=>?_
 simp only[go_sem,Two.a r1,Two.b r1];refine aj (λhc=>?_) (λhc=>?_)
 ·rw[w64 (n:=(i:Int)-64) (by omega) (by omega),show(i:Int)-64=((i-64:Nat):Int)by omega,kA _ (by omega),ah];rw[Fc (Nat.lt_of_le_of_lt (Nat.div_le_self _ _) (by omega)),ah];refine⟨?_,D⟩;have e:m/2^i=m/18446744073709551616/2^(i-64):=by
   rw[Nat.div_div_eq_div_mul,show(18446744073709551616:Nat)=2^64 from rfl,←Nat.pow_add,show 64+(i-64)=i by omega]
  rw[e]
 ·rw [kA _ (by omega),ah];rw[Fc (Nat.lt_of_le_of_lt (Nat.div_le_self _ _) (Nat.mod_lt _ (by omega))),ah];refine⟨?_,D⟩;have F:(0:Nat)<2^i:=Nat.pow_pos (by omega);have A:(18446744073709551616:Nat)=2^i*(2*2^(63-i)):=by rw[←Nat.pow_succ',←Nat.pow_add,show i+(63-i+1)=64 by omega]
  have D:m/2^i=m/18446744073709551616*(2*2^(63-i))+m%18446744073709551616/2^i:=by
   have e:=Nat.div_add_mod m 18446744073709551616;have G:m=m%18446744073709551616+2^i*(m/18446744073709551616*(2*2^(63-i))):=by
    have:2^i*(m/18446744073709551616*(2*2^(63-i)))=18446744073709551616*(m/18446744073709551616):=by
     conv=>rhs;rw[A]
     rw[Nat.mul_left_comm,Nat.mul_comm,←A]
    rw[this];omega
   conv=>lhs;rw[G]
   rw[Nat.add_mul_div_left _ _ F,Nat.add_comm]
  rw[D,Nat.mul_left_comm,Nat.mul_add_mod]
theorem pM {h:af}{x:Int}(A:I64 x):ae prog eT #[.int .i64 x] h λr h'=>r=.int .u64 (x.natAbs:Int)∧h'=h:=by
 apply Ky;unfold AS;simp only[go_sem,dF,gF];unfold I64 at A;refine aj (λh0=>?_) (λh0=>?_)
 ·exact⟨by congr 1;omega,trivial⟩
 ·exact⟨by congr 1;omega,trivial⟩
theorem lY {h:af}{m:Nat}{b:Bool}(F:m<340282366920938463463374607431768211456):ae prog da #[l9 m,.bool b] h λr h'=>r=.int .i64 (iB m b)∧Ext h h':=by
 apply KC;unfold AW;rw[fP];refine aC λD h1 r1 A G=>?_
 unfold iB;cases b
 ·simp only[go_sem,Two.a r1,Two.b r1,Bool.false_eq_true,if_false];refine aj (λh0=>?_) (λh0=>?_)
  ·rw[if_pos (by omega)];exact⟨rfl,A⟩
  ·rw[if_neg (by omega),w64 (by omega) (by omega)];exact⟨by congr 1;omega,A⟩
 ·simp only[go_sem,Two.a r1,Two.b r1,if_true];refine aj (λh0=>?_) (λh0=>?_)
  ·rw[if_pos (by omega)];exact⟨rfl,A⟩
  ·rw[w64 (n:=((m%18446744073709551616:Nat):Int)) (by omega) (by omega),w64 (by omega) (by omega)];refine⟨?_,A⟩
   congr 1
   split<;>omega
theorem DJ {a b:Nat}(D:a<18446744073709551616)(A:b<18446744073709551616):a*b<340282366920938463463374607431768211456:=by
 have:=Nat.mul_lt_mul'' D A;exact this
theorem LO {h:af}{a b:Nat}(U:a<18446744073709551616)(I:b<18446744073709551616):
  ae prog oD #[.int .u64 (a:Int),.int .u64 (b:Int)] h λr h'=>r=l9 (a*b)∧Ext h h':=by
 apply HN;unfold xX;refine aC λb1 h1 r1 e1 n1=>?_
 have l1:=aW r1;rw[aF,bi,ah,←zS];refine ji (n:=0) λb2 h2 r2 e2 n2=>?_
 refine bA (α:=Unit) 64 0 (λi _=>[.int .i64 (63-(i:Int))]) (λi _ h'=>Big h' b2 351 (a*(b/2^(64-i)))∧Ext h1 h') () rfl (by omega) ⟨by rw[Nat.div_eq_of_lt I];exact r2,e2⟩ λi _ h3 again ρj _ hi ⟨D,W⟩ H=>?_
 simp only[go_sem];have L:b/2^(64-i)≤b:=Nat.div_le_self _ _;have hm:=DJ U (Nat.lt_of_le_of_lt L I);refine aj (λh0=>?_) (λh0=>?_)
 ·have hi:i<64:=by omega
  have hv:=OL b (63-i);rw[show 63-i+1=64-i by omega]at hv;have F:a*(b/2^(63-i))=2*(a*(b/2^(64-i)))+a*(b/2^(63-i)%2):=by
   conv=>lhs;rw[hv]
   rw[Nat.mul_add,Nat.mul_left_comm]
  have G:=DJ U (Nat.lt_of_le_of_lt (Nat.div_le_self b (2^(63-i))) I);have H:=λh'=>H () h' hi
  rw[show 64-(i+1)=63-i by omega,F]at H;rw[F]at G;generalize a*(b/2^(64-i))=p at*;rw[D.all,ah];refine(lh (n:=p) (bit:=0) (by omega) (by omega)).mono λv h4 ⟨e,e4⟩=>?_
  subst e;have D:=e4.row D;refine gG D λh5 r5 u5=>?_
  have e5:Ext h1 h5:=(W.trans e4).upd n2 u5;rw[show(63:Int)-(i:Int)=((63-i:Nat):Int)by omega,kA _ (by omega),ah];rw[Fc (Nat.lt_of_le_of_lt (Nat.div_le_self _ _) I),ah,sG,ah];refine aj (λA=>?_) (λA=>?_)
  ·have A:b/2^(63-i)%2=1:=by omega
   rw[A,Nat.mul_one]at G H;rw[r5.all,ah,jk,bi,ah,←z8 U];refine(zo (m:=2*p+0) (n:=a) (by omega)).mono λv A ⟨e,e6⟩=>?_
   subst e;refine gG (e6.row r5) λh7 r7 u7=>?_
   rw[w64 (by omega) (by omega)];have:=H h7 ⟨r7,(e5.trans e6).upd n2 u7⟩;rw[show(63:Int)-((i+1:Nat):Int)=((63-i:Nat):Int)-1 by omega]at this;exact this
  ·have A:b/2^(63-i)%2=0:=by omega
   rw[A,Nat.mul_zero]at H;rw[w64 (by omega) (by omega)];have:=H h5 ⟨r5,e5⟩;rw[show(63:Int)-((i+1:Nat):Int)=((63-i:Nat):Int)-1 by omega]at this;exact this
 ·have:i=64:=by omega
  subst this;rw[show b/2^(64-64)=b by simp]at D;rw[D.all,ah];refine gG (W.row r1) λh4 r4 u4=>?_
  rw[r4.all,ah];exact⟨rfl,(e1.trans W).upd n1 u4⟩
theorem Pj {h:af}{m d:Nat}(hm:m<340282366920938463463374607431768211456)(hd:d<18446744073709551616)(al:0<d):
  ae prog rj #[l9 m,.int .u64 (d:Int)] h λr h'=>r=.tuple #[l9 (m/d),.int .u64 ((m%d:Nat):Int)]∧Ext h h':=by
 apply KA;unfold AU;rw[fP];refine aC λb1 h1 r1 e1 n1=>?_
 refine aC λb2 h2 r2 e2 n2=>?_
 have r1:=e2.row r1;have l1:=aW r1;have l2:=aW r2;rw[aF,bi,ah,←zS];refine ji (n:=0) λb3 h3 A e3 n3=>?_
 have l3:=aW A;rw[ah];refine ji (n:=0) λb4 h4 D e4 n4=>?_
 rw[sG,ah,show decide ((d:Int)=0)=false from decide_eq_false (by omega),cf];have ar:Ext h h4:=e1.trans (e2.trans (e3.trans e4));have k2:h.size≤b2:=Nat.le_trans e1.1 n2;have k3:h.size≤b3:=Nat.le_trans (e1.trans e2).1 n3;have k4:h.size≤b4:=Nat.le_trans (e1.trans (e2.trans e3)).1 n4;refine bA (α:=Unit) 128 0 (λi _=>[.int .i64 (127-(i:Int))]) (λi _ h'=>Big h' b1 351 m∧Two h' b2 351 (.int .u64 0) (.int .u64 0)∧Big h' b3 351 (m/2^(128-i)/d)∧Big h' b4 351 (m/2^(128-i)%d)∧Ext h h')
  () rfl (by omega) ?_ λi _ h5 again ρj _ hi ⟨r1,r2,A,D,e5⟩ H=>?_
 ·have q:m/2^(128-0)=0:=Nat.div_eq_of_lt (Nat.lt_of_lt_of_le hm (by decide));rw[q,Nat.zero_div,Nat.zero_mod];exact⟨(e3.trans e4).row r1,(e3.trans e4).row r2,e4.row A,D,ar⟩
 simp only[go_sem];have hr:m/2^(128-i)%d<d:=Nat.mod_lt _ al;refine aj (λh0=>?_) (λh0=>?_)
 ·have hi:i<128:=by omega
  have H:=λh'=>H () h' hi
  have hv:=OL m (127-i);rw[show 127-i+1=128-i by omega]at hv;rw[show 128-(i+1)=127-i by omega]at H;have hb:m/2^(127-i)%2≤1:=by omega
  have hs:=So (n:=m/2^(128-i)) al rfl rfl hb;rw[←hv]at hs;rw[hs.1,hs.2]at H;have hq:2*(m/2^(128-i)/d)+(if d≤2*(m/2^(128-i)%d)+m/2^(127-i)%2 then 1 else 0)<340282366920938463463374607431768211456:=by
   rw[←hs.1];exact Nat.lt_of_le_of_lt (Nat.le_trans (Nat.div_le_self _ _) (Nat.div_le_self _ _)) hm
  rw[show(127:Int)-((i+1:Nat):Int)=((127-i:Nat):Int)-1 by omega]at H;rw[show(127:Int)-(i:Int)=((127-i:Nat):Int)by omega];have aa:∀h',ae prog gw #[l9 m,.int .i64 ((127-i:Nat):Int)] h' λr aw=>r=.int .u64 ((m/2^(127-i)%2:Nat):Int)∧Ext h' aw:=λh'=>Ae hm (by omega)
  generalize m/2^(127-i)%2=bit at*;generalize m/2^(128-i)/d=q at*;generalize m/2^(128-i)%d=r at*;refine aI (Ext h5) (Ext.refl _) ?_;refine ao _ (λh' e=>Big.all (e.row D)) ?_;refine ao _ (λh' e=>Big.all (e.row r1)) ?_;refine(aa h5).mono λv h6 ⟨e,e6⟩=>?_
  subst e;refine⟨e6,?_⟩;refine(lh (n:=r) (bit:=bit) hb (by omega)).mono λv h7 ⟨e,e7⟩=>?_
  subst e;have G:=e6.trans e7;refine gG (G.row D) λh8 D u8=>?_
  have r1:=u8.row (by omega) (G.row r1);have r2:=u8.row (by omega) (G.row r2);have A:=u8.row (by omega) (G.row A);have e8:=(e5.trans G).upd k4 u8;rw[Big.all A,ah];refine(lh (n:=q) (bit:=0) (by omega) (by omega)).mono λv h9 ⟨e,e9⟩=>?_
  subst e;refine gG (e9.row A) λay A L=>?_
  have r1:=L.row (by omega) (e9.row r1);have r2:=L.row (by omega) (e9.row r2);have D:=L.row (by omega) (e9.row D);have an:=(e8.trans e9).upd k3 L;rw[Big.all D,ah,jk,bi,ah,←z8 hd];refine zq.mono λv ax ⟨e,I⟩=>?_
  subst e;have r1:=I.row r1;have r2:=I.row r2;have A:=I.row A;have D:=I.row D;have ad:=an.trans I;rw[Ri,ah,RK];refine aj (λhc=>?_) (λhc=>?_)
  ·rw[if_pos (by omega),if_pos (by omega)]at H;rw[if_pos (by omega)]at hq;rw[Big.all D,ah,ah];refine(LP (m:=2*r+bit) (n:=d) (by omega) (by omega)).mono λv a7 ⟨e,F⟩=>?_
   subst e;refine gG (F.row D) λa8 D U=>?_
   have r1:=U.row (by omega) (F.row r1);have r2:=U.row (by omega) (F.row r2);have A:=U.row (by omega) (F.row A);have au:=(ad.trans F).upd k4 U;simp only[go_sem,Two.b A];refine bK A (by simp) rfl λab A W=>?_
   have A:Two ab b3 _ (.int .u64 _) (.int .u64 _):=A;have r1:=W.row (by omega) r1;have r2:=W.row (by omega) r2;have D:=W.row (by omega) D;rw[w64 (by omega) (by omega)];refine H ab ⟨r1,r2,?_,D,au.upd k3 W⟩;have a1:(((2*q+0)/18446744073709551616:Nat):Int)=(((2*q+1)/18446744073709551616:Nat):Int):=by omega
   have a2:IntKind.u64.wrap ((((2*q+0)%18446744073709551616:Nat):Int)+1)=(((2*q+1)%18446744073709551616:Nat):Int):=by rw[dF];omega
   rw[a1,a2]at A;exact A
  ·rw[if_neg (by omega),if_neg (by omega)]at H;rw[w64 (by omega) (by omega)];exact H ax ⟨r1,r2,A,D,ad⟩
 ·have:i=128:=by omega
  subst this;rw[show m/2^(128-128)=m by simp]at A D hr;refine aI (λh'=>Two h' b4 351 (.int .u64 ((m%d/18446744073709551616:Nat):Int)) (.int .u64 ((m%d%18446744073709551616:Nat):Int))∧(Big h' b3 351 (m/d))) ⟨D,A⟩ ?_;refine ao _ (λh' e=>Big.all e.2) ?_;simp only[go_sem];refine ao _ (λh' e=>Two.b e.1) ?_;refine gG r2 λh6 r6 u6=>?_
  refine⟨⟨u6.row (by omega) D,u6.row (by omega) A⟩,?_⟩;rw[r6.all,ah];refine⟨?_,e5.upd k2 u6⟩;rw[Nat.mod_eq_of_lt (Nat.lt_trans hr hd)]
end Go.Proofs.YtjljhnandbbldaaGreatDoor
namespace Go.Crisp
def upS (m n:Nat)(below:Bool):Bool:=if below then decide (2^(n-1)<m%2^n)else decide (2^(n-1)≤m%2^n)
theorem Sg {x:Int}{n:Nat}(hx:I64 x)(h1:1≤n)(h2:n≤64):
  iB (x.natAbs/2^n+(if upS x.natAbs n (decide (x<0))then 1 else 0)) (decide (x<0))=lH x n:=by
 obtain⟨b1,b2⟩:=hx;have ab:(0:Nat)<2^(n-1):=Nat.pow_pos (by omega);have U:2^n=2*2^(n-1):=by
  obtain⟨j,rfl⟩:∃j,n=j+1:=⟨n-1,by omega⟩
  rw[Nat.add_sub_cancel,Nat.pow_succ,Nat.mul_comm]
 have W:(2:Int)^n=2*((2^(n-1):Nat):Int):=by
  rw[show(2:Int)^n=((2^n:Nat):Int)by simp,U];simp
 have L:(2:Int)^(n-1)=((2^(n-1):Nat):Int):=by simp
 have H:64≤n→9223372036854775808≤2^(n-1):=λh=>by rw[show n=64 by omega];decide
 have hq:x.natAbs/2^n≤4611686018427387904:=by
  rw[U];refine Nat.le_trans (Nat.div_le_div_left (c:=2) (by omega) (by omega)) ?_;omega
 have hs:lH x n=if(64:Int)≤n then 0 else x/2^n+x/2^(n-1)%2:=by
  unfold lH;rw[if_neg (by omega),Int.toNat_natCast]
 rw[hs,W,L];unfold upS;have hm:=Nat.div_add_mod x.natAbs (2^n);have hr:=Nat.mod_lt x.natAbs (show 0<2^n by omega);rw[U]at hm hr hq ⊢;generalize an:x.natAbs/(2*2^(n-1))=q at*;generalize al:x.natAbs%(2*2^(n-1))=r at*;generalize 2^(n-1)=p at*;have aa:(2*p)*q=2*(p*q):=Nat.mul_assoc _ _ _;rw[aa]at hm;have ci:((p*q:Nat):Int)=(p:Int)*q:=Int.natCast_mul _ _;by_cases G:x<0
 ·rw [decide_eq_true G];simp only[if_true,decide_eq_true_eq];unfold iB
  try simp only[if_true]
  by_cases D:(64:Int)≤n
  ·rw[if_pos D];have:=H (by omega);have I:q=0:=by
    rcases Nat.eq_zero_or_pos q with h|h
    ·exact h
    ·have:=Nat.le_mul_of_pos_right p h;omega
   subst I;rw[if_neg (show¬p<r by omega),if_neg (by omega)];rfl
  ·rw [if_neg D,if_neg (by split<;>omega)];by_cases ad:r=0
   ·have e:x=0+2*(p:Int)*(-(q:Int)):=by rw[Int.mul_assoc,Int.mul_neg];omega
    have F:x=0+(p:Int)*(-(2*(q:Int))):=by rw[Int.mul_neg,Int.mul_left_comm];omega
    have d1:x/(2*(p:Int))= -(q:Int):=by
     conv=>lhs;rw[e]
     rw[Int.add_mul_ediv_left _ _ (by omega)];simp
    have d2:x/(p:Int)= -(2*(q:Int)):=by
     conv=>lhs;rw[F]
     rw[Int.add_mul_ediv_left _ _ (by omega)];simp
    rw[d1,d2];rw[if_neg (by omega)];omega
   ·have e:x=(2*p-r:Int)+2*(p:Int)*(-(q:Int)-1):=by rw[Int.mul_assoc,Int.mul_sub,Int.mul_neg];omega
    have d1:x/(2*(p:Int))= -(q:Int)-1:=by
     conv=>lhs;rw[e]
     rw[Int.add_mul_ediv_left _ _ (by omega),Int.ediv_eq_zero_of_lt (by omega) (by omega)];simp
    by_cases A:p<r
    ·have F:x=(2*p-r:Int)+(p:Int)*(2*(-(q:Int)-1)):=by rw[Int.mul_left_comm,Int.mul_sub,Int.mul_neg];omega
     have d2:x/(p:Int)=2*(-(q:Int)-1):=by
      conv=>lhs;rw[F]
      rw[Int.add_mul_ediv_left _ _ (by omega),Int.ediv_eq_zero_of_lt (by omega) (by omega)];simp
     rw[d1,d2,if_pos A];omega
    ·have F:x=(p-r:Int)+(p:Int)*(2*(-(q:Int)-1)+1):=by rw[Int.mul_add,Int.mul_left_comm,Int.mul_sub,Int.mul_neg];omega
     have d2:x/(p:Int)=2*(-(q:Int)-1)+1:=by
      conv=>lhs;rw[F]
      rw[Int.add_mul_ediv_left _ _ (by omega),Int.ediv_eq_zero_of_lt (by omega) (by omega)];simp
     rw[d1,d2,if_neg A];omega
 ·rw [decide_eq_false G];simp only[Bool.false_eq_true,if_false,decide_eq_true_eq];unfold iB
  try simp only[Bool.false_eq_true,if_false]
  rw[if_neg (by split<;>omega)];by_cases D:(64:Int)≤n
  ·rw[if_pos D];have:=H (by omega);have I:q=0:=by
    rcases Nat.eq_zero_or_pos q with h|h
    ·exact h
    ·have:=Nat.le_mul_of_pos_right p h;omega
   subst I;rw[if_neg (by omega)];rfl
  ·rw[if_neg D];have e:x=(r:Int)+2*(p:Int)*(q:Int):=by rw[Int.mul_assoc];omega
   have d1:x/(2*(p:Int))=(q:Int):=by
    conv=>lhs;rw[e]
    rw[Int.add_mul_ediv_left _ _ (by omega),Int.ediv_eq_zero_of_lt (by omega) (by omega)];simp
   by_cases A:p≤r
   ·have F:x=(r-p:Int)+(p:Int)*(2*(q:Int)+1):=by rw[Int.mul_add,Int.mul_left_comm];omega
    have d2:x/(p:Int)=2*(q:Int)+1:=by
     conv=>lhs;rw[F]
     rw[Int.add_mul_ediv_left _ _ (by omega),Int.ediv_eq_zero_of_lt (by omega) (by omega)];simp
    rw[d1,d2,if_pos A];omega
   ·have F:x=(r:Int)+(p:Int)*(2*(q:Int)):=by rw[Int.mul_left_comm];omega
    have d2:x/(p:Int)=2*(q:Int):=by
     conv=>lhs;rw[F]
     rw[Int.add_mul_ediv_left _ _ (by omega),Int.ediv_eq_zero_of_lt (by omega) (by omega)];simp
    rw[d1,d2,if_neg A];omega
theorem Sm (m n i:Nat):m%2^n+m/2^i*2^i=m%2^n+m/2^(i+1)*2^(i+1)+m/2^i%2*2^i:=by
 have:=OL m i
 conv=>lhs;rw[this]
 rw[Nat.add_mul,Nat.pow_succ,Nat.mul_assoc 2,Nat.mul_left_comm 2,Nat.mul_comm 2];omega
theorem Uc (m i:Nat):m%2^(i+1)=m%2^i+m/2^i%2*2^i:=by
 rw[Nat.pow_succ,Nat.mod_mul,Nat.mul_comm]
end Go.Crisp
namespace Go.Proofs.YtjljhnandbbldaaGreatDoor
open Go Go.Crisp
attribute [local irreducible] ae cE aP stK aA vK qK bC gK dK aU mkK cF Ch DH zZ bsK
open _root_.Go.Proofs.Tryz
theorem Pk {h:af}{m d:Nat}{bl:Bool}(hm:m<340282366920938463463374607431768211456)(hd:d<18446744073709551616)(H:0<d):
  ae prog qg #[l9 m,.int .u64 (d:Int),.bool bl] h λr h'=>r=.int .i64 (iB (ub m d bl) bl)∧Ext h h':=by
 apply Ez;unfold vh;rw[fP];refine aC λb1 h1 r1 e1 n1=>?_
 rw[Big.all r1,ah];refine(Pj hm hd H).mono λv h2 ⟨e,e2⟩=>?_
 subst e;simp only[go_sem];refine ji (n:=m/d) λb2 h3 r3 e3 n3=>?_
 have hr:m%d<d:=Nat.mod_lt _ H;rw[jk,bi,ah,←z8 (n:=m%d) (by omega)];refine(lh (n:=m%d) (bit:=0) (by omega) (by omega)).mono λv h4 ⟨e,e4⟩=>?_
 subst e;refine ji (n:=2*(m%d)+0) λb3 h5 r5 e5 n5=>?_
 rw[Big.all r5,ah,jk,bi,ah,←z8 hd];refine zq.mono λv h6 ⟨e,W⟩=>?_
 subst e;have G:Ext h h6:=e1.trans (e2.trans (e3.trans (e4.trans (e5.trans W))));have r2:=(e4.trans (e5.trans W)).row r3;have r3:=W.row r5;have k2:h.size≤b2:=Nat.le_trans (e1.trans e2).1 n3;simp only[go_sem];have hq:m/d≤m:=Nat.div_le_self _ _;have A:d≤2*(m%d)→m/d+1<340282366920938463463374607431768211456:=λhh=>by
  have:=Nat.div_le_div_left (a:=m) (c:=2) (b:=d) (by omega) (by omega);omega
 refine aV (λxs h'=>xs=[.bool (if bl then decide (d<2*(m%d))else decide (d≤2*(m%d)))]∧Ext h h'∧Big h' b2 351 (m/d)) ?_ ?_
 ·cases bl
  ·rw[cf];refine⟨?_,G,r2⟩
   congr 2
   simp only[Bool.false_eq_true,if_false];exact decide_eq_decide.2 (by omega)
  ·rw[fI];rw[Big.all r3];simp only[go_sem];refine zq.mono λv h7 ⟨e,F⟩=>?_
   subst e;exact⟨by simp only[if_true,Nat.add_zero],G.trans F,F.row r2⟩
 ·rintro xs ρj h7 ⟨rfl,F,U⟩;simp only[go_sem];refine iH (λhc=>?_) (λhc=>?_)
  ·have L:ub m d bl=m/d+1:=by
    unfold ub;cases bl
    ·simp only[Bool.false_eq_true,if_false,decide_eq_true_eq]at hc ⊢;rw[if_pos hc]
    ·simp only[if_true,decide_eq_true_eq]at hc ⊢;rw[if_pos hc]
   have A:=A (by
    cases bl
    ·simp only[Bool.false_eq_true,if_false,decide_eq_true_eq]at hc;exact hc
    ·simp only[if_true,decide_eq_true_eq]at hc;omega)
   rw[Big.all U,ah,jk,bi,ah,←vx];refine(zo (m:=m/d) (n:=1) A).mono λv h8 ⟨e,e8⟩=>?_
   subst e;refine gG (e8.row U) λh9 r9 u9=>?_
   rw[r9.all,ah];refine(lY (m:=m/d+1) (b:=bl) A).mono λv I ⟨e,D⟩=>?_
   exact⟨by rw[e,L],((F.trans e8).upd k2 u9).trans D⟩
  ·have L:ub m d bl=m/d:=by
    unfold ub;cases bl
    ·simp only[Bool.false_eq_true,if_false,decide_eq_false_iff_not]at hc ⊢;rw[if_neg hc];rfl
    ·simp only[if_true,decide_eq_false_iff_not]at hc ⊢;rw[if_neg hc];rfl
   rw[Big.all U,ah];refine(lY (m:=m/d) (b:=bl) (by omega)).mono λv I ⟨e,D⟩=>?_
   exact⟨by rw[e,L],F.trans D⟩
theorem Q9 (a b:Int):(!(decide (a<0)==decide (b<0)))=jl a b:=rfl
theorem LQ {h:af}{a b:Int}(L:I64 a)(U:I64 b):ae prog oF #[.int .i64 a,.int .i64 b] h λr h'=>r=.int .i64 (EQ a b)∧Ext h h':=by
 apply HV;unfold yb;simp only[go_sem];unfold EQ;refine aj (λh0=>?_) (λh0=>?_)
 ·rw[if_pos h0];exact⟨rfl,Ext.refl _⟩
 rw[if_neg h0];have aa:=nF L;have ab:=nF U;refine(pM L).mono λv1 h1 ⟨G,w1⟩=>?_
 subst G w1;rw[jk,bi,ah,←z8 (n:=a.natAbs) (by omega)];refine(pM U).mono λv1 h1 ⟨G,w1⟩=>?_
 subst G w1;refine(Pj (m:=a.natAbs) (d:=b.natAbs) (by omega) (by omega) (by omega)).mono λv h2 ⟨e,I⟩=>?_
 subst e;simp only[go_sem];refine ji (n:=a.natAbs/b.natAbs) λb2 h3 H e3 n3=>?_
 have hq:a.natAbs/b.natAbs≤a.natAbs:=Nat.div_le_self _ _;simp only[go_sem,Q9];have D:=I.trans e3;have k2:=Nat.le_trans I.1 n3;by_cases hd:jl a b=true∧0<a.natAbs%b.natAbs
 ·have q:(jl a b&&decide ((0:Int)<((a.natAbs%b.natAbs:Nat):Int)))=true:=by rw[hd.1,decide_eq_true (by omega)];rfl
  rw[q,fI];unfold Cf;rw[if_pos ⟨hd.1,by omega⟩];rw[Big.all H,ah,jk,bi,ah,←vx];refine(zo (m:=a.natAbs/b.natAbs) (n:=1) (by omega)).mono λv h8 ⟨e,W⟩=>?_
  subst e;refine gG (W.row H) λh9 r9 u9=>?_
  rw[r9.all,ah];refine(lY (m:=a.natAbs/b.natAbs+1) (b:=jl a b) (by omega)).mono λv F ⟨e,A⟩=>?_
  exact⟨e,((D.trans W).upd k2 u9).trans A⟩
 ·have q:(jl a b&&decide ((0:Int)<((a.natAbs%b.natAbs:Nat):Int)))=false:=by
   rw[←Bool.not_eq_true,Bool.and_eq_true,decide_eq_true_eq];rintro⟨x,y⟩;exact hd ⟨x,by omega⟩
  rw[q,cf];unfold Cf;rw[if_neg (by rintro⟨x,y⟩;exact hd ⟨x,by omega⟩)];rw[Big.all H,ah];refine(lY (m:=a.natAbs/b.natAbs) (b:=jl a b) (by omega)).mono λv F ⟨e,A⟩=>?_
  exact⟨e,D.trans A⟩
theorem gI {h:af}{a b d:Int}(I:I64 a)(L:I64 b)(hd:I64 d):ae prog cH #[.int .i64 a,.int .i64 b,.int .i64 d] h λr h'=>r=.int .i64 (cg a b d)∧Ext h h':=by
 apply Gh;unfold xk;simp only[go_sem];unfold cg;refine aj (λh0=>?_) (λh0=>?_)
 ·rw[if_pos h0];exact⟨rfl,Ext.refl _⟩
 rw[if_neg h0];have A:=hG I;have D:=hG L;have F:=hG hd;refine(pM I).mono λU h1 ⟨H,w1⟩=>?_
 subst H w1;refine(pM L).mono λU h1 ⟨H,w1⟩=>?_
 subst H w1;refine(LO A D).mono λv h2 ⟨e,W⟩=>?_
 subst e;refine ji (n:=a.natAbs*b.natAbs) λb2 h3 r3 e3 n3=>?_
 simp only[go_sem,Q9];refine aI (Ext h3) (Ext.refl _) ?_;refine ao _ (λh' e=>Big.all (e.row r3)) ?_;refine(pM hd).mono λU h4 ⟨e4,w4⟩=>?_
 subst e4 w4;refine⟨Ext.refl _,?_⟩;refine(Pk (bl:= !(jl a b==decide (d<0))) (DJ A D) F (by omega)).mono λv aa ⟨e,G⟩=>?_
 refine⟨?_,W.trans (e3.trans G)⟩;rw[e];rfl
theorem GG {i:Nat}(h:i<128):2^i<340282366920938463463374607431768211456:=by
 have:=Nat.pow_lt_pow_right (a:=2) (by omega) h;exact this
theorem ET {h:af}{x n:Int}(hx:I64 x)(hn:I64 n):ae prog ks #[.int .i64 x,.int .i64 n] h λr h'=>r=.int .i64 (lH x n)∧Ext h h':=by
 apply HT;unfold xY;simp only[go_sem];refine aj (λh0=>?_) (λh0=>?_)
 ·unfold lH;rw[if_pos (by omega)];exact⟨rfl,Ext.refl _⟩
 refine aj (λh1=>?_) (λh1=>?_)
 ·unfold lH;rw[if_neg (by omega),if_pos (by omega)];exact⟨rfl,Ext.refl _⟩
 obtain⟨k,rfl⟩:∃k:Nat,n=(k:Int):=⟨n.toNat,by omega⟩
 rw[w64 (n:=(k:Int)-1) (by omega) (by omega)];rw[jk,bi,ah,←vx];refine ji (n:=1) λb1 h1 r1 e1 n1=>?_
 -- half
 refine bA (α:=Unit) (k-1) 0 (λi _=>[.int .i64 (i:Int)]) (λi _ h'=>Big h' b1 351 (2^i)∧Ext h h') () rfl (by omega) ⟨r1,e1⟩ λi _ h2 again ρj _ hi ⟨r2,e2⟩ H=>?_
 simp only[go_sem];refine aj (λhc=>?_) (λhc=>?_)
 ·rw[Big.all r2,ah];have hp:=GG (i:=i+1) (by omega);have aw:2^(i+1)=2*2^i:=Nat.pow_succ';refine(lh (n:=2^i) (bit:=0) (by omega) (by omega)).mono λv h3 ⟨e,e3⟩=>?_
  subst e;refine gG (e3.row r2) λh4 r4 u4=>?_
  rw[w64 (by omega) (by omega)];rw[Nat.add_zero,←aw]at r4;exact H () h4 (by omega) ⟨r4,(e2.trans e3).upd n1 u4⟩
 have:i=k-1:=by omega
 subst this;have A:=e2;refine(pM hx).mono λv1 h3 ⟨e3,w3⟩=>?_
 subst e3 w3;have bg:=hG hx;rw[jk,bi,ah,←z8 bg];refine ji (n:=x.natAbs) λb2 h4 r4 e4 n4=>?_
 try simp only[go_sem]
 rw[fo,bi,ah,←zS];refine ji (n:=0) λb3 h5 r5 e5 n5=>?_
 have l1:=aW r2;have l2:=aW r4;have k2:h.size≤b2:=Nat.le_trans A.1 n4;have k3:h.size≤b3:=Nat.le_trans (A.trans e4).1 n5;have al:x.natAbs<340282366920938463463374607431768211456:=by omega
 have D:=Sg hx (n:=k) (by omega) (by omega);have bv:x.natAbs≤9223372036854775808:=nF hx;generalize b0:x.natAbs=m at*
 -- the quotient
 refine bA (α:=Unit) (128-k) 0 (λi _=>[.int .i64 (127-(i:Int))])
  (λi _ h'=>Big h' b1 351 (2^(k-1))∧Big h' b2 351 m∧Big h' b3 351 (m/2^(128-i))∧Ext h h')
  () rfl (by omega) ⟨(e4.trans e5).row r2,e5.row r4,by rw[show m/2^(128-0)=0 from Nat.div_eq_of_lt (by simpa using al)];exact r5,A.trans (e4.trans e5)⟩ λi _ h6 again ρj _ hi ⟨U,q2,I,e6⟩ H=>?_
 simp only[go_sem];refine aj (λhc=>?_) (λhc=>?_)
 ·have H:=λh'=>H () h' (by omega)
  have hv:=OL m (127-i);rw[show 127-i+1=128-i by omega]at hv;rw[show 128-(i+1)=127-i by omega,show(127:Int)-((i+1:Nat):Int)=((127-i:Nat):Int)-1 by omega]at H;have a8:m/2^(127-i)≤m:=Nat.div_le_self _ _;have hb:m/2^(127-i)%2≤1:=by omega
  rw[show(127:Int)-(i:Int)=((127-i:Nat):Int)by omega];refine aI (Ext h6) (Ext.refl _) ?_;refine ao _ (λh' e=>Big.all (e.row I)) ?_;refine ao _ (λh' e=>Big.all (e.row q2)) ?_;refine(Ae al (i:=127-i) (by omega)).mono λv h7 ⟨e,e7⟩=>?_
  subst e;refine⟨e7,?_⟩;refine(lh (n:=m/2^(128-i)) (bit:=m/2^(127-i)%2) hb (by omega)).mono λv h8 ⟨e,e8⟩=>?_
  subst e;have ar:=e7.trans e8;refine gG (ar.row I) λh9 r9 u9=>?_
  rw[w64 (by omega) (by omega)];rw[←hv]at r9;exact H h9 ⟨u9.row (by omega) (ar.row U),u9.row (by omega) (ar.row q2),r9,(e6.trans ar).upd k3 u9⟩
 have ay:i=128-k:=by omega
 subst ay;rw[show 128-(128-k)=k by omega]at I;rw[Big.all q2,ah];refine ji (n:=m) λb4 h7 r7 e7 n7=>?_
 have l3:=aW I;have l1:=aW U;have l2:=aW q2;have k4:h.size≤b4:=Nat.le_trans e6.1 n7
 -- the rest
 refine bA (α:=Unit) 128 k (λi _=>[.int .i64 (i:Int)])
  (λi _ h'=>Big h' b1 351 (2^(k-1))∧Big h' b2 351 m∧Big h' b3 351 (m/2^k)∧Big h' b4 351 (m%2^k+m/2^i*2^i)∧Ext h h')
  () rfl (by omega) ⟨e7.row U,e7.row q2,e7.row I,by rw[show m%2^k+m/2^k*2^k=m by rw[Nat.mul_comm];exact Nat.mod_add_div _ _];exact r7,e6.trans e7⟩ λi _ h8 again ρj ay hi ⟨U,q2,I,W,e8⟩ H=>?_
 simp only[go_sem];refine aj (λhc=>?_) (λhc=>?_)
 ·have H:=λh'=>H () h' (by omega)
  rw[Big.all q2,ah];have an:=Sm m k i;have a8:m%2^k+m/2^i*2^i≤2*m:=by
   have a1:=Nat.mod_le m (2^k);have a2:=Nat.div_mul_le_self m (2^i);omega
  refine(Ae al (i:=i) (by omega)).mono λv h9 ⟨e,L⟩=>?_
  subst e;simp only[go_sem];have U:=L.row U;have q2:=L.row q2;have I:=L.row I;have W:=L.row W;have L:=e8.trans L;have l4:=aW W;refine aj (λhd=>?_) (λhd=>?_)
  ·have hd:m/2^i%2=1:=by omega
   rw[hd,Nat.one_mul]at an
   try rw[jk,bi,ah,←vx]
   refine ji (n:=1) λb5 ax bd F n10=>?_
   have k5:h.size≤b5:=Nat.le_trans L.1 n10;refine bA (α:=Unit) i 0 (λj _=>[.int .i64 (j:Int)]) (λj _ h'=>Big h' b1 351 (2^(k-1))∧Big h' b2 351 m∧Big h' b3 351 (m/2^k)∧Big h' b4 351 (m%2^k+m/2^i*2^i)∧Big h' b5 351 (2^j)∧Ext h h')
    () rfl (by omega) ⟨F.row U,F.row q2,F.row I,F.row W,bd,L.trans F⟩ λj _ bk a9 ρj2 _ hj ⟨U,q2,I,W,q5,ad⟩ H2=>?_
   simp only[go_sem];refine aj (λbc=>?_) (λbc=>?_)
   ·rw[Big.all q5,ah];have hp:=GG (i:=j+1) (by omega);have aw:2^(j+1)=2*2^j:=Nat.pow_succ';refine(lh (n:=2^j) (bit:=0) (by omega) (by omega)).mono λv a7 ⟨e,A⟩=>?_
    subst e;refine gG (A.row q5) λab aa G=>?_
    rw[w64 (by omega) (by omega)];rw[Nat.add_zero,←aw]at aa;exact H2 () ab (by omega) ⟨G.row (by omega) (A.row U),G.row (by omega) (A.row q2),G.row (by omega) (A.row I),G.row (by omega) (A.row W),aa,(ad.trans A).upd k5 G⟩
   ·have:j=i:=by omega
    subst this;rw[Big.all W,ah,Big.all q5,ah];refine(LP (m:=m%2^k+m/2^j*2^j) (n:=2^j) (by omega) (by omega)).mono λv a7 ⟨e,A⟩=>?_
    subst e;refine gG (A.row W) λab aa G=>?_
    rw[w64 (by omega) (by omega)];rw[an,Nat.add_sub_cancel]at aa;exact H ab ⟨G.row (by omega) (A.row U),G.row (by omega) (A.row q2),G.row (by omega) (A.row I),aa,(ad.trans A).upd k4 G⟩
  ·have hd:m/2^i%2=0:=by omega
   rw[hd,Nat.zero_mul,Nat.add_zero]at an;rw[w64 (by omega) (by omega)];exact H h9 ⟨U,q2,I,by rw[←an];exact W,L⟩
 have:i=128:=by omega
 subst this;rw[show m%2^k+m/2^128*2^128=m%2^k by rw[Nat.div_eq_of_lt (a:=m) (b:=2^128) (by simpa using al)];simp]at W;rw[Big.all W,ah,Big.all U,ah];refine zq.mono λv h9 ⟨e,L⟩=>?_
 subst e;have U:=L.row U;have I:=L.row I;have W:=L.row W;have L:=e8.trans L;have k1:=n1;simp only[go_sem];refine aV (λxs h'=>xs=[.bool (upS m k (decide (x<0)))]∧Ext h h'∧Big h' b3 351 (m/2^k)) ?_ ?_
 ·unfold upS;refine aj (λhc=>?_) (λhc=>?_)
  ·rw[Big.all U,ah,Big.all W,ah];refine zq.mono λv ax ⟨e,F⟩=>?_
   subst e;rw[decide_eq_true hc];exact⟨by simp only[if_true],L.trans F,F.row I⟩
  ·rw[decide_eq_false hc];refine⟨?_,L,I⟩;simp only[Bool.false_eq_true,if_false]
   congr 2
   exact decide_eq_decide.2 (by omega)
 ·rintro xs ρj ax ⟨rfl,F,I⟩;simp only[go_sem];have a8:m/2^k≤m:=Nat.div_le_self _ _;refine iH (λhc=>?_) (λhc=>?_)
  ·rw[hc,if_pos rfl]at D;rw[Big.all I,ah]
   try rw[jk,bi,ah,←vx]
   try rw[ah]
   refine(zo (m:=m/2^k) (n:=1) (by omega)).mono λv bk ⟨e,ad⟩=>?_
   subst e;refine gG (ad.row I) λa7 be bo=>?_
   rw[be.all,ah];refine(lY (m:=m/2^k+1) (b:=decide (x<0)) (by omega)).mono λv ab ⟨e,au⟩=>?_
   exact⟨by rw[e,D],((F.trans ad).upd k3 bo).trans au⟩
  ·rw[hc]at D;simp only[Bool.false_eq_true,if_false,Nat.add_zero]at D;rw[Big.all I,ah];refine(lY (m:=m/2^k) (b:=decide (x<0)) (by omega)).mono λv ab ⟨e,au⟩=>?_
   exact⟨by rw[e,D],F.trans au⟩
theorem Nc {h:af}{a b n:Int}(ha:I64 a)(hb:I64 b)(hn:I64 n):ae prog nV #[.int .i64 a,.int .i64 b,.int .i64 n] h λr h'=>r=.int .i64 (nG a b n)∧Ext h h':=by
 apply Dw;unfold tD;simp only[go_sem];have aa:=hG ha;have al:=hG hb;refine aV (λxs h'=>xs=[.int .i64 (n.toNat:Int)]∧h'=h) ?_ ?_
 ·refine aj (λhc=>?_) (λhc=>?_)
  ·exact⟨by rw[Int.toNat_of_nonpos (by omega)];rfl,rfl⟩
  ·exact⟨by rw[Int.toNat_of_nonneg (by omega)],rfl⟩
 rintro xs ρj h1 ⟨rfl,hh⟩;have hh:=hh.symm;subst hh;simp only[go_sem,Q9];unfold nG;refine aj (λh0=>?_) (λh0=>?_)
 ·rw[if_pos (by omega)];exact⟨rfl,Ext.refl _⟩
 rw[if_neg (by omega)];generalize n.toNat=k at*;refine(pM ha).mono λv1 h1 ⟨e1,w1⟩=>?_
 have w1:=w1.symm;subst e1 w1;refine(pM hb).mono λv1 h1 ⟨e1,w1⟩=>?_
 have w1:=w1.symm;subst e1 w1;refine(LO aa al).mono λv G ⟨e,e2⟩=>?_
 subst e;have A:=DJ aa al;generalize jl a b=bl at*;generalize a.natAbs*b.natAbs=m at*;refine ji (n:=m) λb2 h3 r3 e3 n3=>?_
 have L:=e2.trans e3
 try simp only[go_sem]
 refine aj (λhk=>?_) (λhk=>?_)
 ·obtain rfl:k=0:=by omega
  rw[Big.all r3,ah];refine(lY (m:=m) (b:=bl) A).mono λv h4 ⟨e,e4⟩=>?_
  exact⟨by rw[e];rfl,L.trans e4⟩
 rw[fo,bi,ah,←zS];refine ji (n:=0) λb3 h5 r5 e5 n5=>?_
 have l2:=aW r3;have k2:h.size≤b2:=Nat.le_trans e2.1 n3;have k3:h.size≤b3:=Nat.le_trans L.1 n5;refine bA (α:=Unit) (128-k) 0 (λi _=>[.int .i64 (127-(i:Int))])
  (λi _ h'=>Big h' b2 351 m∧Big h' b3 351 (m/2^(128-i))∧Ext h h')
  () rfl (by omega) ⟨e5.row r3,by rw[show m/2^(128-0)=0 from Nat.div_eq_of_lt (by simpa using A)];exact r5,L.trans e5⟩ λi _ h6 again ρj _ hi ⟨I,F,e6⟩ H=>?_
 simp only[go_sem];refine aj (λhc=>?_) (λhc=>?_)
 ·have H:=λh'=>H () h' (by omega)
  have hv:=OL m (127-i);rw[show 127-i+1=128-i by omega]at hv;rw[show 128-(i+1)=127-i by omega,show(127:Int)-((i+1:Nat):Int)=((127-i:Nat):Int)-1 by omega]at H;have be:m/2^(127-i)≤m:=Nat.div_le_self _ _;have hb:m/2^(127-i)%2≤1:=by omega
  rw[show(127:Int)-(i:Int)=((127-i:Nat):Int)by omega];refine aI (Ext h6) (Ext.refl _) ?_;refine ao _ (λh' e=>Big.all (e.row F)) ?_;refine ao _ (λh' e=>Big.all (e.row I)) ?_;refine(Ae A (i:=127-i) (by omega)).mono λv h7 ⟨e,e7⟩=>?_
  subst e;refine⟨e7,?_⟩;refine(lh (n:=m/2^(128-i)) (bit:=m/2^(127-i)%2) hb (by omega)).mono λv h8 ⟨e,D⟩=>?_
  subst e;have U:=e7.trans D;refine gG (U.row F) λh9 r9 u9=>?_
  rw[w64 (by omega) (by omega)];rw[←hv]at r9;exact H h9 ⟨u9.row (by omega) (U.row I),r9,(e6.trans U).upd k3 u9⟩
 have a8:i=128-k:=by omega
 subst a8;rw[show 128-(128-k)=k by omega]at F;rw[w64 (n:=(k:Int)-1) (by omega) (by omega)];refine bA (α:=Unit) (k-1) 0 (λi _=>[.bool (decide (m%2^i≠0)),.int .i64 (i:Int)])
  (λi _ h'=>Big h' b2 351 m∧Big h' b3 351 (m/2^k)∧Ext h h')
  () (by simp[Nat.mod_one]) (by omega) ⟨I,F,e6⟩ λi _ h7 again ρj _ hi ⟨I,F,e7⟩ H=>?_
 simp only[go_sem];refine aj (λhc=>?_) (λhc=>?_)
 ·have H:=λh'=>H () h' (by omega)
  have ab:=Uc m i;have hp:0<2^i:=Nat.pow_pos (by omega);rw[Big.all I];by_cases hz:m%2^i=0
  ·have q:decide (m%2^i≠0)=false:=decide_eq_false (by omega);rw[q];simp only[go_sem];refine(Ae A (i:=i) (by omega)).mono λv h8 ⟨e,D⟩=>?_
   subst e;simp only[go_sem];rw[w64 (by omega) (by omega)];have qq:decide (m%2^(i+1)≠0)=decide (((m/2^i%2:Nat):Int)=1):=decide_eq_decide.2 (by
    rw[ab,hz];rcases Nat.mod_two_eq_zero_or_one (m/2^i)with hh|hh
    ·rw[hh];simp
    ·rw[hh];simp)
   have H:=H h8 ⟨D.row I,D.row F,e7.trans D⟩;rw[qq]at H;exact H
  ·have q:decide (m%2^i≠0)=true:=decide_eq_true hz;rw[q];simp only[go_sem];rw[w64 (by omega) (by omega)];have H:=H h7 ⟨I,F,e7⟩;rw[show decide (m%2^(i+1)≠0)=true from decide_eq_true (by rw[ab];omega)]at H;exact H
 have:i=k-1:=by omega
 subst this;rw[Big.all I,ah,show(k:Int)-1=((k-1:Nat):Int)by omega];refine(Ae A (i:=k-1) (by omega)).mono λv h8 ⟨e,D⟩=>?_
 subst e;have F:=D.row F;have D:=e7.trans D;have be:m/2^k≤m/2:=by
  refine Nat.div_le_div_left ?_ (by omega);have:=Nat.pow_le_pow_right (n:=2) (by omega) (show 1≤k by omega);omega
 have ar:∀c:Bool,(c=true↔(m/2^(k-1)%2=1∧¬(bl=true∧m%2^(k-1)=0)))→aA (.bool c)
   (ae prog gv #[l9 (m/2^k),l9 1] h8 λa7 bd=>stK 2 (.pointer (some ⟨b3,0,none⟩)) a7 bd λbv an=>vK (aH 2 an (.pointer (some ⟨b3,0,none⟩))) λax=>
    ae prog da #[ax,.bool bl] an λbc bo=>bc=.int .i64 (iB (GS m k bl) bl)∧Ext h bo)
   (ae prog da #[l9 (m/2^k),.bool bl] h8 λay aw=>ay=.int .i64 (iB (GS m k bl) bl)∧Ext h aw):=by
  intro c ad;unfold GS;rw[if_neg (by omega)];refine iH (λhc=>?_) (λhc=>?_)
  ·rw[if_pos (ad.1 hc)];refine(zo (m:=m/2^k) (n:=1) (by omega)).mono λv b1 ⟨e,au⟩=>?_
   subst e;refine gG (au.row F) λb0 a9 bk=>?_
   rw[a9.all,ah];refine(lY (m:=m/2^k+1) (b:=bl) (by omega)).mono λv bg ⟨e,W⟩=>?_
   exact⟨e,((D.trans au).upd k3 bk).trans W⟩
  ·rw[if_neg (λhh=>by rw[ad.2 hh]at hc;cases hc)];refine(lY (m:=m/2^k) (b:=bl) (by omega)).mono λv bg ⟨e,W⟩=>?_
   exact⟨e,D.trans W⟩
 simp only[go_sem,Big.all F];rw[Wq,bi,ah,←vx];refine ar _ ?_;rw[Bool.and_eq_true,Bool.or_eq_true,decide_eq_true_eq,decide_eq_true_eq];constructor
 ·rintro⟨h1,G⟩;refine⟨by omega,?_⟩;rintro⟨h3,h4⟩;rcases G with G|G
  ·exact G h4
  ·rw[h3]at G;cases G
 ·rintro⟨h1,G⟩;refine⟨by omega,?_⟩;by_cases h3:bl=true
  ·exact .inl λh4=>G ⟨h3,h4⟩
  ·exact .inr (by simpa using h3)
theorem NC (p m t:Int):IntKind.i64.wrap (p-IntKind.i64.wrap (m+t))=IntKind.i64.wrap (IntKind.i64.wrap (p-m)-t):=by
 rw[Bs,vO];congr 1;omega
theorem NB (p m t:Int):IntKind.i64.wrap (IntKind.i64.wrap (p+t)-m)=IntKind.i64.wrap (IntKind.i64.wrap (p-m)+t):=by
 rw[vO,ry];congr 1;omega
theorem WG {h:af}{t:Int}(ht:I64 t):ae prog zL #[.int .i64 t] h λr h'=>r=.int .i64 (SP t)∧Ext h h':=by
 apply MG;unfold CX
 try simp only[go_sem]
 unfold SP;have ab:0≤max 0 t∧max 0 t≤9223372036854775807:=by unfold I64 at ht;omega
 refine aV (λW h'=>W=[.int .i64 (max 0 t)]∧h'=h) ?_ ?_
 ·refine aj (λhc=>?_) (λhc=>?_)
  ·exact⟨by rw[show max 0 t=0 by omega],rfl⟩
  ·exact⟨by rw[show max 0 t=t by omega],rfl⟩
 rintro W ρj h1 ⟨rfl,hh⟩;have hh:=hh.symm;subst hh;generalize max 0 t=T at*
 try simp only[go_sem]
 refine(LQ (by unfold I64;omega) (by unfold I64;omega)).mono λU h1 ⟨e,e1⟩=>?_
 subst e;rw[nM (by unfold I64;omega) (by omega)];simp only[go_sem];rw[w64 (n:=T/762123384786*762123384786) (by omega) (by omega),w64 (n:=T-T/762123384786*762123384786) (by omega) (by omega)];rw[show T-T/762123384786*762123384786=T%762123384786 by omega];have hr:0≤T%762123384786∧T%762123384786<762123384786:=by omega
 generalize aa:T%762123384786=r at*;refine bA (α:=Int×Int) 16 0 (λi a=>[.int .i64 a.1,.int .i64 a.2,.int .i64 (dW r i).2,.int .i64 ((i:Int)+1)]) (λi a h'=>IntKind.i64.wrap (a.1-a.2)=(dW r i).1∧Ext h h') (1099511627776,0) rfl (by omega) ⟨show IntKind.i64.wrap (1099511627776-0)=1099511627776 from w64 (by omega) (by omega),e1⟩ λi a h2 again ρj _ hi ⟨I,F⟩ H=>?_
 obtain⟨P,M⟩:=a;simp only[go_sem];obtain⟨s1,s2⟩:=zg r i;refine aj (λh0=>?_) (λh0=>?_)
 ·rw[w64 (n:=((i:Int)+1)*1099511627776) (by omega) (by omega)];refine(gI s2 (by unfold I64;omega) (by unfold I64;omega)).mono λU G ⟨e,D⟩=>?_
  subst e;rw[dc _ _ _ _ (by omega),ah,Int.tmod_eq_emod_of_nonneg (by omega)];simp only[go_sem];have A:(dW r (i+1)).1=IntKind.i64.wrap (if i%2=0 then(dW r i).1-(dW r (i+1)).2 else(dW r i).1+(dW r (i+1)).2):=rfl;have L:(dW r (i+1)).2=cg (dW r i).2 r (((i:Int)+1)*1099511627776):=rfl;rw[←L];rw[w64 (n:=(i:Int)+1+1) (by omega) (by omega),show(i:Int)+1+1=((i+1:Nat):Int)+1 by omega];refine aj (λh4=>?_) (λh4=>?_)
  ·refine H (P,_) G (by omega) ⟨?_,F.trans D⟩;rw[A,if_pos (by omega),←I];exact NC _ _ _
  ·refine H (_,M) G (by omega) ⟨?_,F.trans D⟩;rw[A,if_neg (by omega),←I];exact NB _ _ _
 ·have:i=16:=by omega
  subst this;rw[I];refine(ET s1 (by unfold I64;omega)).mono λU G ⟨e,D⟩=>?_
  exact⟨e,F.trans D⟩
theorem SZ {h:af}{d s:Int}(hd:I64 d)(D:I64 s):ae prog uF #[.int .i64 d,.int .i64 s] h λr h'=>r=.int .i64 (BA d s)∧Ext h h':=by
 apply HH;unfold xU;simp only[go_sem];unfold BA;refine aj (λh0=>?_) (λh0=>?_)
 ·rw[if_pos (by omega)];exact⟨rfl,Ext.refl _⟩
 ·rw[if_neg (by omega)];have h1:=K6 (d:=d) (B:=16384) (by omega) (by omega);have A:=K6 (d:=s) (B:=4194304) (by omega) (by omega);rw[w64 (n:=d*d) (by omega) (by omega),w64 (n:=d*d*2147483648) (by omega) (by omega),w64 (n:=s*s) (by omega) (by omega)];exact gI (by unfold I64;omega) (by unfold I64;omega) (by unfold I64;omega)
theorem S0 {h:af}{d s:Int}(hd:I64 d)(H:I64 s):ae prog uG #[.int .i64 d,.int .i64 s] h λr h'=>r=.int .i64 (y8 d s)∧Ext h h':=by
 apply HI;unfold xV;refine(SZ hd H).mono λA h1 ⟨e,G⟩=>?_
 subst e;refine(WG (Hm _ _)).mono λA L ⟨e,D⟩=>?_
 subst e;refine(ET (Jj _) (by unfold I64;omega)).mono λA I ⟨e,F⟩=>?_
 exact⟨e,G.trans (D.trans F)⟩
theorem WF {h:af}{p q:Int}(A:I64 p)(hq:I64 q):ae prog zK #[.int .i64 p,.int .i64 q] h λr h'=>r=.bool (decide (Gr p q))∧h'=h:=by
 apply MF;unfold CW;simp only[go_sem];unfold I64 at*;refine aj (λh0=>?_) (λh0=>?_)
 ·exact⟨by rw[decide_eq_false];unfold Gr;omega,trivial⟩
 ·refine⟨?_,trivial⟩
  congr 1
  rw[decide_eq_decide,w64 (n:= -4*q) (by omega) (by omega),w64 (n:=4*q) (by omega) (by omega)];unfold Gr;omega
theorem Jy {h:af}{p q:Int}(hp:I64 p)(h0:p≠ -9223372036854775808)(hq:I64 q):ae prog mC #[.int .i64 p,.int .i64 q] h λr h'=>r=.int .i64 (vX p q)∧Ext h h':=by
 apply Gg;unfold xj;unfold vX;simp only[go_sem];unfold I64 at hp;refine aV (λxs h'=>xs=[.int .i64 (max p (-p))]∧h'=h) ?_ ?_
 ·refine aj (λhc=>?_) (λhc=>?_)
  ·rw[w64 (by omega) (by omega)];exact⟨by rw[show max p (-p)=0-p by omega],rfl⟩
  ·exact⟨by rw[show max p (-p)=p by omega],rfl⟩
 rintro xs ρj h1 ⟨rfl,hh⟩;have hh:=hh.symm;subst hh;have L:I64 (max p (-p)):=by unfold I64 at*;omega
 simp only[go_sem];refine(gI (by unfold I64;omega) L hq).mono λU h1 ⟨e,e1⟩=>?_
 subst e;refine(gI (eW _ _ _) L hq).mono λU h2 ⟨e,e2⟩=>?_
 subst e;have hu:=eW (cg 10851744800547 (max p (-p)) q) (max p (-p)) q;generalize cg (cg 10851744800547 (max p (-p)) q) (max p (-p)) q=u at*;refine bA (α:=Int×Int) 30 0 (λi a=>[.int .i64 a.1,.int .i64 a.2,.int .i64 (bS u i).2,.int .i64 ((i:Int)+1)]) (λi a h'=>IntKind.i64.wrap (a.1-a.2)=(bS u i).1∧Ext h h') (1099511627776,0) rfl (by omega) ⟨show IntKind.i64.wrap (1099511627776-0)=1099511627776 from w64 (by omega) (by omega),e1.trans e2⟩ λi a h3 again ρj _ hi ⟨F,D⟩ H=>?_
 obtain⟨P,M⟩:=a;simp only[go_sem];obtain⟨s1,s2⟩:=vW u i;refine aj (λh0=>?_) (λh0=>?_)
 ·have aa:=K6 (d:=(i:Int)+1) (B:=30) (by omega) (by omega);have he:=Nx ((i:Int)+1);rw[w64 (n:=2*((i:Int)+1)) (by omega) (by omega),w64 (n:=2*((i:Int)+1)+1) (by omega) (by omega),w64 (n:=2*((i:Int)+1)*(2*((i:Int)+1)+1)) (by omega) (by omega),
   w64 (n:=2*((i:Int)+1)*(2*((i:Int)+1)+1)*1099511627776) (by omega) (by omega)]
  refine(gI s2 hu (by unfold I64;omega)).mono λU W ⟨e,I⟩=>?_
  subst e;rw[dc _ _ _ _ (by omega),ah,Int.tmod_eq_emod_of_nonneg (by omega)];simp only[go_sem];have A:(bS u (i+1)).1=IntKind.i64.wrap (if i%2=0 then(bS u i).1-(bS u (i+1)).2 else(bS u i).1+(bS u (i+1)).2):=rfl;have G:(bS u (i+1)).2=cg (bS u i).2 u (2*((i:Int)+1)*(2*((i:Int)+1)+1)*1099511627776):=rfl;rw[←G];rw[w64 (n:=(i:Int)+1+1) (by omega) (by omega),show(i:Int)+1+1=((i+1:Nat):Int)+1 by omega];refine aj (λh5=>?_) (λh5=>?_)
  ·refine H (P,_) W (by omega) ⟨?_,D.trans I⟩;rw[A,if_pos (by omega),←F];exact NC _ _ _
  ·refine H (_,M) W (by omega) ⟨?_,D.trans I⟩;rw[A,if_neg (by omega),←F];exact NB _ _ _
 ·have:i=30:=by omega
  subst this;exact⟨by rw[F],D⟩
theorem Pi {h:af}{p q:Int}(D:I64 p)(hq:I64 q):ae prog qf #[.int .i64 p,.int .i64 q] h λr h'=>r=.int .i64 (sr p q)∧Ext h h':=by
 apply Ey;unfold vg;unfold sr;refine(WF D hq).mono λA h1 ⟨H,w1⟩=>?_
 have w1:=w1.symm;subst H w1;by_cases F:Gr p q
 ·have G:=F;unfold Gr at G;simp only[go_sem,F];rw[w64 (n:=3*q) (by omega) (by omega),w64 (n:= -3*q) (by omega) (by omega)];refine aj (λh0=>?_) (λh0=>?_)
  ·rw[if_pos (by omega)];exact⟨rfl,Ext.refl _⟩
  ·rw[if_neg (by omega)];refine(Jy D (by omega) hq).mono λA h1 ⟨e,H⟩=>?_
   subst e;refine(Jy D (by omega) (by unfold I64;omega)).mono λA h2 ⟨e,I⟩=>?_
   subst e;refine(Nc (tS _ _) (tS _ _) (by unfold I64;omega)).mono λA W ⟨e,U⟩=>?_
   subst e;refine(ET (uw _ _ _) (by unfold I64;omega)).mono λA h4 ⟨e,L⟩=>?_
   exact⟨e,H.trans (I.trans (U.trans L))⟩
 ·simp only[go_sem,F];rw[if_pos trivial];exact⟨rfl,Ext.refl _⟩
end Go.Proofs.YtjljhnandbbldaaGreatDoor
namespace Go.Crisp
def inW (f n m i j:Int):Prop:=if f=0 then i*n<(j+1)*m∧j*m<(i+1)*n else
 2*m*j-(2*i+1)*n+m<cj f*(2*max n m)∧ -(cj f*(2*max n m))<2*m*j-(2*i+1)*n+m
instance (f n m i j:Int):Decidable (inW f n m i j):=by unfold inW;infer_instance
theorem RC {f n m i j:Int}(h:si f n m i):inW f n m i j↔nH f n m i≤j∧j<lg f n m i:=by
 obtain⟨f0,f1,D,H,G,m1,F,I⟩:=h;unfold inW nH lg Jq;split
 ·have a1:= @Int.ediv_lt_iff_lt_mul (i*n) (j+1) m (by omega);have a2:= @Int.ediv_lt_iff_lt_mul (-((i+1)*n)) (-j) m (by omega);rw[Int.neg_mul]at a2;constructor
  ·rintro⟨h1,A⟩;have:=a1.2 h1;have:=a2.2 (by omega);omega
  ·rintro⟨h1,A⟩;have:=a1.1 (by omega);have:=a2.1 (by omega);omega
 ·have a1:= @Int.ediv_lt_iff_lt_mul ((2*i+1)*n-m-cj f*2*max n m) j (2*m) (by omega);have a2:= @Int.ediv_lt_iff_lt_mul (-((2*i+1)*n-m+cj f*2*max n m)) (-j) (2*m) (by omega);rw[Int.neg_mul]at a2;rw[Int.mul_comm j]at a1 a2;rw[Int.mul_assoc (cj f)]at a1 a2;rw[Int.mul_assoc (cj f)];constructor
  ·rintro⟨h1,A⟩;have:=a1.2 (by omega);have:=a2.2 (by omega);omega
  ·rintro⟨h1,A⟩;have:=a1.1 (by omega);have:=a2.1 (by omega);omega
theorem GN {f n m i:Int}(h:si f n m i):nH f n m i≤i*n/m∧i*n/m<lg f n m i:=by
 rw[←RC h];obtain⟨f0,f1,n0,n1,m0,m1,i0,i1⟩:=h;have hq:=Int.mul_ediv_add_emod (i*n) m;have W:=Int.emod_nonneg (i*n) (show m≠0 by omega);have U:=Int.emod_lt_of_pos (i*n) (show 0<m by omega);generalize i*n/m=j at*;generalize i*n%m=r at*;unfold inW;have L:(j+1)*m=m*j+m:=by rw[Int.add_mul,Int.one_mul,Int.mul_comm]
 have D:(i+1)*n=i*n+n:=by rw[Int.add_mul,Int.one_mul]
 have G:(2*i+1)*n=2*(i*n)+n:=by rw[Int.add_mul,Int.one_mul,Int.mul_assoc]
 have F:2*m*j=2*(m*j):=Int.mul_assoc _ _ _;have H:j*m=m*j:=Int.mul_comm _ _;split
 ·rw[L,D,H];omega
 ·rw[G,F];have A:cj f=2∨cj f=3:=by unfold cj;rename_i I;rw[if_neg I];split<;>omega
  rcases A with A|A<;>rw[A]<;>omega
end Go.Crisp
namespace Go.Proofs.YtjljhnandbbldaaGreatDoor
open Go Go.Crisp
attribute [local irreducible] ae cE aP stK aA vK qK bC gK dK aU mkK cF Ch DH zZ bsK
open _root_.Go.Proofs.Tryz
theorem WB {h:af}{f n m i:Int}:ae prog zJ #[.int .i64 f,.int .i64 n,.int .i64 m,.int .i64 i] h λr h'=>r=.bool (decide (si f n m i))∧h'=h:=by
 apply ME;unfold CV;simp only[go_sem];refine⟨?_,trivial⟩
 congr 1
 rw[decide_eq_decide];unfold si;omega
abbrev jB (j:Int):Prop:= -137438953472≤j∧j≤137438953472
theorem D3 {h:af}{f n m i j:Int}(D:si f n m i)(hj:jB j):ae prog jR #[.int .i64 n,.int .i64 m,.int .i64 i,.int .i64 j] h λr h'=>
  r=.tuple #[.int .i64 (2*m*j-(2*i+1)*n+m),.int .i64 (2*max n m)]∧h'=h:=by
 apply Dv;unfold tC;simp only[go_sem];have H:=Qm D;obtain⟨L,U,W,b4,b5⟩:=H;obtain⟨f0,f1,n0,n1,m0,m1,i0,i1⟩:=D;have G:=Gx (a:=j) (A:=137438953472) (b:=m) (B:=65536) (by omega) (by omega) (by omega) (by omega);have I:2*m*j=2*(j*m):=by rw[Int.mul_assoc,Int.mul_comm m j]
 rw[w64 (n:=2*m) (by omega) (by omega),w64 (n:=2*n) (by omega) (by omega),w64 (n:=2*m*j) (by omega) (by omega),w64 (n:=2*i) (by omega) (by omega),w64 (n:=2*i+1) (by omega) (by omega),w64 (n:=(2*i+1)*n) (by omega) (by omega),
  w64 (n:=2*m*j-(2*i+1)*n) (by omega) (by omega),w64 (n:=2*m*j-(2*i+1)*n+m) (by omega) (by omega)]
 refine aV (λF h'=>F=[.int .i64 (2*max n m)]∧h'=h) ?_ ?_
 ·refine aj (λhc=>?_) (λhc=>?_)
  ·exact⟨by rw[show max n m=m by omega],rfl⟩
  ·exact⟨by rw[show max n m=n by omega],rfl⟩
 rintro F ρj h1 ⟨rfl,hh⟩;exact⟨rfl,hh⟩
theorem WC {h:af}{f n m i j:Int}(F:si f n m i)(W:jB j):ae prog nU #[.int .i64 f,.int .i64 n,.int .i64 m,.int .i64 i,.int .i64 j] h λr h'=>
  r=.bool (decide (inW f n m i j))∧h'=h:=by
 apply Oi;unfold Fp;simp only[go_sem];have G:=F;have U:=Qm F;obtain⟨b1,b2,b3,b4,b5⟩:=U;obtain⟨f0,f1,n0,n1,m0,m1,i0,i1⟩:=F;have H:=Gx (a:=j) (A:=137438953472) (b:=m) (B:=65536) (by omega) (by omega) (by omega) (by omega);have I:(j+1)*m=j*m+m:=by rw[Int.add_mul,Int.one_mul]
 refine aj (λD=>?_) (λD=>?_)
 ·rw[w64 (n:=i+1) (by omega) (by omega),w64 (n:=(i+1)*n) (by omega) (by omega),w64 (n:=j+1) (by omega) (by omega),w64 (n:=(j+1)*m) (by omega) (by omega),w64 (n:=i*n) (by omega) (by omega),w64 (n:=j*m) (by omega) (by omega)];refine⟨?_,trivial⟩
  congr 1
  rw[decide_eq_decide];unfold inW;rw[if_pos D]
 ·refine(D3 G W).mono λv1 h1 ⟨L,w1⟩=>?_
  have w1:=w1.symm;subst L w1;simp only[go_sem];rw[w64 (n:=2*(2*max n m)) (by omega) (by omega),w64 (n:=3*(2*max n m)) (by omega) (by omega),w64 (n:=0-2*(2*max n m)) (by omega) (by omega),w64 (n:=0-3*(2*max n m)) (by omega) (by omega)];refine aj (λhc=>?_) (λhc=>?_)
  ·refine⟨?_,trivial⟩
   congr 1
   rw[decide_eq_decide];unfold inW cj;rw[if_neg D,if_neg D,if_neg (by omega)];omega
  ·refine⟨?_,trivial⟩
   congr 1
   rw[decide_eq_decide];unfold inW cj;rw[if_neg D,if_neg D,if_pos (by omega)];omega
theorem QO {h:af}{f n m i j:Int}(A:si f n m i)(D:jB j):ae prog nU #[.int .i64 f,.int .i64 n,.int .i64 m,.int .i64 i,.int .i64 j] h λr h'=>
  r=.bool (decide (nH f n m i≤j∧j<lg f n m i))∧h'=h:=
 (WC A D).mono λv h1 ⟨e,w⟩=>⟨by rw[e];congr 1;exact decide_eq_decide.2 (RC A),w⟩
theorem UU {h:af}{p q:Int}(F: -4611686018427387904≤p∧p≤4611686018427387904)(hq:I64 q):ae prog wM #[.int .i64 p,.int .i64 q] h λr h'=>r=.int .i64 (DP p q)∧Ext h h':=by
 apply Kx;unfold AR
 try simp only[go_sem]
 unfold DP;refine aj (λh0=>?_) (λh0=>?_)
 ·rw[if_pos (by omega)];exact⟨rfl,Ext.refl _⟩
 rw[w64 (n:=2*q) (by omega) (by omega),w64 (n:= -2*q) (by omega) (by omega)];refine aj (λh1=>?_) (λh1=>?_)
 ·rw[if_pos (by omega)];exact⟨rfl,Ext.refl _⟩
 rw[if_neg (by omega)];refine aV (λD h'=>D=[.int .i64 (max p (-p))]∧h'=h) ?_ ?_
 ·refine aj (λhc=>?_) (λhc=>?_)
  ·rw[w64 (by omega) (by omega)];exact⟨by rw[show max p (-p)=0-p by omega],rfl⟩
  ·exact⟨by rw[show max p (-p)=p by omega],rfl⟩
 rintro D ρj G ⟨rfl,hh⟩;have hh:=hh.symm;subst hh;generalize max p (-p)=a
 try simp only[go_sem]
 simp only[vP,Bt,ry,nr,vO,Bs];unfold QI;refine aj (λh1=>?_) (λh1=>?_)
 ·rw[if_neg (by omega)];have A:3*(a*a*a)-5*(a*a)*q+2*(q*q*q)=3*(a*a*a)-5*(a*a*q)+2*(q*q*q):=by grind
  rw[A];exact gI (iN _) (by unfold I64;omega) (iN _)
 ·rw[if_pos (by omega)];have A:5*(a*a)*q-a*a*a-8*a*(q*q)+4*(q*q*q)=4*(q*q*q)+5*(a*a*q)-a*a*a-8*(a*q*q):=by grind
  rw[A];exact gI (iN _) (by unfold I64;omega) (iN _)
theorem QN {h:af}{f n m i j:Int}(F:si f n m i)(hj:jB j):ae prog sO #[.int .i64 f,.int .i64 n,.int .i64 m,.int .i64 i,.int .i64 j] h λr h'=>
  r=.int .i64 (vT f n m i j)∧Ext h h':=by
 apply Gf;unfold xi
 try simp only[go_sem]
 have G:=F;have hb:=Qm F;obtain⟨b1,b2,b3,b4,b5⟩:=hb;obtain⟨f0,f1,n0,n1,m0,m1,i0,i1⟩:=F;unfold vT;have L:=Gx (a:=j) (A:=137438953472) (b:=m) (B:=65536) (by omega) (by omega) (by omega) (by omega);have U:(j+1)*m=j*m+m:=by rw[Int.add_mul,Int.one_mul]
 have aa:2*m*j=2*(j*m):=by rw[Int.mul_assoc,Int.mul_comm m j]
 refine aj (λH=>?_) (λH=>?_)
 ·rw[if_pos H];rw[w64 (n:=i+1) (by omega) (by omega),w64 (n:=(i+1)*n) (by omega) (by omega),w64 (n:=j+1) (by omega) (by omega),w64 (n:=(j+1)*m) (by omega) (by omega),w64 (n:=i*n) (by omega) (by omega),w64 (n:=j*m) (by omega) (by omega)];refine aV (λI h'=>I=[.int .i64 (max (i*n) (j*m))]∧h'=h) ?_ ?_
  ·refine aj (λhc=>?_) (λhc=>?_)
   ·exact⟨by rw[show max (i*n) (j*m)=j*m by omega],rfl⟩
   ·exact⟨by rw[show max (i*n) (j*m)=i*n by omega],rfl⟩
  rintro I ρj h2 ⟨rfl,hh⟩;have hh:=hh.symm;subst hh;simp only[go_sem];refine aj (λhc=>?_) (λhc=>?_)
  ·rw[w64 (by omega) (by omega),show min ((i+1)*n) ((j+1)*m)=(j+1)*m by omega];exact gI (by unfold I64;omega) (by unfold I64;omega) (by unfold I64;omega)
  ·rw[w64 (by omega) (by omega),show min ((i+1)*n) ((j+1)*m)=(i+1)*n by omega];exact gI (by unfold I64;omega) (by unfold I64;omega) (by unfold I64;omega)
 rw[if_neg H];refine(D3 G hj).mono λv1 h1 ⟨W,w1⟩=>?_
 have w1:=w1.symm;subst W w1;simp only[go_sem];refine aj (λD=>?_) (λD=>?_)
 ·rw[if_pos D];exact UU (by omega) (by unfold I64;omega)
 ·rw[if_neg D];exact Pi (by unfold I64;omega) (by unfold I64;omega)
theorem Wz {h:af}{f n m i:Int}:ae prog uh #[.int .i64 f,.int .i64 n,.int .i64 m,.int .i64 i] h λr h'=>
  ∃v,r=.tuple #[.int .i64 (dC f n m i),v]∧New (Rp.int .i64) h h' v (cq f n m i):=by
 apply MD;unfold CU;refine WB.mono λv1 h1 ⟨I,w1⟩=>?_
 have w1:=w1.symm;subst I w1;unfold dC cq;by_cases A:si f n m i
 ·rw[if_pos A,if_pos A];simp only[go_sem,A];have al:=IJ A;have ar:=GN A;have ab:=Qm A;obtain⟨b1,b2,b3,b4,b5⟩:=ab;have ad:=A;obtain⟨f0,f1,n0,n1,m0,m1,i0,i1⟩:=ad;have au:=pL (a:=i*n) (b:=m) (L:=0) (U:=4294967296) (by omega) (by omega) (by omega) (by omega) (by omega);rw[w64 (n:=i*n) (by omega) (by omega),kq _ _ _ _ (by omega),ah,Int.tdiv_eq_ediv_of_nonneg b1.1,w64 (by omega) (by omega)];generalize D:nH f n m i=lo at*;generalize F:lg f n m i=hi at*;generalize i*n/m=W at*;refine jN (λk=>[.int .i64 (W-(k:Int))]) (W-lo).toNat 0 (by simp) (Nat.zero_le _) λk again ρj _ hk H=>?_
  simp only[go_sem];rw[w64 (n:=W-(k:Int)-1) (by omega) (by omega)];refine(QO A (by omega)).mono λv1 h1 ⟨I,w1⟩=>?_
  have w1:=w1.symm;subst I w1;rw[D,F];refine aj (λhc=>?_) (λhc=>?_)
  ·have H:=H (by omega);rw[show W-((k+1:Nat):Int)=W-(k:Int)-1 by omega]at H;exact H
  have hk:W-(k:Int)=lo:=by omega
  rw[hk];refine jN (λk=>[.int .i64 lo]) 0 0 rfl (Nat.le_refl _) λk2 aa ρj2 _ an _=>?_
  simp only[go_sem];refine(QO A (by omega)).mono λv1 h1 ⟨I,w1⟩=>?_
  have w1:=w1.symm;subst I w1;rw[D,F,decide_eq_true (by omega)];simp only[go_sem];refine bA (hi-lo).toNat 0 (λk v=>[.int .i64 (lo+(k:Int)),v]) (λk v h'=>New (Rp.int .i64) h h' v ((Al f n m i).take k)) (.slice none 0 0) (by simp) (Nat.zero_le _) (New.nil (Ext.refl _)) λk v h2 again ρj _ hk hI H=>?_
  simp only[go_sem];have hl:(Al f n m i).length=(hi-lo).toNat:=by unfold Al;rw[List.length_map,List.length_range,D,F]
  refine(QO A (by omega)).mono λv1 h3 ⟨I,w1⟩=>?_
  have w1:=w1.symm;subst I w1;rw[D,F];refine aj (λh0=>?_) (λh0=>?_)
  ·refine(QN A (by omega)).mono λv2 h3 ⟨e2,w2⟩=>?_
   subst e2;have G:((Al f n m i).take k).length=k:=by rw[List.length_take];omega
   refine(hI.ext w2).push_int rfl (by rw[G];omega) (by rw[G];omega) λs' h' H'=>?_
   try simp only[go_sem]
   rw[w64 (by omega) (by omega)];have:=H s' h' (by omega) (by
    have e:=lF (λk:Nat=>vT f n m i (nH f n m i+k)) (lg f n m i-nH f n m i).toNat k (by omega);unfold Al at H' ⊢;rw[e,D];rw[D]at H';exact H')
   rw[show lo+((k+1:Nat):Int)=lo+(k:Int)+1 by omega]at this;exact this
  ·rw[List.take_of_length_le (by omega)]at hI;exact⟨v,rfl,hI⟩
 ·rw[if_neg A,if_neg A];simp only[go_sem,A];exact⟨_,rfl,New.nil (Ext.refl _)⟩
end Go.Proofs.YtjljhnandbbldaaGreatDoor
namespace Go.Proofs.YtjljhnandbbldaaGreatDoor
open Go Go.Crisp
attribute [local irreducible] ae cE aP stK aA vK qK bC gK dK aU mkK cF Ch DH zZ bsK clK
open _root_.Go.Proofs.Tryz
theorem Pg {h:af}{a b:Int}(A:I64 a)(D:I64 b):ae prog q9 #[.int .i64 a,.int .i64 b] h λr h'=>r=.int .i64 (Ay a b)∧h'=h:=by
 apply Ks;unfold AM;simp only[go_sem,gF];unfold Ay I64 at*;refine aj (λh0=>?_) (λh0=>?_)
 ·exact⟨by congr 1;omega,trivial⟩
 refine aj (λh1=>?_) (λh1=>?_)
 ·exact⟨by congr 1;omega,trivial⟩
 ·exact⟨by congr 1;omega,trivial⟩
theorem Ph {h:af}{x:Int}(A:I64 x):ae prog rh #[.int .i64 x] h λr h'=>r=.int .i64 (kW x)∧h'=h:=by
 apply Ku;unfold AO;rw[CF A];simp only[go_sem,gF];unfold I64 at*;refine aj (λh0=>?_) (λh0=>?_)
 ·exact⟨by congr 1;omega,trivial⟩
 refine aj (λh1=>?_) (λh1=>?_)
 ·exact⟨by congr 1;omega,trivial⟩
 ·exact⟨by congr 1;omega,trivial⟩
theorem Wy {Z:Nat→Prop}{h:af}{v:Value}{l:List Int}(H:SlI Z h v l)(F:∀x∈l,I64 x)(W:l.length<4611686018427387904):ae prog zI #[v] h λr h'=>r=.int .i64 (kN l)∧h'=h:=by
 apply MC;unfold CT;obtain⟨a,cap,e⟩:=H.isSl;have G:aq v=some (.int .i64 (l.length:Int)):=by rw[e];rfl
 rw[G,ah];refine jN (λi=>[.int .i64 ((l.take i).foldl Ay 0),.int .i64 (i:Int)]) l.length 0 rfl (Nat.zero_le _) λi again ρj _ hi D=>?_
 simp only[go_sem];refine aj (λh0=>?_) (λh0=>?_)
 ·have A:i<l.length:=by omega
  obtain⟨p,L,I⟩:=H.int_at (k':=.i64) A;simp only[go_sem,L,I];refine(Pg (nK vJ _ _ vM) (F _ (List.getElem_mem _))).mono λv1 h1 ⟨U,w1⟩=>?_
  subst U w1;rw[w64 (by omega) (by omega)];have:=D A;rw[zT A]at this;exact this
 ·rw[List.take_of_length_le (by omega)];exact⟨rfl,trivial⟩
theorem SY {Z:Nat→Prop}{h:af}{v:Value}{l:List Int}(H:SlI Z h v l)(F:∀x∈l,I64 x)(hl:l.length<4611686018427387904):ae prog uE #[v] h λr h'=>r=.int .i64 (kP l)∧h'=h:=by
 apply HG;unfold xT;obtain⟨a,cap,e⟩:=H.isSl;have L:aq v=some (.int .i64 (l.length:Int)):=by rw[e];rfl
 rw[L,ah];refine jN (λi=>[.int .i64 ((l.take i).foldl (λs x=>Ay s (kW x)) 0),.int .i64 (i:Int)]) l.length 0 rfl (Nat.zero_le _) λi again ρj _ hi D=>?_
 simp only[go_sem];refine aj (λh0=>?_) (λh0=>?_)
 ·have A:i<l.length:=by omega
  obtain⟨p,W,U⟩:=H.int_at (k':=.i64) A;simp only[go_sem,W,U];have I:=F _ (List.getElem_mem A);refine(Ph I).mono λv1 h1 ⟨G,w1⟩=>?_
  subst G w1;refine(Pg (nK (λa b=>vJ a (kW b)) _ _ vM) (K8 I)).mono λv1 h1 ⟨G,w1⟩=>?_
  subst G w1
  try simp only[go_sem]
  rw[w64 (by omega) (by omega)];have:=D A;rw[zT A]at this;exact this
 ·rw[List.take_of_length_le (by omega)];exact⟨rfl,trivial⟩
theorem Ka (l:List Int):0≤kP l∨¬ ∀x∈l,I64 x:=by
 by_cases h:∀x∈l,I64 x
 ·left;unfold kP;have:∀(l:List Int) (s:Int),(∀x∈l,I64 x)→0≤s→0≤l.foldl (λs x=>Ay s (kW x)) s:=by
   intro l;induction l with
   |nil=>intro s _ A;exact A
   |cons x l D=>
    intro s h A;refine D _ (λy G=>h y (by simp[G])) ?_;have F:=CF (h x (by simp));show 0≤Ay s (kW x);rw[F];unfold Ay;omega
  exact this l 0 h (Int.le_refl _)
 ·exact .inr h
theorem Jx {Z:Nat→Prop}{h:af}{v:Value}{l:List Int}(H:SlI Z h v l)(F:∀x∈l,I64 x)(hl:l.length<4611686018427387904):
  ae prog mB #[v] h λr h'=>∃u,r=.tuple #[u,.int .i64 (xN l)]∧New (Rp.int .i64) h h' u (oN l):=by
 apply Kt;unfold AN;refine(SY H F hl).mono λv1 h1 ⟨e1,w1⟩=>?_
 have w1:=w1.symm;subst e1 w1;obtain⟨a,cap,e⟩:=H.isSl;have U:aq v=some (.int .i64 (l.length:Int)):=by rw[e];rfl
 simp only[go_sem,U];rw[dc _ _ _ _ (by omega),ah,Int.tmod_eq_emod_of_nonneg (by omega)];simp only[go_sem,U];unfold xN oN;have hs:=GQ l;have aa:0≤kP l:=(Ka l).resolve_right λhh=>hh F
 refine aj (λh0=>?_) (λh0=>?_)
 ·have:iD l:=by unfold iD;omega
  rw[if_pos this,if_pos this];exact⟨_,rfl,New.nil (Ext.refl _)⟩
 ·have L:¬iD l:=by unfold iD;omega
  rw[if_neg L,if_neg L];refine bA l.length 0 (λk u=>[u,.int .i64 (k:Int)]) (λk u h'=>New (Rp.int .i64) h h' u ((l.map λx=>cg x 1073741824 (kP l)).take k)) (.slice none 0 0) rfl (Nat.zero_le _) (New.nil (Ext.refl _)) λk u h2 again ρj _ hk G I=>?_
  simp only[go_sem];refine aj (λh0=>?_) (λh0=>?_)
  ·have D:k<l.length:=by omega
   obtain⟨p,e3,e4⟩:=(H.ext G.2.1).int_at (k':=.i64) D;simp only[go_sem,e3,e4];refine(gI (F _ (List.getElem_mem _)) (by unfold I64;omega) hs).mono λv2 h3 ⟨e5,w5⟩=>?_
   subst e5;have A:((l.map λx=>cg x 1073741824 (kP l)).take k).length=k:=by rw[List.length_take,List.length_map];omega
   unfold iD at L;refine(G.ext w5).push_int rfl (by rw[A];omega) (by rw[A];omega) λs' h' W=>?_
   try rw[cN,ah]
   rw[w64 (by omega) (by omega)];have:=I s' h' D (by rw[Bm _ _ D];exact W);exact this
  ·rw[List.take_of_length_le (by rw[List.length_map];omega)]at G;exact⟨u,rfl,G⟩
theorem Nb {h:af}{s:Int}(hs:I64 s):ae prog nT #[.int .i64 s] h λr h'=>∃u,r=.tuple #[u,.int .i64 (Cd s)]∧New (Rp.int .i64) h h' u (lX s):=by
 apply Du;unfold tz;simp only[go_sem];unfold Cd lX;refine aj (λh0=>?_) (λh0=>?_)
 ·have:kp s:=h0;rw[if_pos this,if_pos this];exact⟨_,rfl,New.nil (Ext.refl _)⟩
 ·have I:¬kp s:=h0;rw[if_neg I,if_neg I];have hr:0≤fu s∧fu s≤193∧65536*fu s≥3*s∧65536*(fu s-1)<3*s:=by unfold fu;omega
  generalize fu s=q at*;refine jN (λk=>[.int .i64 (k:Int)]) q.toNat 0 rfl (Nat.zero_le _) λk again ρj _ W D=>?_
  simp only[go_sem];rw[w64 (n:=(k:Int)*65536) (by omega) (by omega),w64 (n:=3*s) (by omega) (by omega)];refine aj (λh1=>?_) (λh1=>?_)
  ·rw[w64 (by omega) (by omega)];exact D (by omega)
  have G:(k:Int)=q:=by omega
  rw[G,w64 (n:=0-q) (by omega) (by omega)];obtain⟨N,hN⟩:∃N,N=(2*q+1).toNat:=⟨_,rfl⟩
  rw[←hN];refine bA N 0 (λk u=>[u,.int .i64 ((k:Int)-q)]) (λk u h'=>New (Rp.int .i64) h h' u (((List.range N).map λk:Nat=>y8 ((k:Int)-q) s).take k)) (.slice none 0 0) rfl (Nat.zero_le _) (New.nil (Ext.refl _)) λk u h2 again ρj _ W H D=>?_
  simp only[go_sem];refine aj (λL=>?_) (λL=>?_)
  ·have F:k<N:=by omega
   refine(S0 (by unfold I64;omega) hs).mono λv2 L ⟨e5,w5⟩=>?_
   subst e5;have A:(((List.range N).map λk:Nat=>y8 ((k:Int)-q) s).take k).length=k:=by rw[List.length_take,List.length_map,List.length_range];omega
   refine(H.ext w5).push_int rfl (by rw[A];omega) (by rw[A];omega) λs' h' U=>?_
   try rw[cN,ah]
   rw[w64 (by omega) (by omega)];have:=D s' h' F (by rw[lF _ _ _ F];exact U);rw[show((k+1:Nat):Int)-q=(k:Int)-q+1 by omega]at this;exact this
  ·rw[List.take_of_length_le (by rw[List.length_map,List.length_range];omega)]at H;exact⟨u,rfl,H⟩
theorem UT {h:af}{r:Int}(hr:I64 r):ae prog wL #[.int .i64 r] h λw h'=>∃u,w=.tuple #[u,.int .i64 (L5 r)]∧New (Rp.int .i64) h h' u (vG r):=by
 apply Kw;unfold AQ
 try simp only[go_sem]
 unfold L5 vG;refine aj (λh0=>?_) (λh0=>?_)
 ·have:qV r:=h0;rw[if_pos this,if_pos this];exact⟨_,rfl,New.nil (Ext.refl _)⟩
 ·have G:¬qV r:=h0;rw[if_neg G,if_neg G];rw[w64 (n:=2*r) (by omega) (by omega)]
  try simp only[go_sem]
  rw[w64 (n:=2*r+1) (by omega) (by omega)];obtain⟨N,W⟩:∃N:Nat,N=(2*r+1).toNat:=⟨_,rfl⟩
  rw[←W,show 2*r+1=(N:Int)by omega];refine bA N 0 (λk u=>[u,.int .i64 (k:Int)]) (λk u h'=>New (Rp.int .i64) h h' u (List.replicate k 1)) (.slice none 0 0) rfl (Nat.zero_le _) (New.nil (Ext.refl _)) λk u h2 again ρj _ hk D A=>?_
  simp only[go_sem];refine aj (λH=>?_) (λH=>?_)
  ·refine D.push_int rfl (by rw[List.length_replicate];omega) (by rw[List.length_replicate];omega) λL h' F=>?_
   try rw[cN,ah]
   rw[w64 (by omega) (by omega)];rw[←List.replicate_succ']at F;exact A L h' (by omega) F
  ·have:k=N:=by omega
   subst this;refine(Jx D.sl (λx I=>by rw[(List.mem_replicate.1 I).2];unfold I64;omega) (by rw[List.length_replicate];omega)).mono λw H ⟨u,e,U⟩=>?_
   subst e
   try simp only[go_sem]
   exact⟨u,rfl,U.before D.2.1⟩
theorem Mq {k:IntKind}{Z:Nat→Prop}{h:af}{v:Value}{l:List Int}(H:Rp.Ow (Rp.int k) Z h v l):Own 1 h v l.length (l.map λn=>Value.int k n):=by
 obtain⟨ds,D,_,G⟩:=H;have I:ds.length=l.length*1:=D.sl.1;have e:ds=l.map λn=>Value.int k n:=by
  apply List.ext_getElem
  ·simp;omega
  ·intro i h1 L;have F:=G i (by omega);have A:Rp.el 1 ds i=[Value.int k (l[i]'(by omega))]:=F;rw[Rp.el_one h1]at A;simpa using A
 rw[←e];exact D
structure JW (h0 h:af)(x y:Value)(l m:List Int):Prop where
 ext:Ext h0 h
 ox:Rp.Ow (Rp.int .i64) (λ_=>False) h x l
 oy:Rp.Ow (Rp.int .i64) (λ_=>False) h y m
 nx:∀b,blk x b→h0.size≤b
 ny:∀b,blk y b→h0.size≤b
 dis:∀b,blk x b→¬blk y b
theorem JW.more {h0 h h':af}{x y:Value}{l m:List Int}(T:JW h0 h x y l m)(e:Ext h h'):JW h0 h' x y l m:=⟨T.ext.trans e,T.ox.ext e,T.oy.ext e,T.nx,T.ny,T.dis⟩
theorem JW.push_x {h0 h:af}{x y:Value}{l m:List Int}{n:Int}{t I:TypeId}{bytes:Nat}{K:Value→af→Prop}(T:JW h0 h x y l m)(A:(l.length+1)*bytes≤140737488355328)(W:l.length+1≤9223372036854775807)
  (H:∀G h',JW h0 h' G y (l++[n]) m→K G h'):cE #[.int .i64 0] t 1 [(0,1,.int .i64 n)] h λU h3=>cF (.int .i64 0) I 1 bytes x U h3 K:=by
 refine Rp.push_ow1 (e:=Rp.int .i64) rfl T.ox (x:=n) rfl rfl A W (λb A=>A.elim) λs' h' o' D n'=>H s' h' ⟨T.ext.then_fr D T.nx,o',T.oy.fr D (λ_ _=>False.elim) λb A L=>T.dis b L A,λb A=>?_,T.ny,λb A F=>?_⟩
 ·rcases n' b A with h1|h1
  ·exact T.nx b h1
  ·exact Nat.le_trans T.ext.1 h1
 ·rcases n' b A with h1|h1
  ·exact T.dis b h1 F
  ·have:=T.oy.lt F;omega
theorem JW.swap {h0 h:af}{x y:Value}{l m:List Int}(T:JW h0 h x y l m):JW h0 h y x m l:=⟨T.ext,T.oy,T.ox,T.ny,T.nx,λb D A=>T.dis b A D⟩
theorem pX {β:Type}(g:Nat→β)(n k:Nat)(h:k<n):(List.range (k+1)).map g=(List.range k).map g++[g k]:=by
 rw[List.range_succ,List.map_append];rfl
theorem Bp {Z:Nat→Prop}{h:af}{v:Value}{l:List Int}(H:SlI Z h v l)(ab:∀x∈l,I64 x)(hl:l.length<4611686018427387904):
  ae prog gu #[v] h λr h'=>∃u,r=.tuple #[u,.int .i64 (ck l)]∧New (Rp.int .i64) h h' u (bN l):=by
 apply BM;unfold rL;obtain⟨a,cap,e⟩:=H.isSl;have e2:aq v=some (.int .i64 (l.length:Int)):=by rw[e];rfl
 simp only[go_sem,e2];refine aj (λh0=>?_) (λh0=>?_)
 ·have hB:Cr l:=by unfold Cr;rcases h0 with h2|h2;exact .inl (by omega);exact .inr (.inl (by omega))
  have hc:ck l=7:=by unfold ck;rw[if_pos hB]
  unfold bN;rw[hc,if_neg (by omega)];exact⟨_,rfl,New.nil (Ext.refl _)⟩
 refine bA (α:=Unit) l.length 0 (λi _=>[.int .i64 (i:Int)]) (λi _ h'=>(∀j (L:j<l.length),j<i→¬1099511627776<kW l[j])∧h'=h) () rfl (Nat.zero_le _) ⟨λj _ L=>absurd L (by omega),rfl⟩ λi _ h1 again ρj _ hi ⟨hs,eh⟩ ad=>?_
 have eh:=eh.symm;subst eh;simp only[go_sem];refine aj (λh2=>?_) (λh2=>?_)
 ·have F:i<l.length:=by omega
  obtain⟨p,e3,e4⟩:=H.int_at (k':=.i64) F;simp only[go_sem,e3,e4];have W:=ab _ (List.getElem_mem F);refine(Ph W).mono λv1 h1 ⟨e1,w1⟩=>?_
  have w1:=w1.symm;subst e1 w1;simp only[go_sem];refine aj (λD=>?_) (λD=>?_)
  ·have hB:Cr l:=.inr (.inr ⟨_,List.getElem_mem F,D⟩);have hc:ck l=7:=by unfold ck;rw[if_pos hB]
   unfold bN;rw[hc,if_neg (by omega)];exact⟨_,rfl,New.nil (Ext.refl _)⟩
  ·rw[w64 (by omega) (by omega)];refine ad () h F ⟨λj L b8=>?_,rfl⟩;by_cases b6:j=i
   ·subst b6;exact D
   ·exact hs j L (by omega)
 have b0:i=l.length:=by omega
 subst b0;have hB:¬Cr l:=by
  unfold Cr;rintro(D|D|⟨x,W,D⟩)
  ·omega
  ·omega
  ·obtain⟨j,L,rfl⟩:=List.getElem_of_mem W;exact hs j L L D
 refine(Wy H ab hl).mono λv1 h1 ⟨e1,w1⟩=>?_
 have w1:=w1.symm;subst e1 w1;simp only[go_sem];refine aj (λD=>?_) (λD=>?_)
 ·have hc:ck l=8:=by unfold ck;rw[if_neg hB,if_pos D]
  unfold bN;rw[hc,if_neg (by omega)];exact⟨_,rfl,New.nil (Ext.refl _)⟩
 have hc:ck l=0:=FK.2 ⟨hB,by omega⟩;have G:=Um ab hc;have s1:=G.sum;have b4:=ND l;have hn:=G.len;have bg:=G.pos;unfold bN;rw[if_pos hc,hc];refine bA (α:=Value×Value) l.length 0 (λk a=>[a.1,a.2,.int .i64 (sq l k),.int .i64 (k:Int)]) (λk a h'=>JW h h' a.1 a.2 ((List.range k).map (fg l)) ((List.range k).map (df l))) (.slice none 0 0,.slice none 0 0) rfl (Nat.zero_le _)
  ⟨Ext.refl _,Rp.Ow.nil,Rp.Ow.nil,λb A=>A.elim,λb A=>A.elim,λb A=>A.elim⟩ λk a h1 again ρj _ hk T ad=>?_
 obtain⟨x,y⟩:=a;have T:JW h h1 x y ((List.range k).map (fg l)) ((List.range k).map (df l)):=T;simp only[go_sem];refine aj (λh4=>?_) (λh4=>?_)
 ·have aa:k<l.length:=by omega
  obtain⟨p,e3,e4⟩:=(H.ext T.ext).int_at (k':=.i64) aa;simp only[go_sem,e3,e4];have eg:l.getD k 0=l[k]:=by simp[List.getD_eq_getElem?_getD,aa]
  have W:=G.small k;rw[eg]at W;rw[w64 (n:=l[k]*16384) (by omega) (by omega)];refine(LQ (by unfold I64;omega) b4).mono λv1 h4 ⟨e5,w5⟩=>?_
  subst e5;rw[nM (by unfold I64;omega) (by omega)];have eb:l[k]*16384/kN l=fg l k:=by unfold fg;rw[eg]
  have er:df l k=l[k]*16384-fg l k*kN l:=by unfold df;rw[←eb,eg,Int.emod_def,Int.mul_comm (kN l)]
  rw[eb];have bk:=vI G k;have cc:=IM G k;have be:=Hh G k;refine(T.more w5).push_x (by rw[List.length_map,List.length_range];omega) (by rw[List.length_map,List.length_range];omega) λx' h5 T=>?_
  try simp only[go_sem]
  have cp:fg l k*kN l=l[k]*16384-df l k:=by rw[er];omega
  have ca:df l k<kN l:=be.2;have cr:kN l≤1152921504606846976:=by
   have h6:=Mm G l.length;rw[←K4 G]at h6;have:(l.length:Int)*1099511627776≤1048576*1099511627776:=by omega
   omega
  rw[w64 (n:=fg l k*kN l) (by omega) (by omega),←er,w64 (n:=df l k) (by omega) (by omega)];refine T.swap.push_x (by rw[List.length_map,List.length_range];omega) (by rw[List.length_map,List.length_range];omega) λy' h6 T=>?_
  try simp only[go_sem]
  rw[w64 (n:=sq l k-fg l k) (by omega) (by omega),w64 (n:=(k:Int)+1) (by omega) (by omega)];refine ad (x',y') h6 aa ?_;rw[pX _ (k+1) k (by omega),pX _ (k+1) k (by omega)];exact T.swap
 have bc:k=l.length:=by omega
 subst bc;obtain⟨L0,L1⟩:=left_bd G;obtain⟨m,hm⟩:∃m:Nat,vC l=(m:Int):=⟨(vC l).toNat,by omega⟩
 have a7:sq l l.length=(m:Int):=hm;rw[a7];have o1:=Mq T.ox;have o2:=Mq T.oy;rw[List.length_map,List.length_range,List.map_map]at o1 o2;have an:=T.dis;have nx:=T.nx;have ny:=T.ny;have E1:=T.ext;obtain⟨ya,ar,ey⟩:=o2.isSl;have ey:y=.slice ya l.length ar:=ey;have a8:aq y=some (.int .i64 (l.length:Int)):=by rw[ey];rfl
 refine bA (α:=Unit) m 0 (λk _=>[.int .i64 ((m:Int)-(k:Int))])
  (λk _ h'=>Ext h h'∧Own 1 h' x l.length ((List.range l.length).map λi=>Value.int .i64 (fg l i+(if(jX (df l) l.length i:Int)<(k:Int)then 1 else 0)))∧Own 1 h' y l.length ((List.range l.length).map λi=>Value.int .i64 (iG (df l) l.length k i)))
  () (by simp) (Nat.zero_le _) ⟨E1,by
   rw[bE (f:=λi=>Value.int .i64 (fg l i)) (λi hi=>by rw[if_neg (by omega),Int.add_zero])];exact o1,by rw[N0];exact o2⟩ λk _ h2 ay ρj2 _ hk ⟨E2,q1,q2⟩ au=>?_
 simp only[go_sem];refine aj (λh5=>?_) (λh5=>?_)
 ·have b3:k<m:=by omega
  rw[a8,ah];have b7:∀i,i<l.length→0≤df l i:=λi _=>(Hh G i).1
  refine bA (α:=Nat) l.length 0 (λj b=>[.int .i64 (b:Int),.int .i64 (j:Int)])
   (λj b h'=>h'=h2∧b<l.length∧(∀i,i<j→iG (df l) l.length k i≤iG (df l) l.length k b)∧(∀i,i<b→iG (df l) l.length k i<iG (df l) l.length k b)∧b≤j) 0 rfl (Nat.zero_le _)
   ⟨rfl,bg,λi hi=>absurd hi (by omega),λi hi=>absurd hi (by omega),Nat.le_refl _⟩ λj b D ax ρj3 _ L ⟨eh,A,p1,p2,ci⟩ U=>?_
  have eh:=eh.symm;subst eh;simp only[go_sem];refine aj (λh6=>?_) (λh6=>?_)
  ·have I:j<l.length:=by omega
   obtain⟨pj,j1,j2,_⟩:=Own.at_map q2 (k:=.i64) I;obtain⟨pb,b1,b2,_⟩:=Own.at_map q2 (k:=.i64) A;simp only[go_sem,j1,j2,b1,b2];rw[w64 (n:=(j:Int)+1) (by omega) (by omega)];refine aj (λh7=>?_) (λh7=>?_)
   ·refine U j h2 I ⟨rfl,I,λi hi=>?_,λi hi=>?_,by omega⟩
    ·by_cases al:i=j
     ·rw[al];exact Int.le_refl _
     ·have:=p1 i (by omega);omega
    ·have:=p1 i hi;omega
   ·refine U b h2 I ⟨rfl,A,λi hi=>?_,p2,by omega⟩;by_cases al:i=j
    ·rw[al];omega
    ·exact p1 i (by omega)
  have bd:j=l.length:=by omega
  subst bd;have aw:=Tr b7 (k:=k) (by omega) A p1 p2;obtain⟨px,x1,x2,x3⟩:=Own.at_map q1 (k:=.i64) A;simp only[go_sem,x1,x2];have bk:=vI G b;rw[w64 (n:=fg l b+(if(jX (df l) l.length b:Int)<(k:Int)then 1 else 0)+1) (by split<;>omega) (by split<;>omega)];refine x3 _ _ λD bo f3=>?_
  have bv:=q2.fr f3 λc hc W=>an c W hc
  obtain⟨py,y1,y2,y3⟩:=Own.at_map bv (k:=.i64) A;simp only[go_sem,y1];refine y3 _ _ λh4 b5 f4=>?_
  have a9:=bo.fr f4 λc hc hy=>an c hc hy
  rw[w64 (by omega) (by omega),show(m:Int)-(k:Int)-1=(m:Int)-((k+1:Nat):Int)by omega];refine au () h4 b3 ⟨(E2.then_fr f3 nx).then_fr f4 ny,?_,?_⟩
  ·rw[bE (f:=λj=>Value.int .i64 (if j=b then fg l b+(if(jX (df l) l.length b:Int)<(k:Int)then 1 else 0)+1 else fg l j+if(jX (df l) l.length j:Int)<(k:Int)then 1 else 0)) (λi hi=>by
    congr 1
    by_cases he:i=b
    ·rw[if_pos he,he,if_pos (by omega),if_neg (by omega)];omega
    ·rw[if_neg he];have cb:jX (df l) l.length i≠k:=λe=>he (Dn hi A (e.trans aw.symm))
     by_cases h8:jX (df l) l.length i<k
     ·rw[if_pos (by omega),if_pos (by omega)]
     ·rw[if_neg (by omega),if_neg (by omega)])]
   exact a9
  ·rw[bE (f:=λj=>Value.int .i64 (if j=b then-1 else iG (df l) l.length k j)) (λi hi=>by rw[N8 A aw hi])];exact b5
 ·have:k=m:=by omega
  subst this;refine⟨x,rfl,⟨(kM l).map λn=>Value.int .i64 n,?_,λc _=>id,λi hi=>?_⟩,E2,nx⟩
  ·rw[nB];unfold kM;rw[List.map_map];simp only[←hm]at q1;exact q1
  ·have e:Rp.el (Rp.int .i64).w ((kM l).map λn=>Value.int .i64 n) i=[Value.int .i64 (kM l)[i]]:=by
    have:=Rp.el_one (ds:=(kM l).map λn=>Value.int .i64 n) (i:=i) (by simpa using hi);rw[List.getElem_map]at this;exact this
   exact e
end Go.Proofs.YtjljhnandbbldaaGreatDoor
namespace Go.Proofs.YtjljhnandbbldaaGreatDoor
open Go Go.Crisp
attribute [local irreducible] ae cE aP stK aA vK qK bC gK dK aU mkK cF Ch DH zZ bsK
open _root_.Go.Proofs.Tryz
theorem Fa (a:Option Addr)(n c:Nat):ag .sl .eql (.slice a n c) (.slice none 0 0)=some (.bool a.isNone):=by cases a<;>rfl
theorem Tn {h:af}{Z:Nat→Prop}{v:Value}{l:List Int}(H:Rp.Sl rI Z h v l)(hl:l.length≤1000000000):
  ae prog cC #[v] h λr h'=>Rp.Sl rI (λb=>h.size≤b) h' r l∧Ext h h':=by
 apply gZ;unfold eE;obtain⟨ds,⟨D,a,cap,rfl,F⟩,A,he⟩:=H;rw[Fa,ah];cases a with
 | none=>
  have:l=[]:=by
   rcases F with F|⟨b,o,h0,_⟩
   ·subst F;have h2:([]:List Value).length=l.length*1:=D;exact List.eq_nil_of_length_eq_zero (by simpa using h2.symm)
   ·cases h0
  subst this;simp only[Option.isNone_none,go_sem];exact⟨Rp.Sl.nil,Ext.refl _⟩
 | some a=>
  simp only[Option.isNone_some,go_sem];refine cz (c':=#[]) rfl λb h1 r1 L n1=>?_
  have O:Rp.Ow rI (λ_=>False) h1 (.slice (some ⟨b,0,none⟩) 0 0) []:=⟨[],.inr ⟨b,0,[],_,rfl,Nat.le_refl _,rfl,rfl,r1⟩,λb hb G=>G,λi hi=>absurd hi (by simp)⟩
  have S1:SlC 1 h1 (.slice (some a) l.length cap) l.length ds:=SlC.ext ⟨D,some a,cap,rfl,F⟩ L;refine Rp.app_ow (e:=rI) (l:=[]) (l2:=l) O S1 (λi hi=>he i hi) rfl (by simp;omega) (by simp;omega) (λb hb=>hb.elim) λv2 h2 W f2 n2=>?_
  rw[List.nil_append]at W;have nb:∀k,blk (.slice (some ⟨b,0,none⟩) 0 0) k→h.size≤k:=λk U=>by have:k=b:=U;omega
  refine⟨W.sl.mono λk U A=>?_,L.then_fr f2 nb⟩;rcases A with A|A
  ·exact A.elim
  ·rcases n2 k A with I|I
   ·exact nb k I
   ·exact Nat.le_trans L.1 I
end Go.Proofs.YtjljhnandbbldaaGreatDoor
namespace Go.Crisp
open Go
def cT (g:Nat→Int):Nat→Int
 |0=>0
 |k+1=>if cT g k≠0 then cT g k else g k
theorem Bn {g:Nat→Int}{k n:Nat}(h:cT g k≠0)(D:k≤n):cT g n=cT g k:=by
  induction n with
  | zero => have:k=0:=by omega
            rw[this]
  | succ n A=>
    rcases Nat.lt_or_ge n k with h1|h1
    · have:k=n+1:=by omega
      rw[this]
    · have:=A h1
      show(if cT g n≠0 then cT g n else g n)=_;rw[this,if_pos h]
end Go.Crisp
namespace Go.Proofs.YtjljhnandbbldaaGreatDoor
open Go Go.Crisp
attribute [local irreducible] ae cE aP stK aA vK qK bC gK dK aU mkK cF Ch DH zZ bsK clK
open _root_.Go.Proofs.Tryz
def aT (n:Int):Prop:=1≤n∧n≤65536
instance (n:Int):Decidable (aT n):=by unfold aT;infer_instance
theorem OV (f:Int):OW f=[]↔ ¬(0≤f∧f<3):=by
 unfold OW;split
 ·constructor
  ·intro h;cases h
  ·intro h;omega
 split
 ·constructor
  ·intro h;cases h
  ·intro h;omega
 split
 ·constructor
  ·intro h;cases h
  ·intro h;omega
 ·constructor
  ·intro _;omega
  ·intro _;rfl
def cP (f n m:Int):Int:=if¬(0≤f∧f<3)∨¬aT n∨¬aT m then 6 else cT (λi=>ck (cq f n m i)) m.toNat
def dT (f n m:Int):Tbl:=⟨n,(List.range m.toNat).map λi:Nat=>(dC f n m i,bN (cq f n m i))⟩
theorem sb (f n m i:Int):∀x∈cq f n m i,I64 x:=by
 unfold cq;split
 ·intro x A;unfold Al at A;obtain⟨k,_,rfl⟩:=List.mem_map.1 A;exact PH _ _ _ _ _
 ·simp
theorem Hf (f n m i:Int):(cq f n m i).length<4611686018427387904:=by
 unfold cq;split
 ·rename_i h;unfold Al;rw[List.length_map,List.length_range];have:=IJ h;omega
 ·simp
theorem nN {l:List Int}(A:∀x∈l,I64 x):(bN l).length≤1048576∧∀x∈bN l, -67108864≤x∧x≤67108865:=by
 unfold bN;split
 ·rename_i h;have G:=Um A h;exact⟨by rw[nB];exact G.len,Sb G⟩
 ·simp
theorem FS {l:List Int}(A:∀x∈l,I64 x):∀x∈bN l,I64 x:=λx D=>by
 have:=(nN A).2 x D;unfold I64;omega
def Rc (h:af)(code:Int)(t:Tbl)(r:Value)(h':af):Prop:=∃p,r=.tuple #[p,.int .i64 code]∧Ext h h'∧(code≠0→p=.pointer none)∧(code=0→dY (λc=>h.size≤c∧c<h'.size) h' p t)
theorem JG {h:af}(G:dr h){f n m:Int}(hf:I64 f)(hn:I64 n)(hm:I64 m):ae prog jC #[.int .i64 f,.int .i64 n,.int .i64 m] h (Rc h (cP f n m) (dT f n m)):=by
 apply Ga;unfold xd;refine(LM G).mono λv1 h1 ⟨e1,w1⟩=>?_
 subst e1 w1;rw[R4,JQ,ah];unfold cP;have aa:=OV f;have I:(¬(0≤f∧f<3)∨¬aT n∨¬aT m)→Rc h1 (if¬(0≤f∧f<3)∨¬aT n∨¬aT m then 6 else cT (λi=>ck (cq f n m i)) m.toNat) (dT f n m) (.tuple #[.pointer none,.int .i64 6]) h1:=by
  intro hb;rw[if_pos hb];exact⟨_,rfl,Ext.refl _,λ_=>rfl,λh=>by cases h⟩
 by_cases h0:OW f=[]
 ·have A:=I (.inl (aa.1 h0));simp only[go_sem,h0];exact A
 have au:0≤f∧f<3:=Decidable.of_not_not λh=>h0 (aa.2 h)
 simp only[go_sem,h0];refine zj.mono λv1 h2 ⟨e1,w1⟩=>?_
 subst e1 w1;by_cases F:¬aT n
 ·have A:=I (.inr (.inl F));have q:(1≤n∧n≤65536)=False:=eq_false F;simp only[go_sem,q];exact A
 have F:aT n:=Decidable.of_not_not F;have q:(1≤n∧n≤65536)=True:=eq_true F;simp only[go_sem,q];refine zj.mono λv1 h3 ⟨e1,w1⟩=>?_
 subst e1 w1;by_cases H:¬aT m
 ·have A:=I (.inr (.inr H));have q:(1≤m∧m≤65536)=False:=eq_false H;simp only[go_sem,q];exact A
 have H:aT m:=Decidable.of_not_not H;have q:(1≤m∧m≤65536)=True:=eq_true H;simp only[go_sem,q,RI (a:=.int .i64 n) rfl,Option.map_some];rw[if_neg (by rintro(h|h|h);exact h au;exact h F;exact h H)]
 clear I q
 refine aC λb h4 r4 e4 n4=>?_
 have ad:=F;have W:=H;unfold aT at ad W;have D:∀k:Nat,((List.range k).map λi:Nat=>(dC f n m i,bN (cq f n m i))).length=k:=λk=>by simp
 refine bA m.toNat 0 (λk (_:Unit)=>[.int .i64 (k:Int)]) (λk _ h'=>cT (λi=>ck (cq f n m i)) k=0∧∃Z lv,Bq h3 Z h' b 224 lv n ((List.range k).map λi:Nat=>(dC f n m i,bN (cq f n m i)))) () rfl (Nat.zero_le _)
  ⟨rfl,λ_=>False,_,e4,r4,Rp.Ow.nil,n4,λc hc=>hc.elim,id,id,λc hc=>hc.elim⟩ λk _ h5 again ρj _ hk ⟨hg,Z,lv,T⟩ an=>?_
 try simp only[go_sem]
 refine aj (λh6=>?_) (λh6=>?_)
 ·have ab:k<m.toNat:=by omega
  have G5:=G.ext T.ext;refine(Pe G5).mono λw h7 ⟨v,e,Nw⟩=>?_
  subst e
  try simp only[go_sem]
  refine(zu Nw.sl (sb _ _ _ _) (Hf _ _ _ _)).mono λw h8 ⟨u,e,U⟩=>?_
  subst e
  try simp only[go_sem]
  refine aj (λL=>?_) (λL=>?_)
  ·have hc:cT (λi=>ck (cq f n m i)) (k+1)=ck (cq f n m k):=by
    show(if cT (λi=>ck (cq f n m i)) k≠0 then _ else _)=_;rw[if_neg (by rw[hg];simp)]
   have hs:=Bn (g:=λi=>ck (cq f n m i)) (k:=k+1) (n:=m.toNat) (by rw[hc];exact L) ab;rw[hs,hc];exact⟨_,rfl,(T.ext.trans Nw.2.1).trans U.2.1,λ_=>rfl,λh=>absurd h L⟩
  ·have L:ck (cq f n m k)=0:=Decidable.of_not_not L;have bd:=nN (sb f n m k);have T2:Bq h3 (λc=>Z c∨blk u c) h8 b 224 lv n _:=T.more (Z':=λc=>Z c∨blk u c) (Nw.2.1.trans U.2.1) (λc=>.inl) λc hc hz=>by
    rcases hc with hc|hc
    ·exact absurd hc hz
    ·exact⟨Nat.le_trans Nw.2.1.1 (U.2.2 c hc),U.1.lt hc⟩
   refine(Js T2 (U.sl.mono λc _ hc=>.inr hc) (FS (sb _ _ _ _)) (by omega) (by rw[D];omega)).mono λw ar ⟨al,T3,_⟩=>?_
   rw[w64 (by omega) (by omega)];refine an () ar ab ⟨?_,λc=>Z c∨blk u c,al,?_⟩
   ·show(if cT (λi=>ck (cq f n m i)) k≠0 then _ else _)=_;rw[if_neg (by rw[hg];simp)];exact L
   ·rw[List.range_succ,List.map_append];exact T3
 ·have:k=m.toNat:=by omega
  subst this;exact⟨_,by rw[hg],T.ext,λh=>absurd hg h,λ_=>T.done⟩
def gn (l:List Int)(n:Int):Int:=if¬aT n then 6 else if l.length%2=0 then 7 else ck l
def iI (l:List Int)(n:Int):Tbl:=⟨n,(List.range n.toNat).map λi:Nat=>((i:Int)-(l.length/2:Nat),bN l)⟩
theorem Pr {h:af}{Z:Nat→Prop}{v:Value}{l:List Int}{n:Int}(H:SlI Z h v l)(I:∀x∈l,I64 x)(hl:l.length<4611686018427387904)(hn:I64 n):ae prog ml #[v,.int .i64 n] h (Rc h (gn l n) (iI l n)):=by
 apply Gb;unfold xe;refine zj.mono λv1 h1 ⟨e1,w1⟩=>?_
 subst e1 w1;unfold gn;obtain⟨a,cap,e⟩:=H.isSl;have e2:aq v=some (.int .i64 (l.length:Int)):=by rw[e];rfl
 by_cases D:¬aT n
 ·rw[if_pos D];have q:(1≤n∧n≤65536)=False:=eq_false D;simp only[go_sem,q];exact⟨_,rfl,Ext.refl _,λ_=>rfl,λh=>by cases h⟩
 rw[if_neg D];have D:aT n:=Decidable.of_not_not D;have q:(1≤n∧n≤65536)=True:=eq_true D;have L:=D;unfold aT at L;simp only[go_sem,q,e2];rw[dc _ _ _ _ (by omega),ah,Int.tmod_eq_emod_of_nonneg (by omega)];simp only[go_sem];refine aj (λh0=>?_) (λh0=>?_)
 ·rw[if_pos (by omega)];exact⟨_,rfl,Ext.refl _,λ_=>rfl,λh=>by cases h⟩
 rw[if_neg (by omega)];refine(zu H I hl).mono λw h2 ⟨u,e,G⟩=>?_
 subst e;simp only[go_sem];refine aj (λF=>?_) (λF=>?_)
 ·exact⟨_,rfl,G.2.1,λ_=>rfl,λh=>absurd h F⟩
 have F:ck l=0:=Decidable.of_not_not F;have an:(bN l).length=l.length:=by unfold bN;rw[if_pos F,nB]
 have bd:=nN I;simp only[RI (a:=.int .i64 n) rfl,Option.map_some,ah,bG];refine aC λb h4 r4 e4 n4=>?_
 have A:∀k:Nat,((List.range k).map λi:Nat=>((i:Int)-(l.length/2:Nat),bN l)).length=k:=λk=>by simp
 refine bA n.toNat 0 (λk (_:Unit)=>[.int .i64 (k:Int)]) (λk _ h'=>∃lv,Bq h1 (blk u) h' b 224 lv n ((List.range k).map λi:Nat=>((i:Int)-(l.length/2:Nat),bN l))∧SlI (blk u) h' u (bN l)) () rfl (Nat.zero_le _)
  ⟨_,⟨G.2.1.trans e4,r4,Rp.Ow.nil,Nat.le_trans G.2.1.1 n4,λc hc=>hc.elim,λhc=>by have:=G.1.lt hc;omega,id,λc hc=>⟨G.2.2 c hc,by have:=G.1.lt hc;have:=e4.1;omega⟩⟩,G.sl.ext e4⟩ λk _ h5 again ρj _ hk ⟨lv,T,W⟩ aa=>?_
 try simp only[go_sem]
 refine aj (λh6=>?_) (λh6=>?_)
 ·have al:k<n.toNat:=by omega
  obtain⟨au,cu,eu⟩:=W.isSl;have ab:aq u=some (.int .i64 (l.length:Int)):=by rw[eu,an];rfl
  simp only[go_sem,ab];rw[kq _ _ _ _ (by omega),ah,Int.tdiv_eq_ediv_of_nonneg (by omega),w64 (n:=(l.length:Int)/2) (by omega) (by omega)];simp only[go_sem];rw[w64 (n:=(k:Int)-(l.length:Int)/2) (by omega) (by omega),show(k:Int)-(l.length:Int)/2=(k:Int)-(l.length/2:Nat)by omega];refine(Js T W (FS I) (by omega) (by rw[A];omega)).mono λw ad ⟨U,T3,F3⟩=>?_
  try simp only[go_sem]
  rw[w64 (by omega) (by omega)];have hd:∀c,blk u c→¬(c=b∨blk lv c):=λc hc hm=>by
   rcases hm with rfl|hm
   ·exact T.zb hc
   ·obtain⟨ds,_,h2,_⟩:=T.ow;exact h2 c hm hc
  refine aa () ad al ⟨U,?_,W.fr F3 λc _ hc=>hd c hc⟩;rw[List.range_succ,List.map_append];exact T3
 ·have:k=n.toNat:=by omega
  subst this;exact⟨_,by rw[F],T.ext,λh=>absurd F h,λ_=>T.done⟩
theorem Nm {Z:Nat→Prop}{h:af}{p:Value}{t:Tbl}(H:dY Z h p t):ae prog eG #[p] h λr h'=>r=.int .i64 t.n∧h'=h:=by
 apply Aq;unfold qx;obtain⟨b,lv,rfl,A,G,I,D,F,_⟩:=H.open;simp only[go_sem,A];exact⟨by simp,by simp⟩
theorem Ax {Z:Nat→Prop}{h:af}{p:Value}{t:Tbl}(H:dY Z h p t):ae prog bB #[p] h λr h'=>r=.int .i64 (t.lines.length:Int)∧h'=h:=by
 apply Dq;unfold tm;obtain⟨b,lv,rfl,I,F,L,G,D,_⟩:=H.open;obtain⟨a,cap,e⟩:=D.isSl;have A:aq lv=some (.int .i64 (t.lines.length:Int)):=by rw[e];rfl
 simp only[go_sem,F,A];exact⟨by simp,by simp⟩
theorem Nl {Z:Nat→Prop}{h:af}{p:Value}{t:Tbl}(H:dY Z h p t):ae prog eF #[p] h λr h'=>r=.int .i64 (bu t.lines)∧h'=h:=by
 apply Ao;unfold qu;obtain⟨b,lv,rfl,G,I,A,D,F,_⟩:=H.open;simp only[go_sem,A];exact⟨by simp,by simp⟩
structure _root_.Go.Crisp.Tbl.Wf (t:Tbl):Prop where
 len:t.lines.length≤65536
 taps:∀x∈t.lines,x.2.length≤1048576∧ -70368744177664≤x.1∧x.1≤70368744177664
def aZ (t:Tbl)(i:Int):Int×List Int:=if 0≤i then t.lines.getD i.toNat (0,[])else(0,[])
theorem zt {Z:Nat→Prop}{h:af}{p:Value}{t:Tbl}(H:dY Z h p t)(W:t.Wf){i:Int}:ae prog bh #[p,.int .i64 i] h λr h'=>∃u,r=.agg #[.int .i64 (aZ t i).1,u]∧SlI (λb=>h.size≤b∧b<h'.size) h' u (aZ t i).2∧Ext h h':=by
 apply Ap;unfold qw;refine aC λbv h1 r1 F n1=>?_
 obtain⟨b,lv,rfl,c0,c1,c2,c3,hl,_⟩:=dY.open (H.ext F);obtain⟨a,cap,e⟩:=hl.isSl;have e2:aq lv=some (.int .i64 (t.lines.length:Int)):=by rw[e];rfl
 simp only[go_sem,c1,e2];unfold aZ;refine aj (λh0=>?_) (λh0=>?_)
 ·have L:(if 0≤i then t.lines.getD i.toNat (0,[])else((0,[]):Int×List Int))=(0,[]):=by
   split
   ·rw[List.getD_eq_getElem?_getD,List.getElem?_eq_none (by omega)];rfl
   ·rfl
  rw[L,fo,Option.map_some,ah];refine ch (l:=[.int .i64 0,.slice none 0 0]) r1 rfl (ak rfl (ak rfl aQ)) rfl λh2 r2 u2=>?_
  rw[aM r2 2 rfl,ah];exact⟨_,rfl,Rp.Sl.nil,F.upd n1 u2⟩
 ·obtain⟨k,rfl⟩:∃k:Nat,i=(k:Int):=⟨i.toNat,by omega⟩
  have G:k<t.lines.length:=by omega
  have L:(if(0:Int)≤(k:Int)then t.lines.getD (k:Int).toNat (0,[])else((0,[]):Int×List Int))=t.lines[k]:=by
   rw[if_pos (by omega),Int.toNat_natCast,List.getD_eq_getElem?_getD,List.getElem?_eq_getElem G];rfl
  rw[L];obtain⟨b2,o2,cs,D,i2,i3,⟨u,rfl,hu⟩,A⟩:=Rp.Sl.atp (e:=km) hl (show 0<2 by omega) (k:=.i64) G;have D:aR 2 lv (.int .i64 (k:Int))=some (.pointer (some ⟨b2,o2,none⟩)):=D;have j0:=i3 0 (by simp);have j1:=i3 1 (by simp);simp only[List.getElem_cons_zero,List.getElem_cons_succ]at j0 j1;refine aI (λh'=>Ext h1 h') (Ext.refl _) ?_;refine ao lv (λh' e=>e.cell c1) ?_;rw[D];simp only[go_sem];refine ao _ (λh' e=>e.cell j0) ?_;refine ao lv (λh' e=>e.cell c1) ?_;rw[D];simp only[go_sem];refine ao _ (λh' e=>e.cell j1) ?_;have aa:=(W.taps _ (List.getElem_mem G)).1;refine(Tn hu (by omega)).mono λw h3 ⟨hw,I⟩=>?_
  refine⟨I,?_⟩;have one:=hw.one;rw[wD (a:=.int .i64 t.lines[k].1) rfl one,Option.map_some,ah];refine ch (l:=[.int .i64 t.lines[k].1,w]) (I.row r1) rfl (ak rfl (ak one aQ)) rfl λh5 r5 u5=>?_
  rw[aM r5 2 rfl,ah];have hb:=aW r1;refine⟨w,rfl,?_,(F.trans I).upd n1 u5⟩;obtain⟨ds,hs,A,U⟩:=hw.fr (M:=λc=>c=bv) u5.fr λc hc A U=>by have:=U▸A;omega
  refine⟨ds,hs,λh0 c hc=>⟨?_,?_⟩,λi hi=>U i hi⟩
  ·have:=A h0 c hc;have:=F.1;omega
  ·exact hs.lt h0 hc
def Bz (ls:List (Int×List Int))(x0:Int):Int:=ls.foldl (λm x=>min m x.1) x0
def Em (ls:List (Int×List Int))(x0:Int):Int:=ls.foldl (λm x=>max m (x.1+(x.2.length:Int))) x0
def Md (t:Tbl)(i k:Nat):List (Int×List Int):=(t.lines.drop i).take (k-i)
def uo (t:Tbl)(i k:Int):Int×Int:=
 if(min k (t.lines.length:Int))≤max i 0 then(0,0)
 else let i':=(max i 0).toNat;let k':=(min k (t.lines.length:Int)).toNat;let x0:=(t.lines.getD i' (0,[])).1
  (Bz (Md t i' k') x0,Em (Md t i' k') x0-Bz (Md t i' k') x0)
theorem zc {β γ:Type}(f:γ→β→γ)(l:List β){k:Nat}(h:k<l.length)(s:γ):(l.take (k+1)).foldl f s=f ((l.take k).foldl f s) l[k]:=by
 rw[List.take_succ_eq_append_getElem h,List.foldl_append];rfl
theorem TQ {ls:List (Int×List Int)}{x0:Int}(h0: -70368744177664≤x0∧x0≤70368744177664)(h:∀x∈ls,x.2.length≤1048576∧ -70368744177664≤x.1∧x.1≤70368744177664):
  (-70368744177664≤Bz ls x0∧Bz ls x0≤70368744177664)∧ -70368744177664≤Em ls x0∧Em ls x0≤70369000000000:=by
 unfold Bz Em;have F:∀(ls:List (Int×List Int)) (m:Int),(∀x∈ls,x.2.length≤1048576∧ -70368744177664≤x.1∧x.1≤70368744177664)→ -70368744177664≤m∧m≤70368744177664→ -70368744177664≤ls.foldl (λm x=>min m x.1) m∧ls.foldl (λm x=>min m x.1) m≤70368744177664:=by
  intro ls;induction ls with
  |nil=>intro m _ h;exact h
  |cons x ls A=>intro m h H;have:=h x (by simp);exact A _ (λy D=>h y (by simp[D])) (by dsimp only;omega)
 have G:∀(ls:List (Int×List Int)) (m:Int),(∀x∈ls,x.2.length≤1048576∧ -70368744177664≤x.1∧x.1≤70368744177664)→ -70368744177664≤m∧m≤70369000000000→ -70368744177664≤ls.foldl (λm x=>max m (x.1+(x.2.length:Int))) m∧ls.foldl (λm x=>max m (x.1+(x.2.length:Int))) m≤70369000000000:=by
  intro ls;induction ls with
  |nil=>intro m _ h;exact h
  |cons x ls A=>intro m h H;have:=h x (by simp);exact A _ (λy D=>h y (by simp[D])) (by dsimp only;omega)
 exact⟨F ls x0 h h0,G ls x0 h (by omega)⟩
theorem Nj {Z:Nat→Prop}{h:af}{p:Value}{t:Tbl}(H:dY Z h p t)(W:t.Wf){i k:Int}(hi:I64 i)(hk:I64 k):ae prog fB #[p,.int .i64 i,.int .i64 k] h λr h'=>r=.tuple #[.int .i64 (uo t i k).1,.int .i64 (uo t i k).2]∧Ext h h':=by
 apply yM;unfold oR;obtain⟨b,lv,rfl,c0,c1,c2,c3,hl,_,_,⟨la,ln,lc,el,ay⟩⟩:=H.open;have e2:aq lv=some (.int .i64 (t.lines.length:Int)):=by
  obtain⟨a,cap,e⟩:=hl.isSl;rw[e];rfl
 simp only[go_sem,c1,e2];unfold uo;refine aj (λh0=>?_) (λh0=>?_)
 ·rw[if_pos h0];exact⟨rfl,Ext.refl _⟩
 rw[if_neg h0];obtain⟨A,al⟩:∃A:Nat,max i 0=(A:Int):=⟨(max i 0).toNat,by omega⟩
 obtain⟨k',an⟩:∃k':Nat,min k (t.lines.length:Int)=(k':Int):=⟨(min k (t.lines.length:Int)).toNat,by omega⟩
 simp only[al,an,Int.toNat_natCast]at h0 ⊢;have a8:A<k':=by omega
 have ad:k'≤t.lines.length:=by omega
 have L:A<t.lines.length:=by omega
 have eg:t.lines.getD A (0,[])=t.lines[A]:=by rw[List.getD_eq_getElem?_getD,List.getElem?_eq_getElem L];rfl
 rw[eg];obtain⟨b2,o2,cs,q1,q2,q3,⟨u,rfl,hu⟩,hz⟩:=Rp.Sl.atp (e:=km) hl (show 0<2 by omega) (k:=.i64) L;have q1:aR 2 lv (.int .i64 (A:Int))=some (.pointer (some ⟨b2,o2,none⟩)):=q1;have j0:=q3 0 (by simp);simp only[List.getElem_cons_zero]at j0;obtain⟨I,s1,s2⟩:=hl.part (show A≤k' by omega) ad el ay (k:=.i64) (k':=.i64);have s1:un 2 lv (some (.int .i64 (A:Int))) (some (.int .i64 (k':Int)))=some I:=s1;simp only[go_sem,q1,j0,c1,s1];have ab:(t.lines.drop A).take (k'-A)=Md t A k':=rfl;rw[ab]at s2;have a9:(Md t A k').length=k'-A:=by unfold Md;rw[List.length_take,List.length_drop];omega
 have G:∀x∈Md t A k',x∈t.lines:=λx hx=>List.mem_of_mem_drop (List.mem_of_mem_take hx)
 obtain⟨a3,a7,e3⟩:=s2.isSl;have e4:aq I=some (.int .i64 ((Md t A k').length:Int)):=by rw[e3];rfl
 rw[e4,ah];generalize aw:t.lines[A].1=x0;have aa:=W.taps _ (List.getElem_mem L);rw[aw]at aa;generalize bc:Md t A k'=F at*;refine bA F.length 0 (λk (_:Unit)=>[.int .i64 (Bz (F.take k) x0),.int .i64 (Em (F.take k) x0),.int .i64 (k:Int)]) (λk _ h'=>Ext h h') () rfl (Nat.zero_le _) (Ext.refl _) λk _ h2 again ρj _ hk E2 ar=>?_
 simp only[go_sem];refine aj (λh3=>?_) (λh3=>?_)
 ·have D:k<F.length:=by omega
  obtain⟨p2,bd,z1,z2,⟨u2,rfl,U⟩⟩:=Rp.Sl.atw (e:=km) (s2.ext E2) (show 0<2 by omega) (k:=.i64) D;have z1:aR 2 I (.int .i64 (k:Int))=some p2:=z1;have z2:aH 2 h2 p2=some (.agg #[.int .i64 F[k].1,u2]):=z2;rw[z1,ah,z2,ah];refine cD (cs:=[.int .i64 F[k].1,u2]) rfl (ak rfl (ak U.one aQ)) rfl λbv h4 r4 e5 n5=>?_
  obtain⟨au,cu,eu⟩:=U.isSl;have ax:aq u2=some (.int .i64 (F[k].2.length:Int)):=by rw[eu];rfl
  have d0:aB h4 ⟨bv,0,none⟩=some (.int .i64 F[k].1):=ai r4;have d1:aB h4 ⟨bv,1,none⟩=some u2:=ai r4;have hw:=W.taps _ (G _ (List.getElem_mem D));simp only[go_sem,d0,d1,ax];rw[w64 (n:=F[k].1+(F[k].2.length:Int)) (by omega) (by omega),w64 (n:=(k:Int)+1) (by have:=W.len;omega) (by have:=W.len;omega)];have:=ar () h4 D (E2.trans e5);unfold Bz Em at this ⊢;rw[zc _ _ D,zc _ _ D]at this;exact this
 ·rw[List.take_of_length_le (by omega)];have:=TQ (ls:=F) (x0:=x0) aa.2 (λx hx=>W.taps x (G x hx));rw[w64 (by omega) (by omega)];exact⟨rfl,E2⟩
theorem Pw (b:Int):JT b=[]↔ ¬(0≤b∧b<3):=by
 unfold JT;split
 ·constructor
  ·intro h;cases h
  ·intro h;omega
 split
 ·constructor
  ·intro h;cases h
  ·intro h;omega
 split
 ·constructor
  ·intro h;cases h
  ·intro h;omega
 ·constructor
  ·intro _;omega
  ·intro _;rfl
def jh (o:OpD):Prop:=(0≤o.kind∧o.kind<4)∧(0≤o.border∧o.border<3)∧(o.kind=3→aT o.w∧aT o.hh∧0≤o.filter∧o.filter<3)
instance (o:OpD):Decidable (jh o):=by unfold jh;infer_instance
theorem D4 {h:af}{n:Int}:ae prog ru #[.int .i64 n] h λr h'=>r=.bool (decide (aT n))∧h'=h:=by
 apply Qg;unfold GV;simp only[go_sem];exact⟨rfl,by first|rfl|trivial⟩
theorem WK {Z:Nat→Prop}{h:af}(G:dr h){cs:List Value}{o:OpD}(H:rOp.R Z h cs o):ae prog JY #[.agg cs.toArray] h λr h'=>r=.bool (decide (jh o))∧Ext h h':=by
 apply Sq;unfold K9;obtain⟨s,t,rfl,Hx,Hy⟩:=H;simp only[bG];refine aC λb h1 r1 D n1=>?_
 have G1:=G.ext D;simp only[go_sem,ai r1];have L:=Pw o.border;by_cases hk:o.kind<0∨4≤o.kind
 ·have q:jh o=False:=eq_false (by unfold jh;omega);simp only[go_sem,hk,q];exact⟨by simp,D⟩
 simp only[go_sem,hk];refine(D5 G1).mono λv h2 ⟨e,w⟩=>?_
 subst e w
 try rw[R4]
 rw[JQ,ah];by_cases W:JT o.border=[]
 ·have q:jh o=False:=eq_false (by unfold jh;exact λh=>L.1 W h.2.1);simp only[go_sem,W,q];exact⟨by simp,D⟩
 have I:0≤o.border∧o.border<3:=Decidable.of_not_not λh=>W (L.2 h)
 simp only[go_sem,W,ai r1];by_cases A:¬o.kind=3
 ·have q:jh o=True:=eq_true ⟨by omega,I,λh=>absurd h A⟩;simp only[go_sem,A,q];exact⟨by simp,D⟩
 have A:o.kind=3:=Decidable.of_not_not A;simp only[go_sem,A,ai r1];refine D4.mono λv h3 ⟨e,w⟩=>?_
 subst e w;by_cases F:¬aT o.w
 ·have q:jh o=False:=eq_false (λh=>F (h.2.2 A).1);simp only[go_sem,F,q];exact⟨by simp,D⟩
 have F:aT o.w:=Decidable.of_not_not F;simp only[go_sem,F,ai r1];refine D4.mono λv h4 ⟨e,w⟩=>?_
 subst e w;by_cases hh:¬aT o.hh
 ·have q:jh o=False:=eq_false (λh=>hh (h.2.2 A).2.1);simp only[go_sem,hh,q];exact⟨by simp,D⟩
 have hh:aT o.hh:=Decidable.of_not_not hh;simp only[go_sem,hh,ai r1];refine(LM G1).mono λv h5 ⟨e,w⟩=>?_
 subst e w
 try rw[R4]
 rw[JP,ah];have U:=OV o.filter;simp only[go_sem];refine⟨?_,D⟩
 congr 1
 rw[decide_eq_decide];unfold jh;constructor
 ·intro hf;exact⟨by omega,I,λ_=>⟨F,hh,Decidable.of_not_not λh=>hf (U.2 h)⟩⟩
 ·intro hf he;exact U.1 he (hf.2.2 A).2.2
def fJ (o:OpD):Int:=if o.kind=0 then Cd o.sigma else if o.kind=1 then L5 o.radius else if xN o.x≠0 then xN o.x else xN o.y
def dk (o:OpD):List Int:=if o.kind=0 then lX o.sigma else if o.kind=1 then vG o.radius else oN o.x
def b9 (o:OpD):List Int:=if o.kind=0 then lX o.sigma else if o.kind=1 then vG o.radius else oN o.y
theorem vS (o:OpD):∀x∈dk o,I64 x:=by
 unfold dk;split
 ·exact Jf _
 split
 ·exact L4 _
 ·exact Ed _
theorem vR (o:OpD):∀x∈b9 o,I64 x:=by
 unfold b9;split
 ·exact Jf _
 split
 ·exact L4 _
 ·exact Ed _
theorem uU (l:List Int):(oN l).length≤1024:=by
 unfold oN;split
 ·simp
 ·rename_i h;unfold iD at h;rw[List.length_map];omega
theorem Cc (s:Int):(lX s).length≤1024:=by
 unfold lX;split
 ·simp
 ·rename_i h;unfold kp at h;rw[List.length_map,List.length_range];unfold fu;omega
theorem EZ (r:Int):(vG r).length≤1024:=by
 unfold vG;split
 ·simp
 ·exact uU _
theorem CB (o:OpD):(dk o).length<4611686018427387904:=by
 unfold dk;split
 ·have:=Cc o.sigma;omega
 split
 ·have:=EZ o.radius;omega
 ·have:=uU o.x;omega
theorem Cz (o:OpD):(b9 o).length<4611686018427387904:=by
 unfold b9;split
 ·have:=Cc o.sigma;omega
 split
 ·have:=EZ o.radius;omega
 ·have:=uU o.y;omega
abbrev eo (h h':af)(c:Nat):Prop:=h.size≤c∧c<h'.size
theorem _root_.Go.Crisp.New.since {α:Type}{e:Rp α}{h0 h h':af}{v:Value}{l:List α}(H:New e h h' v l)(k:Ext h0 h):Rp.Sl e (eo h0 h') h' v l:=H.sl.mono λb D A=>⟨Nat.le_trans k.1 (H.2.2 b A),D⟩
theorem SV {Z:Nat→Prop}{h:af}{cs:List Value}{o:OpD}(H:rOp.R Z h cs o)(W:o.Wf)(lx:o.x.length<4611686018427387904)(ly:o.y.length<4611686018427387904):
  ae prog wT #[.agg cs.toArray] h λr h'=>∃u v,r=.tuple #[u,v,.int .i64 (fJ o)]∧Ext h h'∧(fJ o=0→SlI (eo h h') h' u (dk o)∧SlI (eo h h') h' v (b9 o)):=by
 apply KG;unfold A2;obtain⟨s,t,rfl,I,U⟩:=H;simp only[bG];refine aC λb h1 r1 D n1=>?_
 simp only[go_sem,ai r1];unfold fJ dk b9;refine aj (λF=>?_) (λF=>?_)
 ·rw[if_pos F,if_pos F,if_pos F];refine(JH W.sigma).mono λw G ⟨u,e,N⟩=>?_
  subst e;simp only[go_sem];exact⟨u,u,rfl,D.trans N.2.1,λ_=>⟨N.since D,N.since D⟩⟩
 rw[if_neg F,if_neg F,if_neg F];refine aj (λA=>?_) (λA=>?_)
 ·rw[if_pos A,if_pos A,if_pos A];refine(Yt W.radius).mono λw G ⟨u,e,N⟩=>?_
  subst e;simp only[go_sem];exact⟨u,u,rfl,D.trans N.2.1,λ_=>⟨N.since D,N.since D⟩⟩
 rw[if_neg A,if_neg A,if_neg A];refine(Cl (I.ext D) W.x lx).mono λw G ⟨u,e,N⟩=>?_
 subst e;simp only[go_sem];refine aj (λhu=>?_) (λhu=>?_)
 ·rw[if_pos hu];exact⟨_,_,rfl,D.trans N.2.1,λh=>absurd h hu⟩
 rw[if_neg hu];simp only[go_sem,ai (N.2.1.row r1)];refine(Cl ((U.ext D).ext N.2.1) W.y ly).mono λw h3 ⟨v,e,M⟩=>?_
 subst e;simp only[go_sem];refine⟨u,v,rfl,(D.trans N.2.1).trans M.2.1,λ_=>⟨?_,M.since (D.trans N.2.1)⟩⟩;exact((N.since D).ext M.2.1).mono λc hc L=>⟨L.1,hc⟩
def gh (o:OpD)(w h:Int):Int:=
 if o.kind=3 then(if cP o.filter w o.w≠0 then cP o.filter w o.w else cP o.filter h o.hh)
 else if fJ o≠0 then fJ o else if gn (dk o) w≠0 then gn (dk o) w else gn (b9 o) h
def iZ (o:OpD)(w:Int):Tbl:=if o.kind=3 then dT o.filter w o.w else iI (dk o) w
def dI (o:OpD)(h:Int):Tbl:=if o.kind=3 then dT o.filter h o.hh else iI (b9 o) h
theorem UO {Z:Nat→Prop}{h:af}(G:dr h){cs:List Value}{o:OpD}(H:rOp.R Z h cs o)(W:o.Wf)(lx:o.x.length<4611686018427387904)(ly:o.y.length<4611686018427387904){w hh:Int}(hw:I64 w)(U:I64 hh):
  ae prog zO #[.agg cs.toArray,.int .i64 w,.int .i64 hh] h λr h'=>∃p q,r=.tuple #[p,q,.int .i64 (gh o w hh)]∧Ext h h'∧(gh o w hh=0→dY (eo h h') h' p (iZ o w)∧dY (eo h h') h' q (dI o hh)):=by
 apply MN;unfold C7;have H0:=H;obtain⟨s,t,rfl,Hx,Hy⟩:=H;simp only[bG];refine aC λb h1 r1 D n1=>?_
 have G1:=G.ext D;simp only[go_sem,ai r1];unfold gh iZ dI;refine aj (λI=>?_) (λI=>?_)
 ·rw[if_pos I,if_pos I,if_pos I];refine(JG G1 W.filter hw W.w).mono λr h2 ⟨p,e,A,p0,p1⟩=>?_
  subst e;simp only[go_sem];refine aj (λhc=>?_) (λhc=>?_)
  ·rw[if_neg (by simpa using hc)];simp only[go_sem,ai (A.row r1)];refine(JG (G1.ext A) W.filter U W.hh).mono λr h3 ⟨q,e,L,q0,q1⟩=>?_
   subst e;simp only[go_sem];refine⟨p,q,rfl,(D.trans A).trans L,λh0=>⟨?_,?_⟩⟩
   ·exact((p1 hc).ext L).mono λc hc F=>⟨Nat.le_trans D.1 F.1,hc⟩
   ·exact(q1 h0).mono λc hc F=>⟨Nat.le_trans (D.trans A).1 F.1,F.2⟩
  ·rw[if_pos (by simpa using hc)];exact⟨p,_,rfl,D.trans A,λh0=>absurd h0 hc⟩
 rw[if_neg I,if_neg I,if_neg I];rw[aM r1 9 rfl,ah];refine(SV (rOp.ext H0 D) W lx ly).mono λr h2 ⟨u,v,e,A,hu⟩=>?_
 subst e;simp only[go_sem];refine aj (λhc=>?_) (λhc=>?_)
 ·rw[if_pos hc];exact⟨_,_,rfl,D.trans A,λh0=>absurd h0 hc⟩
 have aa:fJ o=0:=Decidable.of_not_not hc;rw[if_neg hc];obtain⟨Hu,Hv⟩:=hu aa;refine(Pr Hu (vS o) (CB o) hw).mono λr h3 ⟨p,e,L,p0,p1⟩=>?_
 subst e;simp only[go_sem];refine aj (λhc=>?_) (λhc=>?_)
 ·rw[if_neg (by simpa using hc)];refine(Pr (Hv.ext L) (vR o) (Cz o) U).mono λr h4 ⟨q,e,e4,q0,q1⟩=>?_
  subst e;simp only[go_sem];refine⟨p,q,rfl,((D.trans A).trans L).trans e4,λh0=>⟨?_,?_⟩⟩
  ·exact((p1 hc).ext e4).mono λc hc F=>⟨Nat.le_trans (D.trans A).1 F.1,hc⟩
  ·exact(q1 h0).mono λc hc F=>⟨Nat.le_trans ((D.trans A).trans L).1 F.1,F.2⟩
 ·rw[if_pos (by simpa using hc)];exact⟨p,_,rfl,(D.trans A).trans L,λh0=>absurd h0 hc⟩
structure Stg where
 x:Tbl
 y:Tbl
 border:Int
def nh (Z:Nat→Prop)(h:af)(v:Value)(s:Stg):Prop:=∃p q,v=.agg #[p,q,.int .i64 s.border]∧dY Z h p s.x∧dY Z h q s.y
theorem nh.mono {Z Z':Nat→Prop}{h:af}{v:Value}{s:Stg}(H:nh Z h v s)(q:∀b,b<h.size→Z b→Z' b):nh Z' h v s:=by
 obtain⟨p,r,rfl,h1,A⟩:=H;exact⟨p,r,rfl,h1.mono q,A.mono q⟩
theorem nh.ext {Z:Nat→Prop}{h h':af}{v:Value}{s:Stg}(H:nh Z h v s)(e:Ext h h'):nh Z h' v s:=by
 obtain⟨p,r,rfl,h1,A⟩:=H;exact⟨p,r,rfl,h1.ext e,A.ext e⟩
theorem kE {α:Type}{e:Rp α}{Z:Nat→Prop}{h:af}{v:Value}{x:α}(H:Rp.Pt e Z h v x):aJ v=true:=by
 obtain⟨b,ds,t,rfl,_⟩:=H;rfl
theorem XZ {a b c x y z:Value}(A:aJ a=true)(D:aJ b=true)(hc:aJ c=true):aF #[x,y,z] [(0,1,a),(1,1,b),(2,1,c)]=some #[a,b,c]:=by
 simp only[aF,bT A,bT D,bT hc];rfl
abbrev noStg:Value:=.agg #[.pointer none,.pointer none,.int .i64 0]
def dD (o:OpD)(w h:Int):Int:=if¬jh o∨¬aT w∨¬aT h then 6 else gh o w h
def bM (o:OpD)(w h:Int):Stg:=⟨iZ o w,dI o h,o.border⟩
def Vo (h:af)(code:Int)(s:Stg)(r:Value)(h':af):Prop:=∃v,r=.tuple #[v,.int .i64 code]∧Ext h h'∧(code≠0→v=noStg)∧(code=0→nh (eo h h') h' v s)
theorem EW {Z:Nat→Prop}{h:af}(G:dr h){cs:List Value}{o:OpD}(H:rOp.R Z h cs o)(W:o.Wf)(lx:o.x.length<4611686018427387904)(ly:o.y.length<4611686018427387904){w hh:Int}(hw:I64 w)(ar:I64 hh):
  ae prog lB #[.agg cs.toArray,.int .i64 w,.int .i64 hh] h (Vo h (dD o w hh) (bM o w hh)):=by
 apply Qi;unfold GX;have H0:=H;obtain⟨s,t,rfl,Hx,Hy⟩:=H;simp only[bG];refine aC λb h1 r1 e1 n1=>?_
 have l1:=aW r1;refine aC λb2 h2 r2 e2 n2=>?_
 have r1:=e2.row r1;have D:=e1.trans e2;have l2:=aW r2;have hb:b≠b2:=by omega
 rw[aM r1 9 rfl,ah];refine(WK (G.ext D) (rOp.ext H0 D)).mono λv h3 ⟨e,L⟩=>?_
 subst e;have U:∀(code:Int) (h4:af),dD o w hh=code→code≠0→Ext h2 h4→stK 3 (.pointer (some ⟨b2,0,none⟩)) (.agg #[.pointer none,.pointer none,.int .i64 0]) h4 λ_ al=>vK (aH 3 al (.pointer (some ⟨b2,0,none⟩))) λan=>Vo h (dD o w hh) (bM o w hh) (.tuple #[an,.int .i64 code]) al:=by
  intro code h4 A hc e4;rw[A];refine ch (l:=[.pointer none,.pointer none,.int .i64 0]) (e4.row r2) rfl (ak rfl (ak rfl (ak rfl aQ))) rfl λh5 r5 u5=>?_
  rw[aM r5 3 rfl,ah];exact⟨_,rfl,(D.trans e4).upd (Nat.le_trans e1.1 n2) u5,λ_=>rfl,λh=>absurd h hc⟩
 by_cases hm:¬jh o
 ·have A:dD o w hh=6:=if_pos (.inl hm);simp only[go_sem,hm,fo,Option.map_some];exact U 6 h3 A (by omega) L
 have hm:jh o:=Decidable.of_not_not hm;simp only[go_sem,hm];refine D4.mono λv h4 ⟨e,w⟩=>?_
 subst e w;by_cases I:¬aT w
 ·have A:dD o w hh=6:=if_pos (.inr (.inl I));simp only[go_sem,I,fo,Option.map_some];exact U 6 _ A (by omega) L
 have I:aT w:=Decidable.of_not_not I;simp only[go_sem,I];refine D4.mono λv h5 ⟨e,w⟩=>?_
 subst e w;by_cases F:¬aT hh
 ·have A:dD o w hh=6:=if_pos (.inr (.inr F));simp only[go_sem,F,fo,Option.map_some];exact U 6 _ A (by omega) L
 have F:aT hh:=Decidable.of_not_not F;have A:dD o w hh=gh o w hh:=if_neg (by rintro(h|h|h);exact h hm;exact h I;exact h F);simp only[go_sem,F];rw[aM (L.row r1) 9 rfl,ah];refine(UO ((G.ext D).ext L) (rOp.ext (rOp.ext H0 D) L) W lx ly hw ar).mono λr h6 ⟨p,q,e,e6,hp⟩=>?_
 subst e;simp only[go_sem];refine aj (λhc=>?_) (λhc=>?_)
 ·simp only[fo,Option.map_some,ah];exact U _ _ A hc (L.trans e6)
 have aa:gh o w hh=0:=Decidable.of_not_not hc;obtain⟨ad,ab⟩:=hp aa;have c1:aB h6 ⟨b,1,none⟩=some (.int .i64 o.border):=ai (e6.row (L.row r1));simp only[go_sem,c1];rw[XZ (kE ad) (kE ab) rfl,Option.map_some,ah];refine ch (l:=[p,q,.int .i64 o.border]) (e6.row (L.row r2)) rfl (ak (kE ad) (ak (kE ab) (ak rfl aQ))) rfl λh7 r7 u7=>?_
 rw[aM r7 3 rfl,ah];have hz:∀c,c<h6.size→eo h5 h6 c→¬c=b2:=λc _ hz he=>by
  have:=hz.1;have:=(L.1)
  subst he;omega
 have E:Ext h h6:=(D.trans L).trans e6;have fin:∀{t:Tbl} {p:Value},dY (eo h5 h6) h6 p t→dY (eo h h7) h7 p t:=λH=>by
  have:=Rp.Pt.fr H u7.fr hz;refine this.mono λc hc hz=>⟨?_,hc⟩
  exact Nat.le_trans (D.trans L).1 hz.1
 rw[A];exact⟨.agg #[p,q,.int .i64 o.border],by rw[aa],E.upd (Nat.le_trans e1.1 n2) u7,λh=>absurd aa h,λ_=>⟨p,q,rfl,fin ad,fin ab⟩⟩
def ie {α:Type}(e:Rp α)(h h':af)(v:Value)(l:List α):Prop:=∃Z,Rp.Ow e Z h' v l∧Ext h h'∧(∀b,blk v b→h.size≤b)∧∀c,Z c→h.size≤c∧c<h'.size
theorem ie.nil {α:Type}{e:Rp α}{h h':af}(k:Ext h h'):ie e h h' (.slice none 0 0) []:=⟨λ_=>False,Rp.Ow.nil,k,λb A=>A.elim,λc hc=>hc.elim⟩
theorem ie.ext {α:Type}{e:Rp α}{h h' A:af}{v:Value}{l:List α}(H:ie e h h' v l)(k:Ext h' A):ie e h A v l:=by
 obtain⟨Z,o,x,n,z⟩:=H;exact⟨Z,o.ext k,x.trans k,n,λc hc=>⟨(z c hc).1,Nat.lt_of_lt_of_le (z c hc).2 k.1⟩⟩
theorem ie.exts {α:Type}{e:Rp α}{h h':af}{v:Value}{l:List α}(H:ie e h h' v l):Ext h h':=by obtain⟨Z,o,x,n,z⟩:=H;exact x
theorem ie.sl {α:Type}{e:Rp α}{h h':af}{v:Value}{l:List α}(H:ie e h h' v l):Rp.Sl e (eo h h') h' v l:=by
 obtain⟨Z,o,x,n,z⟩:=H;exact o.sl.mono λc hc A=>by
  rcases A with A|A
  ·exact z c A
  ·exact⟨n c A,hc⟩
theorem ie.isSl {α:Type}{e:Rp α}{h h':af}{v:Value}{l:List α}(H:ie e h h' v l):∃a cap,v=.slice a l.length cap:=by obtain⟨Z,o,x,n,z⟩:=H;exact o.isSl
theorem ie.push {α:Type}{e:Rp α}{z:Value}{c:Array Value}{t L:TypeId}{bytes:Nat}{h h1:af}{v:Value}{l:List α}{cs:List Value}{x:α}{Y:Nat→Prop}{K:Value→af→Prop}(H:ie e h h1 v l)
  (U:e.R Y h1 cs x) (hY:∀b,Y b→h.size≤b∧b<h1.size∧¬blk v b) (hc:c.size=e.w) (D:z.cells.size=e.w) (A:(l.length+1)*bytes≤140737488355328) (hn:l.length+1≤9223372036854775807)
  (W:∀F h',ie e h h' F (l++[x])→Fr (blk v) h1 h'→(∀b,blk F b→blk v b∨h1.size≤b)→K F h'):cE c t 1 [(0,e.w,.agg cs.toArray)] h1 λv2 h3=>cF z L e.w bytes v v2 h3 K:=by
 obtain⟨Z,o,ex,n,zf⟩:=H;have dz:∀b,blk v b→¬Z b:=by obtain⟨ds,_,d,_⟩:=o;exact d
 have o2:Rp.Ow e (λb=>Z b∨Y b) h1 v l:=o.mono (λb _ A=>.inl A) λb A D=>by
  rcases D with D|D
  ·exact dz b A D
  ·exact(hY b D).2.2 A
 refine Rp.push_ow o2 (e.mono U λb _ A=>.inr A) hc D A hn (λb A=>?_) λF h' o' G n'=>W F h' ⟨λb=>Z b∨Y b,o',ex.then_fr G n,λb A=>?_,λb A=>?_⟩ G n'
 ·rcases A with A|A
  ·exact(zf b A).2
  ·exact(hY b A).2.1
 ·rcases n' b A with I|I
  ·exact n b I
  ·exact Nat.le_trans ex.1 I
 ·have hl:=G.1;rcases A with A|A
  ·have:=zf b A;omega
  ·have:=hY b A;omega
theorem ie.lt {α:Type}{e:Rp α}{h h':af}{v:Value}{l:List α}(H:ie e h h' v l){b:Nat}(A:blk v b):b<h'.size:=by obtain⟨Z,o,x,n,z⟩:=H;exact o.lt A
theorem _root_.Go.Crisp.New.lt {α:Type}{e:Rp α}{h h':af}{v:Value}{l:List α}(H:New e h h' v l){b:Nat}(A:blk v b):b<h'.size:=H.1.lt A
theorem Ju {h:af}{n:Int}:ae prog my #[.int .i64 n] h λr h'=>r=.bool (decide (aT n))∧h'=h:=by
 apply Kr;unfold AL;simp only[go_sem];exact⟨rfl,trivial⟩
def PE (h:af)(code:Int)(ls:List (Int×List Int))(r:Value)(h':af):Prop:=∃v,r=.tuple #[v,.int .i64 code]∧Ext h h'∧(code≠0→v=.slice none 0 0)∧(code=0→ie km h h' v ls)
theorem Jv {h:af}{f n m:Int}(hf:I64 f)(hn:I64 n)(hm:I64 m):ae prog mz #[.int .i64 f,.int .i64 n,.int .i64 m] h (PE h (cP f n m) (dT f n m).lines):=by
 apply Gd;unfold xg;have rc:cP f n m=if¬(0≤f∧f<3)∨¬aT n∨¬aT m then 6 else cT (λi=>ck (cq f n m i)) m.toNat:=rfl
 have I:∀b:Bool,(b=true↔(¬(0≤f∧f<3)∨¬aT n∨¬aT m))→∀X:Prop,((0≤f∧f<3)→aT n→aT m→X)→aA (.bool b)
   (PE h (cP f n m) (dT f n m).lines (.tuple #[.slice none 0 0,.int .i64 6]) h) X:=by
  intro b W X hX;refine iH (λhc=>?_) (λhc=>?_)
  ·rw[rc,if_pos (W.1 hc)];exact⟨_,rfl,Ext.refl _,λ_=>rfl,λh=>by cases h⟩
  ·have L:¬(¬(0≤f∧f<3)∨¬aT n∨¬aT m):=λhh=>by rw[W.2 hh]at hc;cases hc
   exact hX (Decidable.of_not_not λhh=>L (.inl hh)) (Decidable.of_not_not λhh=>L (.inr (.inl hh))) (Decidable.of_not_not λhh=>L (.inr (.inr hh)))
 have rest:(0≤f∧f<3)→aT n→aT m→aU [.slice none 0 0,.int .i64 0] h λF b4 ab D=>
   vK (ag .i .lss (ix F 1) (.int .i64 m)) λa8=>aA a8 (
    ae prog uh #[.int .i64 f,.int .i64 n,.int .i64 m,(ix F 1)] ab λad a9=>
    vK (aE ad 0) λbc=>vK (aE ad 1) λbg=>
    ae prog gu #[bg] a9 λau al=>
    vK (aE au 0) λay=>vK (aE au 1) λaa=>
    vK (ag .i .neq aa (.int .i64 0)) λbd=>aA bd (
     PE h (cP f n m) (dT f n m).lines (.tuple #[(.slice none 0 0),aa]) al) (
     vK ((aF #[(.int .i64 0),(.slice none 0 0)] [(0,1,bc),(1,1,ay)]).map .agg) λb0=>
     cE #[(.int .i64 0),(.slice none 0 0)] 240 1 [(0,2,b0)] al λbv bo=>
     cF (.agg #[.int .i64 0,.slice none 0 0]) 240 2 32 (ix F 0) bv bo λax be=>
     vK (ag .i .add (ix F 1) (.int .i64 1)) λbk=>D [ax,bk] be)) (
    PE h (cP f n m) (dT f n m).lines (.tuple #[(ix F 0),(.int .i64 0)]) ab):=by
  intro G A aw;rw[if_neg (by rintro(h|h|h);exact h G;exact h A;exact h aw)]at rc;rw[rc];have an:=aw;unfold aT at an;refine bA m.toNat 0 (λk v=>[v,.int .i64 (k:Int)]) (λk v h'=>cT (λi=>ck (cq f n m i)) k=0∧ie km h h' v ((List.range k).map λi:Nat=>(dC f n m i,bN (cq f n m i)))) (.slice none 0 0) rfl (Nat.zero_le _)
   ⟨rfl,ie.nil (Ext.refl _)⟩ λk v h5 again ρj _ hk ⟨hg,T⟩ a7=>?_
  simp only[go_sem];refine aj (λh6=>?_) (λh6=>?_)
  ·have ar:k<m.toNat:=by omega
   refine Wz.mono λw h7 ⟨u,e,Nw⟩=>?_
   subst e
   try simp only[go_sem]
   refine(Bp Nw.sl (sb _ _ _ _) (Hf _ _ _ _)).mono λw h8 ⟨u,e,H⟩=>?_
   subst e
   try simp only[go_sem]
   refine aj (λU=>?_) (λU=>?_)
   ·have hc:cT (λi=>ck (cq f n m i)) (k+1)=ck (cq f n m k):=by
     show(if cT (λi=>ck (cq f n m i)) k≠0 then _ else _)=_;rw[if_neg (by rw[hg];simp)]
    have hs:=Bn (g:=λi=>ck (cq f n m i)) (k:=k+1) (n:=m.toNat) (by rw[hc];exact U) ar;rw[hs,hc];exact⟨_,rfl,(T.exts.trans Nw.2.1).trans H.2.1,λ_=>rfl,λh=>absurd h U⟩
   ·have U:ck (cq f n m k)=0:=Decidable.of_not_not U;rw[wD (a:=.int .i64 (dC f n m k)) (b:=u) rfl H.sl.one,Option.map_some,ah];have T2:=T.ext (Nw.2.1.trans H.2.1);refine ie.push (e:=km) (cs:=[.int .i64 (dC f n m k),u]) (x:=(dC f n m k,bN (cq f n m k))) (Y:=blk u) T2 ⟨u,rfl,H.sl⟩ (λb W=>⟨Nat.le_trans (T.exts.trans Nw.2.1).1 (H.2.2 b W),H.lt W,λhv=>?_⟩) rfl rfl (by simp;omega) (by simp;omega) λs' h' N' _ _=>?_
    ·have b2:=T.lt hv;have b3:=H.2.2 b W;have b1:=Nw.2.1.1;omega
    ·try simp only[go_sem]
     rw[w64 (by omega) (by omega)];refine a7 s' h' ar ⟨?_,?_⟩
     ·show(if cT (λi=>ck (cq f n m i)) k≠0 then _ else _)=_;rw[if_neg (by rw[hg];simp)];exact U
     ·rw[List.range_succ,List.map_append];exact N'
  ·have:k=m.toNat:=by omega
   subst this;exact⟨_,by rw[hg],T.exts,λh=>absurd hg h,λ_=>T⟩
 by_cases G:0≤f∧f<3
 ·have q1:(f<0)=False:=eq_false (by omega);have q2:(2<f)=False:=eq_false (by omega);simp only[go_sem,q1,q2];refine Ju.mono λv1 h2 ⟨e1,w1⟩=>?_
  have w1:=w1.symm;subst e1 w1;by_cases A:aT n
  ·simp only[go_sem,A];refine Ju.mono λv1 h2 ⟨e1,w1⟩=>?_
   have w1:=w1.symm;subst e1 w1;simp only[go_sem];refine I _ ?_ _ rest;rw[decide_eq_true_eq];constructor
   ·exact λhh=>.inr (.inr hh)
   ·rintro(hh|hh|hh)
    ·exact absurd G hh
    ·exact absurd A hh
    ·exact hh
  ·simp only[go_sem,A];exact(fI _ _).mp (I true ⟨λ_=>.inr (.inl A),λ_=>rfl⟩ True λ_ _ _=>trivial)
 ·have q1:(f<0∨2<f)=True:=eq_true (by omega);simp only[go_sem,q1];exact(fI _ _).mp (I true ⟨λ_=>.inl G,λ_=>rfl⟩ True λ_ _ _=>trivial)
theorem Jw {h:af}{Z:Nat→Prop}{v:Value}{l:List Int}{n:Int}(H:SlI Z h v l)(U:∀x∈l,I64 x)(hl:l.length<4611686018427387904)(hn:I64 n):ae prog mA #[v,.int .i64 n] h (PE h (gn l n) (iI l n).lines):=by
 apply Ge;unfold xh;refine Ju.mono λv1 h1 ⟨e1,w1⟩=>?_
 have w1:=w1.symm;subst e1 w1;unfold gn iI;obtain⟨a,cap,e⟩:=H.isSl;have e2:aq v=some (.int .i64 (l.length:Int)):=by rw[e];rfl
 by_cases A:¬aT n
 ·rw[if_pos A];simp only[go_sem,A];exact⟨_,rfl,Ext.refl _,λ_=>rfl,λh=>by cases h⟩
 rw[if_neg A];have A:aT n:=Decidable.of_not_not A;have W:=A;unfold aT at W;simp only[go_sem,A,e2];rw[dc _ _ _ _ (by omega),ah,Int.tmod_eq_emod_of_nonneg (by omega)];simp only[go_sem];refine aj (λh0=>?_) (λh0=>?_)
 ·rw[if_pos (by omega)];exact⟨_,rfl,Ext.refl _,λ_=>rfl,λh=>by cases h⟩
 rw[if_neg (by omega)];refine(Bp H U hl).mono λw h2 ⟨u,e,L⟩=>?_
 subst e;simp only[go_sem];refine aj (λI=>?_) (λI=>?_)
 ·exact⟨_,rfl,L.2.1,λ_=>rfl,λh=>absurd h I⟩
 have I:ck l=0:=Decidable.of_not_not I;have ad:(bN l).length=l.length:=by unfold bN;rw[if_pos I,nB]
 have bd:=nN U;refine bA n.toNat 0 (λk v=>[v,.int .i64 (k:Int)]) (λk v h'=>ie km h h' v ((List.range k).map λi:Nat=>((i:Int)-(l.length/2:Nat),bN l))∧SlI (blk u) h' u (bN l)∧Ext h2 h'∧(∀b,blk v b→h2.size≤b)∧∀b,blk u b→¬blk v b) (.slice none 0 0) rfl (Nat.zero_le _)
  ⟨ie.nil L.2.1,L.sl,Ext.refl _,λb F=>F.elim,λb _ F=>F⟩ λk v h5 again ρj _ hk ⟨T,Hu,E,NV,D⟩ aa=>?_
 try simp only[go_sem]
 refine aj (λh6=>?_) (λh6=>?_)
 ·have ab:k<n.toNat:=by omega
  try simp only[go_sem,e2]
  rw[kq _ _ _ _ (by omega),ah,Int.tdiv_eq_ediv_of_nonneg (by omega),w64 (n:=(l.length:Int)/2) (by omega) (by omega)]
  try simp only[go_sem]
  rw[w64 (n:=(k:Int)-(l.length:Int)/2) (by omega) (by omega),show(k:Int)-(l.length:Int)/2=(k:Int)-(l.length/2:Nat)by omega];rw[wD (a:=.int .i64 ((k:Int)-(l.length/2:Nat))) (b:=u) rfl Hu.one,Option.map_some,ah];refine ie.push (e:=km) (cs:=[.int .i64 ((k:Int)-(l.length/2:Nat)),u]) (x:=((k:Int)-(l.length/2:Nat),bN l)) (Y:=blk u) T ⟨u,rfl,Hu⟩ (λb F=>⟨L.2.2 b F,Nat.lt_of_lt_of_le (L.lt F) E.1,D b F⟩) rfl rfl (by simp;omega) (by simp;omega) λs' h' N' F' n'=>?_
  try simp only[go_sem]
  rw[w64 (by omega) (by omega)];refine aa s' h' ab ⟨?_,Hu.fr F' λb _ F=>D b F,?_,?_,λb F hs=>?_⟩
  ·rw[List.range_succ,List.map_append];exact N'
  ·exact E.then_fr F' NV
  ·intro b F;rcases n' b F with G|G
   ·exact NV b G
   ·exact Nat.le_trans E.1 G
  ·rcases n' b hs with G|G
   ·exact D b F G
   ·have:=L.lt F;have:=E.1;omega
 ·have:k=n.toNat:=by omega
  subst this;exact⟨_,by rw[I],T.exts,λh=>absurd I h,λ_=>T⟩
def kw (side:Int)(o:OpD):Prop:=40<o.x.length∨40<o.y.length∨(262144<o.sigma∧o.sigma≤4194304)∨(20<o.radius∧o.radius<512)∨(side<o.w∧o.w≤65536)∨(side<o.hh∧o.hh≤65536)
instance (side:Int)(o:OpD):Decidable (kw side o):=by unfold kw;infer_instance
def kZ (side:Int)(l:List OpD):Prop:=∀o∈l,¬kw side o
instance (side:Int)(l:List OpD):Decidable (kZ side l):=by unfold kZ;infer_instance
theorem Ve {Z:Nat→Prop}{h:af}{v:Value}{l:List OpD}{side:Int}(H:Rp.Sl rOp Z h v l)(hl:l.length<4611686018427387904):
  ae prog sT #[v,.int .i64 side] h λr h'=>r=.bool (decide (kZ side l))∧Ext h h':=by
 apply Gl;unfold xq;obtain⟨a,cap,e⟩:=H.isSl;have e2:aq v=some (.int .i64 (l.length:Int)):=by rw[e];rfl
 rw[e2,ah];refine bA l.length 0 (λk (_:Unit)=>[.int .i64 (k:Int)]) (λk _ h'=>Ext h h'∧∀o∈l.take k,¬kw side o) () rfl (Nat.zero_le _) ⟨Ext.refl _,by simp⟩ λk _ h1 again ρj _ hk ⟨F,hI⟩ I=>?_
 simp only[go_sem];refine aj (λh0=>?_) (λh0=>?_)
 ·have A:k<l.length:=by omega
  obtain⟨p,cs,U,q2,G⟩:=Rp.Sl.atw (e:=rOp) (H.ext F) (show 0<9 by omega) (k:=.i64) A;have U:aR 9 v (.int .i64 (k:Int))=some p:=U;have q2:aH 9 h1 p=some (.agg cs.toArray):=q2;rw[U,ah,q2,ah];have ab:=G;have L:=rOp.one G;obtain⟨s,t,rfl,Hx,Hy⟩:=G;refine cD (cs:=[.int .i64 l[k].kind,.int .i64 l[k].border,.int .i64 l[k].sigma,.int .i64 l[k].radius,s,t,.int .i64 l[k].filter,.int .i64 l[k].w,.int .i64 l[k].hh]) rfl L rfl λb h2 r2 e3 n3=>?_
  obtain⟨ax,cx,ex⟩:=Hx.isSl;have aa:aq s=some (.int .i64 (l[k].x.length:Int)):=by rw[ex];rfl
  obtain⟨ay,cy,ey⟩:=Hy.isSl;have W:aq t=some (.int .i64 (l[k].y.length:Int)):=by rw[ey];rfl
  simp only[go_sem,ai r2,aa,W];refine aj (λh3=>?_) (λh3=>?_)
  ·refine⟨?_,F.trans e3⟩
   congr 1
   rw[Eq.comm,decide_eq_false_iff_not];intro hh;refine hh _ (List.getElem_mem A) ?_;unfold kw;omega
  ·rw[w64 (by omega) (by omega)];refine I () h2 A ⟨F.trans e3,λo D=>?_⟩;rw[List.take_succ_eq_append_getElem A]at D;rcases List.mem_append.1 D with D|D
   ·exact hI o D
   ·rw[List.mem_singleton.1 D];unfold kw;omega
 ·rw[List.take_of_length_le (by omega)]at hI;refine⟨?_,F⟩
  congr 1
  rw[Eq.comm,decide_eq_true_eq];exact hI
theorem U0 {Z:Nat→Prop}{h:af}{cs:List Value}{o:OpD}(H:rOp.R Z h cs o){w hh:Int}:ae prog Fh #[.agg cs.toArray,.int .i64 w,.int .i64 hh] h λr h'=>
  r=.tuple #[.int .i64 (if o.kind=3 then o.w else w),.int .i64 (if o.kind=3 then o.hh else hh)]∧Ext h h':=by
 apply Qh;unfold GW;obtain⟨s,t,rfl,F,G⟩:=H;simp only[bG];refine aC λb h1 r1 D I=>?_
 simp only[go_sem,ai r1];refine aj (λA=>?_) (λA=>?_)
 ·rw[if_pos A,if_pos A];simp only[go_sem,ai r1];exact⟨by simp,D⟩
 ·rw[if_neg A,if_neg A];exact⟨rfl,D⟩
end Go.Proofs.YtjljhnandbbldaaGreatDoor
