/- Several texts of this session, one behind the other, without what this claim does not need (put together by its program pack.py). Conditions: none. -/
import Derived.Test.YtjljhnandbbldaaGreatDoorMw1
import Derived.Test.YtjljhnandbbldaaGreatDoorProg
import Derived.Shelf.Bits.Mul64
import Derived.Shelf.Spec.BitsCarry
import Derived.Shelf.Strconv.Itoa0
import Derived.Lib.ItoaNum
set_option linter.unusedVariables false
set_option linter.unusedSimpArgs false
set_option maxRecDepth 100000
namespace Go.Proofs.YtjljhnandbbldaaGreatDoor
open Go Go.Crisp
open _root_.Go.Proofs.Tryz
def QI:Go.Shelf.Ren:=⟨λn=>match n with|264=>287|n=>n,λn=>match n with|46=>260|53=>303|n=>n,λn=>n⟩
theorem zaS:Go.Proofs.Lays.n264 prog QI where
 mixed:=by kernel_rfl
 f264:=by kernel_rfl
 t46:=by kernel_rfl
 a46:=λw=>cG (by kernel_rfl)
 z46:=λw=>bJ (by kernel_rfl)
 v46:=λw=>bD (by kernel_rfl)
 t53:=by kernel_rfl
 a53:=λw=>cG (by kernel_rfl)
 z53:=λw=>bJ (by kernel_rfl)
 v53:=λw=>bD (by kernel_rfl)
def QJ:Go.Shelf.Ren:=⟨λn=>match n with|129=>199|n=>n,λn=>match n with|3=>3|4=>4|5=>5|9=>9|46=>260|53=>303|n=>n,λn=>n⟩
theorem zaT:Go.Proofs.Lays.n129 prog QJ where
 mixed:=by kernel_rfl
 f129:=by kernel_rfl
 t3:=by kernel_rfl
 a3:=λw=>cG (by kernel_rfl)
 z3:=λw=>bJ (by kernel_rfl)
 v3:=λw=>bD (by kernel_rfl)
 t4:=by kernel_rfl
 a4:=λw=>cG (by kernel_rfl)
 z4:=λw=>bJ (by kernel_rfl)
 v4:=λw=>bD (by kernel_rfl)
 t5:=by kernel_rfl
 a5:=λw=>cG (by kernel_rfl)
 z5:=λw=>bJ (by kernel_rfl)
 v5:=λw=>bD (by kernel_rfl)
 t9:=by kernel_rfl
 a9:=λw=>cG (by kernel_rfl)
 z9:=λw=>bJ (by kernel_rfl)
 v9:=λw=>bD (by kernel_rfl)
 t46:=by kernel_rfl
 a46:=λw=>cG (by kernel_rfl)
 z46:=λw=>bJ (by kernel_rfl)
 v46:=λw=>bD (by kernel_rfl)
 t53:=by kernel_rfl
 a53:=λw=>cG (by kernel_rfl)
 z53:=λw=>bJ (by kernel_rfl)
 v53:=λw=>bD (by kernel_rfl)
def QK:Go.Shelf.Ren:=⟨λn=>match n with|25=>256|n=>n,λn=>match n with|22=>303|n=>n,λn=>n⟩
theorem zaU:Go.Proofs.Lays7.n25 prog QK where
 mixed:=by kernel_rfl
 f25:=by kernel_rfl
 t22:=by kernel_rfl
 a22:=λw=>cG (by kernel_rfl)
 z22:=λw=>bJ (by kernel_rfl)
 v22:=λw=>bD (by kernel_rfl)
 i22:=by kernel_rfl
end Go.Proofs.YtjljhnandbbldaaGreatDoor
namespace Go.Proofs.YtjljhnandbbldaaGreatDoor
open Go Go.Crisp
attribute [local irreducible] ag cO aT stK aG vK qK bL gK eM bC mkK cR HA JA Ep bsK
open _root_.Go.Proofs.Tryz
theorem HE {h:ai}{x:Int}(A:I64 x):ag prog uk #[af x] h λr h'=>r=.int .u64 (x.natAbs:Int)∧h'=h:=by
 apply To;unfold Io;simp only[go_sem];refine aq (λh0=>?_) (λh0=>?_)
 ·rw[Vp A h0];exact⟨rfl,trivial⟩
 ·rw[Vo A h0];exact⟨rfl,trivial⟩
section
attribute [local semireducible] ag
theorem U0 {h:ai}{x y:Nat}(F:x<18446744073709551616)(A:y<18446744073709551616):
  ag prog lO #[.int .u64 (x:Int),.int .u64 (y:Int)] h λr h'=>r=.tuple #[.int .u64 ((x*y/18446744073709551616:Nat):Int),.int .u64 ((x*y%18446744073709551616:Nat):Int)]∧h'=h:=by
 refine ag.ofCalls (by kernel_rfl) λw D=>?_
 refine(Any.bits_Mul64 zaS x y F A w).mono ?_;rintro e w' ⟨rfl,rfl⟩;exact⟨_,rfl,dT.refl _,rfl,D⟩
end
theorem SN {h:ai}{a b:Int}(A:I64 a)(D:I64 b):ag prog qf #[af a,af b] h λr h'=>
  r=.tuple #[.int .u64 ((a.natAbs*b.natAbs/18446744073709551616:Nat):Int),.int .u64 ((a.natAbs*b.natAbs%18446744073709551616:Nat):Int),.bool (lH a b)]∧h'=h:=by
 apply Mx;unfold BD;refine(HE A).mono λU h1 ⟨H,w1⟩=>?_
 subst H w1;refine(HE D).mono λW h2 ⟨I,L⟩=>?_
 subst I;refine(U0 (jV A) (jV D)).mono λv3 h3 ⟨G,F⟩=>?_
 subst G;simp only[go_sem];exact⟨rfl,F.trans L⟩
section
attribute [local semireducible] ag
theorem zag {h:ai}{x y c:Nat}(hc:c≤1):ag prog gZ #[.int .u64 (x:Int),.int .u64 (y:Int),.int .u64 (c:Int)] h λr h'=>
  r=.tuple #[.int .u64 (((x+y+c)%18446744073709551616:Nat):Int),.int .u64 (((x+y+c)/18446744073709551616:Nat):Int)]∧h'=h:=
 ag.ofRun λw A=>⟨_,w,Any7.bits_Add64 zaU x y c hc w,dT.refl _,rfl,A⟩
theorem zeL {h:ai}{x:Nat}(D:x<18446744073709551616):ag prog yJ #[.int .u64 (x:Int)] h λr h'=>r=af (Lib.bitLen x:Int)∧h'=h:=by
 refine ag.ofCalls (by kernel_rfl) λw A=>?_
 refine(Any.bits_Len64 zaT (x:Int) w ae ae).mono ?_;rintro e w' ⟨rfl,rfl⟩;exact⟨_,rfl,dT.refl _,rfl,A⟩
end
theorem Ls {h:ai}{x:Nat}(A:x<18446744073709551616):ag prog iX #[.int .u64 (x:Int)] h λr h'=>r=af (64-(Lib.bitLen x:Int))∧h'=h:=by
 apply vl;unfold lC;refine(zeL A).mono λv h1 ⟨D,w1⟩=>?_
 subst D;have:=Lib.bitLen_le x 64 (ck _) A;have this:Lib.bitLen x≤64:=this;simp only[go_sem];rw[w64 ae ae];exact⟨rfl,w1⟩
theorem DI {h:ai}{m:Nat}{b:Bool}(A:m<340282366920938463463374607431768211456):
  ag prog fo #[.int .u64 ((m/18446744073709551616:Nat):Int),.int .u64 ((m%18446744073709551616:Nat):Int),.bool b] h λr h'=>r=af (ko m b)∧h'=h:=by
 apply Oq;unfold Cl;unfold ko;cases b
 ·simp only[go_sem,ig,cS];refine aq (λh0=>?_) (λh0=>?_)
  ·rw[aB ae];exact⟨rfl,trivial⟩
  ·rw[aA ae,w64 ae ae];exact⟨by congr 1;omega,trivial⟩
 ·simp only[go_sem,cV];refine aq (λh0=>?_) (λh0=>?_)
  ·rw[aB ae];exact⟨rfl,trivial⟩
  ·have e:IntKind.i64.wrap (IntKind.u64.wrap (0-((m%18446744073709551616:Nat):Int)))= -((m%18446744073709551616:Nat):Int):=by
    rw[fN,jA];omega
   rw[e];refine⟨?_,trivial⟩
   congr 1
   split<;>omega
end Go.Proofs.YtjljhnandbbldaaGreatDoor
namespace Go.Crisp
open Go
section
structure QC (u d Y yn1 yn0 q r:Nat):Prop where
 eq:q*yn1+r=u
 up:(u*4294967296+d)/Y≤q
section
variable {u d Y yn1 yn0 q r:Nat}(hY:Y=yn1*4294967296+yn0)(h0:yn0<4294967296)(h1:2147483648≤yn1)(h1':yn1<4294967296)(hu:u<Y)(hd:d<4294967296)
theorem Sr (hY:Y=yn1*4294967296+yn0)(g:QC u d Y yn1 yn0 q r):q*Y+r*4294967296=u*4294967296+q*yn0:=by
 have:=g.eq;rw[hY,JR,←vC,←this,fb];omega
theorem PX (hu:u<Y)(hd:d<4294967296):(u*4294967296+d)/Y<4294967296:=by
 rw[xg ae];have:(u+1)*4294967296≤Y*4294967296:=gO _ hu;rw[fb]at this;rw[fG 4294967296 Y];omega
theorem Wv (hY:Y=yn1*4294967296+yn0)(h1:2147483648≤yn1)(hu:u<Y)(hd:d<4294967296):QC u d Y yn1 yn0 (u/yn1) (u-u/yn1*yn1):=by
 have A:u/yn1*yn1≤u:=JK u yn1;refine⟨ae,?_⟩;rw[Nf ae];have hq:(u*4294967296+d)/Y*Y≤u*4294967296+d:=JK _ _;generalize(u*4294967296+d)/Y=Q at hq;rw[hY,JR,←vC]at hq;generalize Q*yn1=a at hq ⊢;omega
theorem Hn (hY:Y=yn1*4294967296+yn0)(h1:2147483648≤yn1)(hu:u<Y)(hd:d<4294967296)(g:QC u d Y yn1 yn0 q r)(h:4294967296≤q∨4294967296*r+d<q*yn0):1≤q∧QC u d Y yn1 yn0 (q-1) (r+yn1):=by
 have A:=PX hu hd;have F:(u*4294967296+d)/Y<q:=by
  rcases h with h|h
  ·exact ce A h
  ·rw[xg ae];have:=Sr hY g
   clear hY A
   generalize q*Y=a at this ⊢;omega
 have D:1≤q:=uz (bZ _) F;refine⟨D,⟨?_,Nat.le_sub_one_of_lt F⟩⟩;have:=g.eq;obtain⟨k,rfl⟩:∃k,q=k+1:=⟨q-1,ae⟩
 rw[fb]at this;rw[AQ];omega
theorem PI (hY:Y=yn1*4294967296+yn0)(h1:2147483648≤yn1)(g:QC u d Y yn1 yn0 q r)(h:q*yn0≤4294967296*r+d):q=(u*4294967296+d)/Y:=by
 have:=Sr hY g;have A:=g.up;have:q≤(u*4294967296+d)/Y:=by
  rw[Nf ae]
  clear hY A
  generalize q*Y=a at this ⊢;omega
 exact Nat.le_antisymm this A
theorem Yc (hY:Y=yn1*4294967296+yn0)(h0:yn0<4294967296)(h1:2147483648≤yn1)(hu:u<Y)(g:QC u d Y yn1 yn0 q r)(h:4294967296≤r):q=(u*4294967296+d)/Y:=by
 refine PI hY h1 g ?_;have e:=g.eq;have hq:q<4294967296:=by
  rcases pT q 4294967296 with A|A
  ·exact A
  ·have:4294967296*yn1≤q*yn1:=gO _ A;omega
 have:q*yn0≤q*4294967296:=Zv _ ae;omega
theorem zcm (h1:2147483648≤yn1)(hY:Y=yn1*4294967296+yn0)(h0:yn0<4294967296)(hu:u<Y):u/yn1<4294967298:=by
 rw[xg ae];omega
end
theorem Yl {M Y d0 q r:Nat}(hY:0<Y)(hq:M/Y=q)(A:M%Y=r):
  (M*4294967296+d0)/Y=q*4294967296+(r*4294967296+d0)/Y∧(M*4294967296+d0)%Y=(r*4294967296+d0)%Y:=by
 have h:=oD M Y;rw[hq,A]at h;have e:M*4294967296+d0=(r*4294967296+d0)+Y*(q*4294967296):=by
  rw[←h,fb,vC,vG,EA]
 rw[e];exact⟨by rw[JQ _ _ hY,EA],by rw[Ng]⟩
end
end Go.Crisp
namespace Go.Proofs.YtjljhnandbbldaaGreatDoor
open Go Go.Crisp
attribute [local irreducible] ag cO aT stK aG vK qK bL gK eM bC mkK cR HA JA Ep bsK
open _root_.Go.Proofs.Tryz
theorem nJ {a n:Nat}(k':IntKind)(A:n≤64):ak .i .shr (.int .u64 (a:Int)) (.int k' (n:Int))=some (.int .u64 ((a/2^n:Nat):Int)):=by
 show(if(n:Int)<0 then none else some (Value.int .u64 ((a:Int).fdiv (2^(min (n:Int).toNat 64)))))=_;rw[aA ae,dJ,vF A,Ut _ (Int.le_of_lt (JO ae))];simp
theorem xS {a n:Nat}(k':IntKind)(A:n≤64):ak .i .shl (.int .u64 (a:Int)) (.int k' (n:Int))=some (.int .u64 ((a*2^n%18446744073709551616:Nat):Int)):=by
 show(if(n:Int)<0 then none else some (Value.int .u64 (IntKind.u64.wrap ((a:Int)*(2^(min (n:Int).toNat 64))))))=_;rw[aA ae,dJ,vF A,fN];simp
theorem nI (a:Nat)(h:a<18446744073709551616):(BitVec.ofInt 64 (a:Int)).toNat=a:=by
 rw[Uu];simp only[Nat.reducePow];omega
theorem zca {a b:Nat}(A:a<18446744073709551616)(D:b<18446744073709551616):ak .i .or (.int .u64 (a:Int)) (.int .u64 (b:Int))=some (.int .u64 ((a|||b:Nat):Int)):=by
 show some (Value.int .u64 (IntKind.u64.wrap (((BitVec.ofInt 64 (a:Int)|||BitVec.ofInt 64 (b:Int)).toNat:Nat):Int)))=_;rw[BitVec.toNat_or,nI a A,nI b D,gF];exact Nat.or_lt_two_pow (n:=64) A D
theorem U6 {a b:Nat}(A:a<18446744073709551616)(D:b<18446744073709551616):ak .i .and (.int .u64 (a:Int)) (.int .u64 (b:Int))=some (.int .u64 ((a&&& b:Nat):Int)):=by
 show some (Value.int .u64 (IntKind.u64.wrap (((BitVec.ofInt 64 (a:Int)&&& BitVec.ofInt 64 (b:Int)).toNat:Nat):Int)))=_;rw[BitVec.toNat_and,nI a A,nI b D,gF];exact uz Nat.and_le_left A
theorem Qz {a:Nat}(A:a<18446744073709551616):ak .i .and (.int .u64 (a:Int)) (.int .u64 4294967295)=some (.int .u64 ((a%4294967296:Nat):Int)):=by
 rw[show(4294967295:Int)=((4294967295:Nat):Int)from rfl,U6 A ae];have:=Nat.and_two_pow_sub_one_eq_mod a 32;simp only[Nat.reducePow,Nat.reduceSub]at this;rw[this]
theorem Xm {a:Nat}(A:a<18446744073709551616):ak .i .and (.int .u64 (a:Int)) (.int .u64 1)=some (.int .u64 ((a%2:Nat):Int)):=by
 rw[show(1:Int)=((1:Nat):Int)from rfl,U6 A ae,JY]
theorem VK {a b s:Nat}(A:b<2^s):a*2^s|||b=a*2^s+b:=by
 rw[fG,Nat.two_pow_add_eq_or_of_lt A]
theorem cvu {n:Nat}(k:IntKind)(h:n<18446744073709551616):gS .u64 (.int k (n:Int))=some (.int .u64 (n:Int)):=by
 rw[DF,gF h]
theorem Ws {H a b c u:Nat}(h:H=a*18446744073709551616+u)(hu:u=b*4294967296+c):H=(a*4294967296+b)*4294967296+c:=by
 rw[h,hu,fb,vC];simp only[Nat.reduceMul,vG]
theorem PH {u d Y yn1 yn0:Nat}{h:ai}(hY:Y=yn1*4294967296+yn0)(h0:yn0<4294967296)(h1:2147483648≤yn1)(h1':yn1<4294967296)(hu:u<Y)(hd:d<4294967296)
  {init:List Value} {body:List Value→Env→ai→(List Value→ai→Prop)→Prop} (P:Nat→Nat→List Value) (hi:init=P (u/yn1) (u-u/yn1*yn1))
  (step:∀q r again ρj,q<4294967298→r<4294967296→(∀W D,W=q-1→D=r+yn1→1≤q→(4294967296≤q∨4294967296*r+d<q*yn0)→D<4294967296→again (P W D) h)→
   ((4294967296≤q∨4294967296*r+d<q*yn0)→1≤q→4294967296≤r+yn1→q-1=(u*4294967296+d)/Y)→(¬(4294967296≤q∨4294967296*r+d<q*yn0)→q=(u*4294967296+d)/Y)→((4294967296≤q∨4294967296*r+d<q*yn0)→1≤q)→
   body (P q r) ρj h again):bC init h body:=by
 have I:=zcm h1 hY h0 hu;refine dy (λm xs h'=>h'=h∧∃q r,m=q∧xs=P q r∧QC u d Y yn1 yn0 q r∧q<4294967298∧r<4294967296) (u/yn1) ⟨rfl,u/yn1,u-u/yn1*yn1,rfl,hi,Wv hY h1 hu hd,I,?_⟩ ?_
 ·have:=oD u yn1;have h2:=iO u (show yn1>0 by omega);rw[fG]at this;omega
 ·rintro m xs ρj h' again ⟨hh,q,r,L,rfl,g,hq,hr⟩ H;have L:=L.symm;subst hh L;refine step q r again ρj hq hr (λW D U G F hc A=>?_) (λhc F A=>?_) (λhc=>?_) λhc=>(Hn hY h1 hu hd g hc).1
  ·subst U G;refine H _ _ (q-1) ae ⟨rfl,q-1,r+yn1,rfl,rfl,(Hn hY h1 hu hd g hc).2,ae,A⟩
  ·exact Yc hY h0 h1 hu (Hn hY h1 hu hd g hc).2 A
  ·exact PI hY h1 g ae
theorem zeP {h:ai}{hi lo y:Nat}(cb:hi<y)(cu:lo<18446744073709551616)(hy:y<18446744073709551616):
  ag prog qG #[.int .u64 (hi:Int),.int .u64 (lo:Int),.int .u64 (y:Int)] h λr h'=>
   r=.tuple #[.int .u64 (((hi*18446744073709551616+lo)/y:Nat):Int),.int .u64 (((hi*18446744073709551616+lo)%y:Nat):Int)]∧h'=h:=by
 apply G8;unfold wV;have q1:((y:Int)=0)=False:=gk ae;have q2:((y:Int)≤(hi:Int))=False:=gk ae;simp only[go_sem,q1,q2];refine bB (λxs h'=>h'=h) rfl λxs ρj h' e=>?_
 subst e;refine bB (λxs cc=>cc=h') rfl λxs ρj cc e=>?_
 subst e;refine aq (λh0=>?_) (λh0=>?_)
 ·have h0:hi=0:=ae;subst h0;rw[MS ae cu,ah,Y6 ae,ah];exact⟨by simp,rfl⟩
 refine(Ls hy).mono λv1 h1 ⟨e1,w1⟩=>?_
 subst e1 w1;obtain⟨b0,b1,b2⟩:=Lib.bitLenAux_bounds 64 y hy ae;have b3:=Lib.bitLen_le y 64 (ck _) hy;have c5:Lib.bitLen y=Lib.bitLenAux 64 y:=rfl;rw[←c5]at b0 b1 b2;generalize hL:Lib.bitLen y=L at b0 b1 b2 b3;obtain⟨s,hs⟩:∃s,s=64-L:=⟨_,rfl⟩
 rw[show(64:Int)-(L:Int)=(s:Int)by omega,cvu _ ae,ah,xS _ ae,ah];have hp:(0:Nat)<2^s:=yu ae;have ct:2^L*2^s=18446744073709551616:=by
  rw[←xe,show L+s=64 by omega]
 have b6:2^(L-1)*2^s=9223372036854775808:=by
  rw[←xe,show L-1+s=63 by omega]
 have bg:y*2^s<18446744073709551616:=by rw[←ct];exact Us b2 hp
 have ej:9223372036854775808≤y*2^s:=by rw[←b6];exact gO _ b1
 have bk:hi*2^s<18446744073709551616:=Nat.lt_trans (Us cb hp) bg;rw[xf bg];have ar:lo/2^(64-s)<2^s:=by
  rw[xg (yu ae),←xe,show s+(64-s)=64 by omega];exact cu
 have cw:(32:Int)=((32:Nat):Int):=rfl;rw[cw,nJ _ ae,ah,Qz bg,ah,xS _ ae,ah,xf bk,iR,ah,
  wu64 (n:=64-(s:Int)) ae ae,show(64:Int)-(s:Int)=((64-s:Nat):Int)by omega,nJ _ ae,ah,
  zca bk (ce ar (by rw[←ct];exact Nat.le_mul_of_pos_left _ (yu ae))),ah,VK ar,xS _ ae,ah]
 -- what is divided, shifted
 have eh:(hi*18446744073709551616+lo)*2^s<y*2^s*18446744073709551616:=by
  have:hi*18446744073709551616+lo<y*18446744073709551616:=ae;rw[Ur];exact Us this hp
 have an:lo*2^s=lo/2^(64-s)*18446744073709551616+lo*2^s%18446744073709551616:=by
  have e:lo*2^s/18446744073709551616=lo/2^(64-s):=by
   rw[show(18446744073709551616:Nat)=2^(64-s)*2^s by rw[←xe,show 64-s+s=64 by omega]];exact Zu _ _ hp
  rw[←e,fG _ 18446744073709551616];exact(oD _ _).symm
 have F:(hi*18446744073709551616+lo)*2^s=(hi*2^s+lo/2^(64-s))*18446744073709551616+lo*2^s%18446744073709551616:=by
  rw[fb,an,Ur,fb,vG]
  congr 2
  rw[←an]
 have ay:(hi*18446744073709551616+lo)/y=(hi*18446744073709551616+lo)*2^s/(y*2^s):=(Zu _ _ hp).symm;have b7:(hi*18446744073709551616+lo)%y=(hi*18446744073709551616+lo)*2^s%(y*2^s)/2^s:=by
  rw[Uq,Nat.mul_div_cancel _ hp]
 have aa:(hi*18446744073709551616+lo)/y<18446744073709551616:=by
  rw[xg ae,fG];have:(hi+1)*18446744073709551616≤y*18446744073709551616:=gO _ cb;omega
 rw[ay,b7];rw[ay]at aa;generalize(hi*18446744073709551616+lo)*2^s=HS at*;generalize ec:hi*2^s+lo/2^(64-s)=A at*;have be:lo*2^s%18446744073709551616<18446744073709551616:=iO _ ae;generalize lo*2^s%18446744073709551616=U at*;generalize ep:y*2^s=Y at*
 clear an bk ar
 have hu:A<Y:=ae;have b4:U/4294967296<4294967296:=ae;have bo:U%4294967296<4294967296:=ae;have ci:(2:Nat)^32=4294967296:=rfl;rw[nJ _ ae,ah,Qz be,ah,ci];have b5:Y=Y/4294967296*4294967296+Y%4294967296:=ae;have cp:2147483648≤Y/4294967296:=ae;have a8:Y/4294967296<4294967296:=ae;have cr:Y%4294967296<4294967296:=ae;have b8:s≤64:=ae;generalize ee:Y/4294967296=yn1 at*;generalize em:Y%4294967296=yn0 at*;generalize er:U/4294967296=H at*;generalize ei:U%4294967296=G at*;have c2:U=H*4294967296+G:=ae;rw[MS ae ae,ah,nE,ah];have ef:A/yn1*yn1≤A:=JK _ _;rw[show((A/yn1:Nat):Int)*(yn1:Int)=((A/yn1*yn1:Nat):Int)from(mQ _ _).symm,gF ae,iR,ah,
  show(A:Int)-((A/yn1*yn1:Nat):Int)=((A-A/yn1*yn1:Nat):Int)by omega,gF ae]
 have body:∀{u d q r:Nat} {X Y:Prop} (hq:q<4294967298) (hr:r<4294967296) (hd:d<4294967296),
   ((4294967296≤q∨4294967296*r+d<q*yn0)→X)→(¬(4294967296≤q∨4294967296*r+d<q*yn0)→Y)→
   vK (ak .i .geq (.int .u64 (q:Int)) (.int .u64 4294967296)) λI=>
    vK (gV I false (some (.int .u64 (q:Int)))) λc1=>vK (gV I false (some (.int .u64 (yn0:Int)))) λcz=>vK (gV I false (ak .i .mul c1 cz)) λeb=>
    vK (gV I false (some (.int .u64 (r:Int)))) λc6=>vK (gV I false (ak .i .mul (.int .u64 4294967296) c6)) λc8=>vK (gV I false (some (.int .u64 (d:Int)))) λea=>
    vK (gV I false (ak .i .add c8 ea)) λdq=>vK (gV I false (ak .i .gtr eb dq)) λc9=>vK (aH I (.bool true) c9) λc7=>aG c7 X Y:=by
  intro u d q r X Y hq hr hd hX hY;simp only[go_sem];by_cases hc:4294967296≤q
  ·have e:((4294967296:Int)≤(q:Int))=True:=jZ ae;simp only[go_sem,e];exact hX (.inl hc)
  ·have e:((4294967296:Int)≤(q:Int))=False:=gk ae;simp only[go_sem,e];have eg:q*yn0≤q*4294967296:=Zv _ ae;rw[show(q:Int)*(yn0:Int)=((q*yn0:Nat):Int)from(mQ _ _).symm,gF (m:=q*yn0) ae,
    show(4294967296:Int)*(r:Int)=((4294967296*r:Nat):Int)by omega,gF (m:=4294967296*r) ae,
    show((4294967296*r:Nat):Int)+(d:Int)=((4294967296*r+d:Nat):Int)by omega,gF (m:=4294967296*r+d) ae]
   refine aq (λh0=>hX (.inr ae)) (λh0=>hY ae)
 refine bB (λxs h'=>xs=[.int .u64 (((A*4294967296+H)/Y:Nat):Int)]∧h'=h1) ?_ ?_
 ·refine PH (d:=H) b5 cr cp a8 hu b4 (λq r=>[.int .u64 (q:Int),.int .u64 (r:Int)]) rfl λq r again ρj hq hr g1 g2 g3 g4=>?_
  simp only[iq,vN];refine body (u:=0) hq hr b4 (λhc=>?_) (λhc=>?_)
  ·have am:=g4 hc;rw[iR,ah,show(q:Int)-1=((q-1:Nat):Int)by omega,gF ae,dD,ah,show(r:Int)+(yn1:Int)=((r+yn1:Nat):Int)by omega,gF ae];rw[Qt,ah];refine aq (λh0=>⟨by rw[g2 hc am ae],trivial⟩) (λh0=>g1 _ _ rfl rfl am hc ae)
  ·exact⟨by rw[g3 hc],trivial⟩
 rintro xs ρj h2 ⟨rfl,e2⟩;subst e2;simp only[iq];have c4:=PX hu b4;have ca:=oD (A*4294967296+H) Y;have W:(A*4294967296+H)%Y<Y:=iO _ ae;have hD:=Yl (M:=A*4294967296+H) (Y:=Y) (d0:=G) ae rfl rfl;obtain⟨ad,bd⟩:∃q,q=(A*4294967296+H)/Y:=⟨_,rfl⟩
 obtain⟨D,a7⟩:∃q,q=(A*4294967296+H)%Y:=⟨_,rfl⟩
 rw[←bd,←a7]at ca hD;rw[←a7]at W;rw[←bd]at c4 ⊢;have dz:IntKind.u64.wrap (IntKind.u64.wrap (IntKind.u64.wrap ((A:Int)*4294967296)+(H:Int))-IntKind.u64.wrap ((ad:Int)*(Y:Int)))=(D:Int):=by
  rw[show(ad:Int)*(Y:Int)=((Y*ad:Nat):Int)by rw[fG];exact(mQ _ _).symm];rw[fN,fN,fN,fN]
  clear hD F
  generalize Y*ad=P at*;omega
 rw[nE,ah,dD,ah,nE,ah,iR,ah,dz];have ek:D/yn1*yn1≤D:=JK _ _;rw[MS ae ae,ah,nE,ah,show((D/yn1:Nat):Int)*(yn1:Int)=((D/yn1*yn1:Nat):Int)from(mQ _ _).symm,gF ae,iR,ah,
  show(D:Int)-((D/yn1*yn1:Nat):Int)=((D-D/yn1*yn1:Nat):Int)by omega,gF ae]
 refine bB (λxs h'=>xs=[.int .u64 (((D*4294967296+G)/Y:Nat):Int)]∧h'=h2) ?_ ?_
 ·refine PH (d:=G) b5 cr cp a8 W bo (λq r=>[.int .u64 (r:Int),.int .u64 (q:Int)]) rfl λq r again ρj hq hr g1 g2 g3 g4=>?_
  simp only[iq,vN];refine body (u:=0) hq hr bo (λhc=>?_) (λhc=>?_)
  ·have am:=g4 hc;rw[iR,ah,show(q:Int)-1=((q-1:Nat):Int)by omega,gF ae,dD,ah,show(r:Int)+(yn1:Int)=((r+yn1:Nat):Int)by omega,gF ae];rw[Qt,ah];refine aq (λh0=>⟨by rw[g2 hc am ae],trivial⟩) (λh0=>g1 _ _ rfl rfl am hc ae)
  ·exact⟨by rw[g3 hc],trivial⟩
 rintro xs ρj h3 ⟨rfl,e3⟩;subst e3;simp only[iq];have dl:=PX W bo;have a9:=oD (D*4294967296+G) Y;have c0:(D*4294967296+G)%Y<Y:=iO _ ae;have bv:HS=(A*4294967296+H)*4294967296+G:=Ws F c2;rw[bv]at aa ⊢;rw[hD.1]at aa ⊢;rw[hD.2];obtain⟨al,au⟩:∃q,q=(D*4294967296+G)/Y:=⟨_,rfl⟩
 obtain⟨rr,ax⟩:∃q,q=(D*4294967296+G)%Y:=⟨_,rfl⟩
 rw[←au,←ax]at a9;rw[←ax]at c0;rw[←au]at dl aa;rw[←au,←ax];have c3:IntKind.u64.wrap (IntKind.u64.wrap (IntKind.u64.wrap ((D:Int)*4294967296)+(G:Int))-IntKind.u64.wrap ((al:Int)*(Y:Int)))=(rr:Int):=by
  rw[show(al:Int)*(Y:Int)=((Y*al:Nat):Int)by rw[fG];exact(mQ _ _).symm];rw[fN,fN,fN,fN]
  clear hD F bv
  generalize Y*al=P at*;omega
 have rq:IntKind.u64.wrap (IntKind.u64.wrap ((ad:Int)*4294967296)+(al:Int))=((ad*4294967296+al:Nat):Int):=by
  rw[fN,fN]
  clear hD F bv ca a9
  omega
 rw[nE,ah,dD,ah,nE,ah,dD,ah,nE,ah,iR,ah,c3,rq,nJ _ b8,ah];exact⟨rfl,trivial⟩
theorem Sp {m n:Nat}{b:Bool}(D:9223372036854775808≤m)(A:9223372036854775808≤n):ko m b=ko n b:=by
 unfold ko;cases b
 ·simp only[ig,cS];rw[aB ae,aB ae]
 ·simp only[cV];rw[aB ae,aB ae]
theorem Tl {a b:Int}(D:I64 a)(F:I64 b):a.natAbs*b.natAbs≤85070591730234615865843651857942052864:=by
 have h1:=rG D;have A:=rG F;exact bA (AP h1 A) (by decide)
theorem PU {m n:Nat}(h:m≤85070591730234615865843651857942052864):m/n≤85070591730234615865843651857942052864:=bA (ka _ _) h
theorem pY {h:ai}{a b d:Int}(ha:I64 a)(hb:I64 b)(hd:I64 d):ag prog ft #[af a,af b,af d] h λr h'=>r=af (df a b d)∧h'=h:=by
 apply Ot;unfold Cm;simp only[go_sem];unfold df;refine aq (λh0=>?_) (λh0=>?_)
 ·rw[aB h0];exact⟨rfl,trivial⟩
 rw[aA h0];have hm:=Tl ha hb;refine(SN ha hb).mono λv1 h1 ⟨e1,w1⟩=>?_
 subst e1 w1;simp only[go_sem];refine(HE hd).mono λv2 H ⟨e2,w2⟩=>?_
 subst e2 w2;have ar:=rG hd;have A:0<d.natAbs:=ae;obtain⟨m,an⟩:∃m,m=a.natAbs*b.natAbs:=⟨_,rfl⟩
 obtain⟨bl,L⟩:∃bl,bl=(lH a b != decide (d<0)):=⟨_,rfl⟩
 obtain⟨D,hD⟩:∃D,D=d.natAbs:=⟨_,rfl⟩
 have G:(!(lH a b==decide (d<0)))=bl:=L.symm;rw[←an]at hm ⊢;rw[←L,G,←hD];rw[←hD]at A ar;have hq:m/D≤85070591730234615865843651857942052864:=PU hm;simp only[go_sem];refine aq (λh1=>?_) (λh1=>?_)
 ·have ay:18446744073709551616≤m/D:=by
   rw[Nf A];have H:D≤m/18446744073709551616:=ae;have:=(Nf (show 0<18446744073709551616 by omega)).1 H;rw[fG];exact this
  refine(DI (m:=18446744073709551616) (b:=bl) ae).mono λv h' ⟨e,w⟩=>⟨?_,w⟩
  rw[e,Sp ae (n:=yr m D bl)];unfold yr;omega
 ·have U:m/18446744073709551616<D:=ae;have ax:m/D<18446744073709551616:=by
   rw[xg A,fG];exact(xg ae).1 U
  refine(zeP U (iO _ ae) ae).mono λv H ⟨e,w⟩=>?_
  subst e w;have au:m/18446744073709551616*18446744073709551616+m%18446744073709551616=m:=by
   rw[fG];exact oD _ _
  rw[au];simp only[go_sem];have hr:m%D<D:=iO _ A;rw[show(D:Int)-((m%D:Nat):Int)=((D-m%D:Nat):Int)by omega,gF (m:=D-m%D) ae];have fin:∀up:Nat,up≤1→yr m D bl=m/D+up→ag prog gZ #[.int .u64 ((m/D:Nat):Int),.int .u64 (up:Int),.int .u64 0] H λF ad=>
    vK (aP F 0) λam=>vK (aP F 1) λW=>ag prog fo #[W,am,.bool bl] ad λal aa=>al=af (ko (yr m D bl) bl)∧aa=H:=by
   intro up a7 hn;refine(zag (x:=m/D) (y:=up) (c:=0) ae).mono λv h3 ⟨e,w⟩=>?_
   subst e w;simp only[go_sem];refine(DI (m:=m/D+up+0) (b:=bl) ae).mono λv h' ⟨e,w⟩=>⟨?_,w⟩
   rw[e,hn];rfl
  cases I:bl
  ·rw[I]at fin;simp only[go_sem];refine aq (λh3=>?_) (λh3=>?_)
   ·refine fin 1 ae ?_;unfold yr;simp only[ig,cS];rw[aB ae]
   ·refine fin 0 ae ?_;unfold yr;simp only[ig,cS];rw[aA ae]
  ·rw[I]at fin;simp only[go_sem];by_cases h3:D-m%D<m%D
   ·have e3:(((D-m%D:Nat):Int)<((m%D:Nat):Int))=True:=jZ ae;simp only[go_sem,e3];refine fin 1 ae ?_;unfold yr;simp only[cV];rw[aB ae]
   ·have e3:(((D-m%D:Nat):Int)<((m%D:Nat):Int))=False:=gk ae;simp only[go_sem,e3];refine fin 0 ae ?_;unfold yr;simp only[cV];rw[aA ae]
theorem Mg {h:ai}{m n:Nat}(hm:m<340282366920938463463374607431768211456)(hn:n<128):
  ag prog vT #[.int .u64 ((m/18446744073709551616:Nat):Int),.int .u64 ((m%18446744073709551616:Nat):Int),af (n:Int)] h λr h'=>
   r=.tuple #[.int .u64 ((m/2^n/18446744073709551616:Nat):Int),.int .u64 ((m/2^n%18446744073709551616:Nat):Int)]∧h'=h:=by
 apply QN;unfold Fu;simp only[go_sem];have I:m/18446744073709551616<18446744073709551616:=ae;refine aq (λh0=>?_) (λh0=>?_)
 ·rw[w64 (n:=(n:Int)-64) ae ae,show(n:Int)-64=((n-64:Nat):Int)by omega,nJ _ ae,ah];refine⟨?_,trivial⟩;have e:m/2^n=m/18446744073709551616/2^(n-64):=by
   rw[JT,show(18446744073709551616:Nat)=2^64 from rfl,←xe,show 64+(n-64)=n by omega]
  have H:m/18446744073709551616/2^(n-64)<18446744073709551616:=uz (ka _ _) I;rw[e,uw H,xf H];rfl
 ·have W:n<64:=ae;rw[nJ _ ae,ah,nJ _ ae,ah];rw[w64 (n:=64-(n:Int)) ae ae,show(64:Int)-(n:Int)=((64-n:Nat):Int)by omega,xS _ ae,ah];have F:m%18446744073709551616<18446744073709551616:=iO _ ae;have h2:m%18446744073709551616/2^n<18446744073709551616:=uz (ka _ _) F;rw[zca h2 (iO _ ae),ah];refine⟨?_,trivial⟩;have L:(0:Nat)<2^n:=yu ae;have A:(18446744073709551616:Nat)=2^n*2^(64-n):=by rw[←xe,show n+(64-n)=64 by omega]
  have D:m%18446744073709551616/2^n<2^(64-n):=by
   rw[xg L,fG,←A];exact F
  -- the low half of what is above
  have e1:m/2^n=m/18446744073709551616*2^(64-n)+m%18446744073709551616/2^n:=by
   have e:=oD m 18446744073709551616;have e2:m=m%18446744073709551616+2^n*(m/18446744073709551616*2^(64-n)):=by
    have:2^n*(m/18446744073709551616*2^(64-n))=18446744073709551616*(m/18446744073709551616):=by
     rw[A,Ez,fG]
    rw[this];omega
   conv=>lhs;rw[e2]
   rw[JQ _ _ L,EA]
  have e3:m/18446744073709551616*2^(64-n)%18446744073709551616=m/18446744073709551616%2^n*2^(64-n):=by
   have:(18446744073709551616:Nat)=2^n*2^(64-n):=A
   conv=>lhs;rhs;rw[this]
   exact Uq _ _ _
  rw[e3,Nat.or_comm,VK D];generalize U:m/18446744073709551616=G at*;have e4:m/2^n/18446744073709551616=G/2^n:=by
   rw[JT,fG,←JT,U]
  have e5:m/2^n%18446744073709551616=G%2^n*2^(64-n)+m%18446744073709551616/2^n:=by
   rw[e1];have hd:=oD G (2^n);have:G*2^(64-n)=G%2^n*2^(64-n)+18446744073709551616*(G/2^n):=by
    conv=>lhs;rw[←hd]
    rw[fb,EA,Ur,←A]
   rw[this,Nat.add_right_comm,Ng,xf];have h6:G%2^n+1≤2^n:=iO _ L;have h7:(G%2^n+1)*2^(64-n)≤2^n*2^(64-n):=gO _ h6;rw[←A,fb,uv]at h7;exact ce (Nat.add_lt_add_left D _) h7
  rw[e4,e5]
theorem zeC {h:ai}{m n:Nat}(L:m<340282366920938463463374607431768211456)(H:n<128):
  ag prog A8 #[.int .u64 ((m/18446744073709551616:Nat):Int),.int .u64 ((m%18446744073709551616:Nat):Int),af (n:Int)] h λr h'=>r=.bool (decide (m%2^n=0))∧h'=h:=by
 apply QO;unfold Fv;simp only[go_sem];have D:∀(a k:Nat),k≤64→(a*2^(64-k)%18446744073709551616=0↔a%2^k=0):=by
  intro a k I;have A:(18446744073709551616:Nat)=2^k*2^(64-k):=by rw[←xe,show k+(64-k)=64 by omega]
  rw[A,Uq];have:0<2^(64-k):=yu ae;constructor
  ·intro h;rcases Nat.mul_eq_zero.1 h with h|h<;>omega
  ·intro h;rw[h,AR]
 refine aq (λh0=>?_) (λh0=>?_)
 ·-- n ≥ 64
  have e:(2:Nat)^n=18446744073709551616*2^(n-64):=by rw[show(18446744073709551616:Nat)=2^64 from rfl,←xe,show 64+(n-64)=n by omega]
  have key:m%2^n=0↔m%18446744073709551616=0∧m/18446744073709551616%2^(n-64)=0:=by
   rw[e,Nat.mod_mul];constructor
   ·intro h;have h1:m%18446744073709551616=0:=ae;refine⟨h1,?_⟩;rw[h1,aO]at h;rcases Nat.mul_eq_zero.1 h with h|h
    ·omega
    ·exact h
   ·rintro⟨h1,G⟩;rw[h1,G]
  by_cases F:m%18446744073709551616=0
  ·have q:(((m%18446744073709551616:Nat):Int)=0)=True:=jZ ae;simp only[go_sem,q];rw[w64 (n:=128-(n:Int)) ae ae,show(128:Int)-(n:Int)=((64-(n-64):Nat):Int)by omega,xS _ ae,ah];simp only[go_sem];refine⟨?_,trivial⟩
   congr 1
   rw[iB];have:=D (m/18446744073709551616) (n-64) ae;constructor
   ·intro h;exact key.2 ⟨F,this.1 ae⟩
   ·intro h;have:=this.2 (key.1 h).2;omega
  ·have q:(((m%18446744073709551616:Nat):Int)=0)=False:=gk ae;simp only[go_sem,q];refine⟨?_,trivial⟩
   congr 1
   rw[Eq.comm,Ew];exact λh=>F (key.1 h).1
 ·rw[w64 (n:=64-(n:Int)) ae ae,show(64:Int)-(n:Int)=((64-n:Nat):Int)by omega,xS _ ae,ah];simp only[go_sem];refine⟨?_,trivial⟩
  congr 1
  rw[iB];have:=D (m%18446744073709551616) n ae;have e:m%18446744073709551616%2^n=m%2^n:=by
   have A:(18446744073709551616:Nat)=2^n*2^(64-n):=by rw[←xe,show n+(64-n)=64 by omega]
   rw[A,Nat.mod_mul_right_mod]
  rw[e]at this;constructor
  ·intro h;exact this.1 ae
  ·intro h;have:=this.2 h;omega
theorem YH {h:ai} {a b n:Int} (ha:I64 a) (hb:I64 b) (hn:I64 n):ag prog uE #[af a,af b,af n] h λr h'=>r=af (rH a b n)∧h'=h:=by
  apply KT;unfold zI;simp only[go_sem];have hm:=Tl ha hb;unfold rH;refine aq (λh0=>?_) (λh0=>?_)
  · rw[aB ae];exact⟨rfl,trivial⟩
  rw[aA ae];have ar:max 0 n=((n.toNat:Nat):Int):=ae;rw[ar]at h0 ⊢;obtain⟨k,hk⟩:∃k,k=n.toNat:=⟨_,rfl⟩
  rw[←hk]at h0 ⊢;refine(SN ha hb).mono λv1 h1 ⟨e1,w1⟩=>?_
  subst e1 w1;obtain⟨m,am⟩:∃m,m=a.natAbs*b.natAbs:=⟨_,rfl⟩
  obtain⟨bl,an⟩:∃bl,bl=lH a b:=⟨_,rfl⟩
  rw[←am]at hm ⊢;rw[←an];simp only[go_sem];unfold NJ;refine aq (λh1=>?_) (λh1=>?_)
  · rw[aB ae]
    exact DI ae
  rw[aA ae];refine(Mg (m:=m) (n:=k) ae ae).mono λv h2 ⟨e,w⟩=>?_
  subst e w;simp only[go_sem];rw[w64 (n:=(k:Int)-1) ae ae,show(k:Int)-1=((k-1:Nat):Int)by omega];refine(Mg (m:=m) (n:=k-1) ae ae).mono λv U ⟨e,w⟩=>?_
  subst e w;simp only[go_sem];have au:m/2^k≤85070591730234615865843651857942052864:=PU hm;rw[Xm (iO _ ae),ah,show m/2^(k-1)%18446744073709551616%2=m/2^(k-1)%2 by omega];have D:ag prog fo #[.int .u64 ((m/2^k/18446744073709551616:Nat):Int),.int .u64 ((m/2^k%18446744073709551616:Nat):Int),.bool bl] U λG F=>G=af (ko (m/2^k+0) bl)∧F=U:=DI ae
  have A:ag prog gZ #[.int .u64 ((m/2^k%18446744073709551616:Nat):Int),.int .u64 1,.int .u64 0] U λH ad=>
        vK (aP H 0) λal=>vK (aP H 1) λW=>vK (ak .i .add (.int .u64 ((m/2^k/18446744073709551616:Nat):Int)) W) λaa=>
        ag prog fo #[aa,al,.bool bl] ad λG F=>G=af (ko (m/2^k+1) bl)∧F=U:=by
    refine(zag (x:=m/2^k%18446744073709551616) (y:=1) (c:=0) ae).mono λv h4 ⟨e,w⟩=>?_
    subst e w;simp only[go_sem];generalize m/2^k=M at*;have e1:(M%18446744073709551616+1+0)%18446744073709551616=(M+1)%18446744073709551616:=ae;have e2:((M/18446744073709551616:Nat):Int)+(((M%18446744073709551616+1+0)/18446744073709551616:Nat):Int)=(((M+1)/18446744073709551616:Nat):Int):=ae;rw[e1,e2,gF ae];exact DI ae
  by_cases hh:m/2^(k-1)%2=0
  · have q:(((m/2^(k-1)%2:Nat):Int)=0)=True:=jZ ae
    simp only[go_sem,q];rw[aA (λh=>ae)];exact D
  · have q:(((m/2^(k-1)%2:Nat):Int)=0)=False:=gk ae
    simp only[go_sem,q];have L:m/2^(k-1)%2=1:=ae;cases I:bl
    · rw[I]at A
      simp only[go_sem];rw[aB ⟨L,by simp⟩];exact A
    · rw[I]at D A
      simp only[go_sem];rw[w64 (n:=(k:Int)-1) ae ae,show(k:Int)-1=((k-1:Nat):Int)by omega];refine(zeC (m:=m) (n:=k-1) ae ae).mono λv h4 ⟨e,w⟩=>?_
      subst e w
      try simp only[go_sem]
      refine aq (λh5=>?_) (λh5=>?_)
      · rw[aA (λh=>h.2 ⟨trivial,h5⟩)]
        exact D
      · rw[aB ⟨L,λh=>h5 h.2⟩]
        exact A
theorem Y2 {a:Int}{n:Nat}(k':IntKind)(A:n≤64):ak .i .shl (af a) (.int k' (n:Int))=some (af (IntKind.i64.wrap (a*2^n))):=by
 show(if(n:Int)<0 then none else some (af (IntKind.i64.wrap (a*(2^(min (n:Int).toNat 64))))))=_;rw[aA ae,dJ,vF A]
theorem zbQ {a:Int}(k':IntKind):ak .i .shl (af a) (.int k' 40)=some (af (IntKind.i64.wrap (a*1099511627776))):=Y2 (n:=40) k' ae
theorem zfg {a:Int}(k':IntKind):ak .i .shl (af a) (.int k' 31)=some (af (IntKind.i64.wrap (a*2147483648))):=Y2 (n:=31) k' ae
theorem zde {h:ai}{a b:Int}(G:I64 a)(U:I64 b)(h0:0<b):ag prog uo #[af a,af b] h λr h'=>r=af (a%b)∧h'=h:=by
 apply TQ;unfold IS;have F:(b=0)=False:=gk ae;have H:(b= -1)=False:=gk ae;have L:(b<0)=False:=gk ae;simp only[go_sem,F,H];rw[dS _ _ _ _ ae,ah];simp only[go_sem,L];have e:= @Int.emod_eq_tmod a b;have W:=kD a (show b≠0 by omega);have D:=iP a h0;unfold I64 at G U;by_cases hc:a.tmod b=0
 ·simp only[go_sem,hc];refine⟨?_,trivial⟩;rw[hc]at e;split at e
  ·rw[e];rfl
  ·rename_i I;exact absurd (Or.inr (Int.dvd_of_tmod_eq_zero hc)) I
 ·simp only[go_sem,hc];by_cases A:a.tmod b<0
  ·simp only[go_sem,A];split at e
   ·omega
   ·rw[w64 ae ae];refine⟨?_,trivial⟩
    congr 1;omega
  ·simp only[go_sem,A];refine⟨?_,trivial⟩
   congr 1
   split at e<;>omega
theorem zae {h:ai}{x l u:Int}:ag prog sY #[af x,af l,af u] h λr h'=>r=af (max l (min x u))∧h'=h:=by
 apply O0;unfold CV;simp only[go_sem];exact⟨by simp,by simp⟩
theorem Qi {h:ai}{a b:Int}(A:I64 a)(D:I64 b):ag prog yL #[af a,af b] h λr h'=>r=af (Fq a b)∧h'=h:=by
 apply TR;unfold IT;simp only[go_sem,jA];unfold Fq I64 at*;refine aq (λh0=>?_) (λh0=>?_)
 ·exact⟨by congr 1;omega,trivial⟩
 refine aq (λh1=>?_) (λh1=>?_)
 ·exact⟨by congr 1;omega,trivial⟩
 ·exact⟨by congr 1;omega,trivial⟩
theorem YF {h:ai}{a b:Int}(A:I64 a)(D:I64 b):ag prog Ee #[af a,af b] h λr h'=>r=af (zdW a b)∧h'=h:=by
 apply TP;unfold IR;refine(oU A).mono λU h1 ⟨H,w1⟩=>?_
 subst H w1;refine(oU D).mono λW h2 ⟨I,L⟩=>?_
 subst I L;refine(U0 (jV A) (jV D)).mono λv3 h3 ⟨G,F⟩=>?_
 subst G F;simp only[go_sem];unfold zdW;have hm:=Tl A D;generalize a.natAbs*b.natAbs=m at*;refine aq (λh0=>?_) (λh0=>?_)
 ·refine(ug (m:=18446744073709551615) (b:=lH a b) ae).mono λv h' ⟨e,w⟩=>⟨?_,w⟩
  rw[e,Sp (n:=m) ae ae]
 ·rw[show m%18446744073709551616=m by omega];exact ug ae
theorem c_Exp {h:ai}{t:Int}(U:I64 t):ag prog Ig #[af t] h λr h'=>r=af (za2 t)∧h'=h:=by
 apply VZ;unfold LU;simp only[go_sem];unfold za2;have A:0≤max 0 t∧max 0 t≤9223372036854775807:=by unfold I64 at U;omega
 generalize max 0 t=T at*;rw[nD _ _ _ _ ae,ah,dS _ _ _ _ ae,ah,yt A.1,jY A.1,w64 ae ae];have hr:0≤T%762123384786∧T%762123384786<762123384786:=ae;generalize D:T%762123384786=r at*;refine kB (λi=>[af (fY r i).1,af (fY r i).2,af (i:Int)]) 16 0 rfl ae λi again ρj _ hi H=>?_
 simp only[go_sem];obtain⟨I,F⟩:=DC r i;refine aq (λh0=>?_) (λh0=>?_)
 ·have H:=H ae;simp only[fY]at H;rw[w64 (n:=(i:Int)+1) ae ae,zbQ,ah,w64 ae ae];refine(pY F (by unfold I64;omega) (by unfold I64;omega)).mono λW h1 ⟨G,w1⟩=>?_
  subst G w1;rw[dS _ _ _ _ ae,ah,jY ae];simp only[go_sem];refine aq (λL=>?_) (λL=>?_)
  ·rw[aB ae]at H;rw[show((i+1:Nat):Int)=(i:Int)+1 by omega]at H;exact H
  ·rw[aA ae]at H;rw[show((i+1:Nat):Int)=(i:Int)+1 by omega]at H;exact H
 ·have:i=16:=ae;subst this;exact Nv I (by unfold I64;omega)
theorem zeH {h:ai}{d s:Int}(hd:I64 d)(D:I64 s):ag prog Bu #[af d,af s] h λr h'=>r=af (GH d s)∧h'=h:=by
 apply RC;unfold Gi;simp only[go_sem];unfold GH;refine aq (λh0=>?_) (λh0=>?_)
 ·rw[aB ae];exact⟨rfl,trivial⟩
 ·rw[aA ae,zfg,ah];have h1:=RT (d:=d) (B:=16384) ae ae;have A:=RT (d:=s) (B:=4194304) ae ae;rw[w64 (n:=d*d) ae ae,w64 (n:=d*d*2147483648) ae ae,w64 (n:=s*s) ae ae];exact pY (by unfold I64;omega) (by unfold I64;omega) (by unfold I64;omega)
theorem zeN {h:ai}{d s:Int}(hd:I64 d)(F:I64 s):ag prog Bv #[af d,af s] h λr h'=>r=af (Dz d s)∧h'=h:=by
 apply RD;unfold Gj;refine(zeH hd F).mono λD h1 ⟨A,w1⟩=>?_
 subst A w1;refine(c_Exp (Oi _ _)).mono λD h1 ⟨A,w1⟩=>?_
 subst A w1;exact Nv (PO _) (by unfold I64;omega)
theorem HH {h:ai}{p:Int}(A:I64 p)(h0:p≠ -9223372036854775808):ag prog yF #[af p] h λr h'=>r=af (max p (-p))∧h'=h:=by
 apply Tt;unfold Iu;unfold I64 at A;simp only[go_sem];rw[w64 ae ae];exact⟨by rw[Up],trivial⟩
theorem c_May {h:ai}{p q:Int}(A:I64 p)(hq:I64 q):ag prog Ib #[af p,af q] h λr h'=>r=.bool (decide (MO p q))∧h'=h:=by
 apply VN;unfold LH;simp only[go_sem];refine⟨?_,trivial⟩
 congr 1
 rw[iB];unfold MO I64 at*;by_cases h1:1≤q∧q≤1048576
 ·rw[w64 (n:= -4*q) ae ae,w64 (n:=4*q) ae ae];omega
 ·omega
theorem Vd (x:Int):2*x*(2*x+1)=4*(x*x)+2*x:=by
 have e:2*x*(2*x)=4*(x*x):=by rw[oB 2 x (2*x),Ev x 2 x];omega
 rw[JJ,Int.mul_one,e]
theorem WU {h:ai}{p q:Int}(I:I64 p)(h0:p≠ -9223372036854775808)(hq:I64 q):ag prog sO #[af p,af q] h λr h'=>r=af (Aw p q)∧h'=h:=by
 apply Ou;unfold Cn;unfold Aw;refine(HH I h0).mono λF h1 ⟨A,w1⟩=>?_
 subst A w1;have G:I64 (max p (-p)):=by unfold I64 at*;omega
 refine(pY (by unfold I64;omega) G hq).mono λF h1 ⟨A,w1⟩=>?_
 subst A w1;refine(pY (gL _ _ _) G hq).mono λF h1 ⟨A,w1⟩=>?_
 subst A w1;have hu:=gL (df 10851744800547 (max p (-p)) q) (max p (-p)) q;generalize df (df 10851744800547 (max p (-p)) q) (max p (-p)) q=u at*;refine kB (λi=>[af (cK u i).1,af (cK u i).2,af (if i%2=0 then 1 else-1),af ((i:Int)+1)]) 30 0 rfl ae λi again ρj _ hi H=>?_
 simp only[go_sem];obtain⟨W,U⟩:=Av u i;refine aq (λh0=>?_) (λh0=>?_)
 ·have H:=H ae;simp only[cK]at H;have L:=RT (d:=(i:Int)+1) (B:=30) ae ae;have he:=Vd ((i:Int)+1);rw[w64 (n:=2*((i:Int)+1)) ae ae,w64 (n:=2*((i:Int)+1)+1) ae ae,w64 (n:=2*((i:Int)+1)*(2*((i:Int)+1)+1)) ae ae,zbQ,ah,w64 ae ae];refine(pY U hu (by unfold I64;omega)).mono λF h1 ⟨A,w1⟩=>?_
  subst A w1;rw[w64 (n:=(i:Int)+1+1) ae ae];have ht:=gL (cK u i).2 u (2*((i:Int)+1)*(2*((i:Int)+1)+1)*1099511627776);simp only[go_sem];by_cases D:i%2=0
  ·rw[aB D,aA ae]at H;rw[aB D];have A:IntKind.i64.wrap ((cK u i).1+IntKind.i64.wrap (IntKind.i64.wrap (0-1)*df (cK u i).2 u (2*((i:Int)+1)*(2*((i:Int)+1)+1)*1099511627776)))=IntKind.i64.wrap ((cK u i).1-df (cK u i).2 u (2*((i:Int)+1)*(2*((i:Int)+1)+1)*1099511627776)):=by
    rw[rA,w64 (n:=0-1) ae ae];congr 1;omega
   rw[A];exact H
  ·rw[aA D,aB ae]at H;rw[aA D];have A:IntKind.i64.wrap ((cK u i).1+IntKind.i64.wrap (IntKind.i64.wrap (0- -1)*df (cK u i).2 u (2*((i:Int)+1)*(2*((i:Int)+1)+1)*1099511627776)))=IntKind.i64.wrap ((cK u i).1+df (cK u i).2 u (2*((i:Int)+1)*(2*((i:Int)+1)+1)*1099511627776)):=by
    rw[rA,w64 (n:=0- -1) ae ae];congr 1;omega
   rw[A];exact H
 ·have:i=30:=ae;subst this;exact⟨rfl,trivial⟩
theorem zbv {h:ai}{p q:Int}(F:I64 p)(hq:I64 q):ag prog xC #[af p,af q] h λr h'=>r=af (xj p q)∧h'=h:=by
 apply MA;unfold BG;unfold xj;refine(c_May F hq).mono λG h1 ⟨A,w1⟩=>?_
 subst A w1;by_cases D:MO p q
 ·have H:=D;unfold MO at H;by_cases h0:3*q≤max p (-p)
  ·rw[aB (.inr h0)];simp only[go_sem,D];refine(HH F ae).mono λG h1 ⟨A,w1⟩=>?_
   subst A w1;rw[w64 (n:=3*q) ae ae];simp only[go_sem,h0];exact⟨by simp,by simp⟩
  ·rw[aA (by rintro(I|I);exact I D;omega)];simp only[go_sem,D];refine(HH F ae).mono λG h1 ⟨A,w1⟩=>?_
   subst A w1;rw[w64 (n:=3*q) ae ae];simp only[go_sem,h0];refine(WU F ae hq).mono λG h1 ⟨A,w1⟩=>?_
   subst A w1;refine(WU F ae (by unfold I64;omega)).mono λG h1 ⟨A,w1⟩=>?_
   subst A w1;refine(YH (yo _ _) (yo _ _) (by unfold I64;omega)).mono λG h1 ⟨A,w1⟩=>?_
   subst A w1;exact Nv (yT _ _ _) (by unfold I64;omega)
 ·rw[aB (.inl D)];simp only[go_sem,D];exact⟨by simp,by simp⟩
end Go.Proofs.YtjljhnandbbldaaGreatDoor
namespace Go.Crisp
open Go
theorem Ao (a b:Int):IntKind.i64.wrap (IntKind.i64.wrap a*b)=IntKind.i64.wrap (a*b):=by
 obtain⟨k,A⟩:∃k,IntKind.i64.wrap a=a+18446744073709551616*k:=⟨(IntKind.i64.wrap a-a)/18446744073709551616,by rw[jA];omega⟩
 rw[A,jX,oB,jA,jA];generalize k*b=c;omega
theorem GB (a b:Int):IntKind.i64.wrap (a*IntKind.i64.wrap b)=IntKind.i64.wrap (a*b):=by
 rw[gv,Ao,gv]
theorem rO {a b:Int}(W:I64 a)(hb:0<b):Lh a b=a/b:=by
 unfold Lh Hs lH ko;rw[aA ae];unfold I64 at W;have L:(b<0)=False:=gk ae;simp only[L,Nd];obtain⟨B,rfl⟩:∃B:Nat,b=(B:Int):=⟨b.toNat,ae⟩
 simp only[Int.natAbs_natCast];by_cases h:a<0
 ·simp only[h,gM];obtain⟨A,rfl⟩:∃A:Nat,a= -(A:Int):=⟨(-a).toNat,ae⟩
  have U:(-(A:Int)).natAbs=A:=ae;rw[U];have hB:0<B:=ae;have hd:=oD A B;have hm:=iO A hB;have F:A/B≤A:=ka _ _;simp only[Kc,beq_eq_false_iff_ne,ne_eq,Bool.true_eq_false,not_false_eq_true,EC,cV];by_cases I:A%B=0
  ·rw[aA (show¬ ¬A%B=0 from λh=>h I),ic];have D: -(A:Int)=(B:Int)* -((A/B:Nat):Int):=by
    have:(A:Int)=(B:Int)*((A/B:Nat):Int):=by exact_mod_cast (by omega:A=B*(A/B))
    rw[AO,←this]
   rw[D,Int.mul_ediv_cancel_left _ ae];split<;>omega
  ·rw[aB I];have H:2≤B:=ae;have h2:=gO (A/B) H;have D: -(A:Int)=((B:Int)-((A%B:Nat):Int))+(B:Int)* -((A/B+1:Nat):Int):=by
    have h3:(A:Int)=(B:Int)*((A/B:Nat):Int)+((A%B:Nat):Int):=by exact_mod_cast hd.symm
    rw[AO,show((A/B+1:Nat):Int)=((A/B:Nat):Int)+1 from rfl,JJ,Int.mul_one];omega
   rw[D,vB _ _ ae,sG ae ae];split<;>omega
 ·simp only[h,Nd];obtain⟨A,rfl⟩:∃A:Nat,a=(A:Int):=⟨a.toNat,ae⟩
  simp only[Int.natAbs_natCast];have G:(!(false==false))=false:=rfl;rw[G];simp only[ig,false_and,cS,ic];have F:A/B≤A:=ka _ _;rw[aA ae];rfl
def xb (f n m i:Int):Prop:=0≤f∧f<3∧1≤n∧n≤65536∧1≤m∧m≤65536∧0≤i∧i<m
instance (f n m i:Int):Decidable (xb f n m i):=by unfold xb;infer_instance
def PY (a b:Int):Int:= -(-a/b)
def dh (f:Int):Int:=if f=0 then 0 else if f=1 then 2 else 3
def rJ (f n m i:Int):Int:=if f=0 then i*n/m else((2*i+1)*n-m-dh f*2*max n m)/(2*m)+1
def oS (f n m i:Int):Int:=if f=0 then PY ((i+1)*n) m else PY ((2*i+1)*n-m+dh f*2*max n m) (2*m)
def Ym (p q:Int):Int:=if p≥q then 4*(q*q*q)+5*(p*p*q)-p*p*p-8*(p*q*q)else 3*(p*p*p)-5*(p*p*q)+2*(q*q*q)
def Kh (p q:Int):Int:=if q<1∨262144<q∨2*q≤p∨p≤ -2*q then 0 else df (IntKind.i64.wrap (Ym (max p (-p)) q)) 1073741824 (IntKind.i64.wrap (2*(q*q*q)))
theorem zaX (p q:Int):I64 (Kh p q):=by
 unfold Kh;split
 ·unfold I64;omega
 ·exact gL _ _ _
def As (f n m i j:Int):Int:=
 if f=0 then df (min ((i+1)*n) ((j+1)*m)-max (i*n) (j*m)) 1073741824 n
 else if f=1 then Kh (2*m*j-(2*i+1)*n+m) (2*max n m)
 else xj (2*m*j-(2*i+1)*n+m) (2*max n m)
theorem Xv (f n m i j:Int):I64 (As f n m i j):=by
 unfold As;split
 ·exact gL _ _ _
 split
 ·exact zaX _ _
 ·exact UJ _ _
def EZ (f n m i:Int):List Int:=(List.range (oS f n m i-rJ f n m i).toNat).map λk:Nat=>As f n m i (rJ f n m i+k)
theorem kz {a A b B:Int}(h0:0≤a)(h1:a≤A)(D:0≤b)(F:b≤B):0≤a*b∧a*b≤A*B:=
 ⟨mR h0 D,lV h1 F D ae⟩
theorem MU {a A b B:Int}(h0: -A≤a)(h1:a≤A)(D:0≤b)(F:b≤B): -(A*B)≤a*b∧a*b≤A*B:=by
 have G:0≤A:=ae;rcases Ey 0 a with h|h
 ·have:=kz h h1 D F;have H:0≤A*B:=mR G ae;omega
 ·have:=kz (a:= -a) (A:=A) ae ae D F;rw[Uo]at this;have H:0≤A*B:=mR G ae;omega
theorem ue {a b L U:Int}(A:1≤b)(h1: -L≤a)(D:a≤U)(hL:0≤L)(F:0≤U): -L≤a/b∧a/b≤U:=by
 constructor
 ·rw[vD ae];have: -L*b≤ -L*1:=Uv ae A;omega
 ·apply JN;rw[yv ae];have:(U+1)*1≤(U+1)*b:=sH A ae;omega
structure MayB (f n m i:Int):Prop where
 inb:0≤i*n∧i*n≤4294967296
 in1:(i+1)*n=i*n+n
 tin:(2*i+1)*n=2*(i*n)+n
 rr:dh f*2*max n m=2*(dh f*max n m)
 rb:0≤dh f*max n m∧dh f*max n m≤196608
theorem X0 {f n m i:Int}(h:xb f n m i):MayB f n m i:=by
 obtain⟨f0,f1,G,H,I,m1,F,L⟩:=h;have:=kz (a:=i) (A:=65536) (b:=n) (B:=65536) ae ae ae ae;have D:0≤dh f∧dh f≤3:=by unfold dh;split;omega;split<;>omega
 have:=kz (a:=dh f) (A:=3) (b:=max n m) (B:=65536) D.1 D.2 ae ae;exact⟨ae,by rw[jX,kZ],by rw[jX,kZ,oB],by rw[Int.mul_right_comm,gv],ae⟩
theorem Pn {f n m i:Int}(h:xb f n m i): -1048576*65536≤rJ f n m i∧rJ f n m i≤1048576*65536∧ -1048576*65536≤oS f n m i∧oS f n m i≤1048576*65536:=by
 have F:=X0 h;obtain⟨b1,I,G,A,b5⟩:=F;obtain⟨f0,f1,W,n1,m0,m1,i0,H⟩:=h;unfold rJ oS PY;split
 ·have h1:=ue (a:=i*n) (b:=m) (L:=0) (U:=4294967296) ae ae ae ae ae;have D:=ue (a:= -((i+1)*n)) (b:=m) (L:=4295032832) (U:=0) ae ae ae ae ae;omega
 ·rw[G,A];have h1:=ue (a:=2*(i*n)+n-m-2*(dh f*max n m)) (b:=2*m) (L:=8591000000) (U:=8591000000) ae ae ae ae ae;have D:=ue (a:= -(2*(i*n)+n-m+2*(dh f*max n m))) (b:=2*m) (L:=8591000000) (U:=8591000000) ae ae ae ae ae;omega
def New {α:Type}(e:Rp α)(h h':ai)(v:Value)(l:List α):Prop:=Rp.Ow e (λ_=>False) h' v l∧Ext h h'∧∀b,blk v b→h.size≤b
theorem New.nil {α:Type}{e:Rp α}{h h':ai}(k:Ext h h'):New e h h' (.slice none 0 0) []:=⟨Rp.Ow.nil,k,λb A=>A.elim⟩
theorem New.ext {α:Type}{e:Rp α}{h h' A:ai}{v:Value}{l:List α}(H:New e h h' v l)(k:Ext h' A):New e h A v l:=⟨H.1.ext k,H.2.1.trans k,H.2.2⟩
theorem New.before {α:Type}{e:Rp α}{h0 h h':ai}{v:Value}{l:List α}(H:New e h h' v l)(k:Ext h0 h):New e h0 h' v l:=⟨H.1,k.trans H.2.1,λb A=>bA k.1 (H.2.2 b A)⟩
theorem New.sl {α:Type}{e:Rp α}{h h':ai}{v:Value}{l:List α}(H:New e h h' v l):Rp.Sl e (blk v) h' v l:=H.1.sl.mono λb _ A=>A.elim False.elim id
theorem New.isSl {α:Type}{e:Rp α}{h h':ai}{v:Value}{l:List α}(H:New e h h' v l):∃a cap,v=.slice a l.length cap:=H.1.isSl
theorem New.push {α:Type}{e:Rp α}{z z' c:Value}{t t':TypeId}{bytes:Nat}{h h1:ai}{v:Value}{l:List α}{x:α}{K:Value→ai→Prop}(L:e.w=1)(H:New e h h1 v l)
  (W:e.R (λ_=>False) h1 [c] x) (G:z.cells.size=1) (A:(l.length+1)*bytes≤140737488355328) (U:l.length+1≤9223372036854775807)
  (HK:∀D h',New e h h' D (l++[x])→K D h'):cO #[z'] t 1 [(0,1,c)] h1 λI h3=>cR z t' 1 bytes v I h3 K:=by
 refine Rp.push_ow1 L H.1 W G A U (λb A=>A.elim) λD h' o' F n'=>HK D h' ⟨o',H.2.1.then_fr F H.2.2,λb A=>?_⟩
 rcases n' b A with h1|h1
 ·exact H.2.2 b h1
 ·exact bA H.2.1.1 h1
theorem New.push_int {k:IntKind}{z W:Value}{t I:TypeId}{bytes:Nat}{h h1:ai}{v:Value}{l:List Int}{x:Int}{K:Value→ai→Prop}(H:New (Rp.int k) h h1 v l)
  (D:z.cells.size=1) (L:(l.length+1)*bytes≤140737488355328) (G:l.length+1≤9223372036854775807)
  (HK:∀A h',New (Rp.int k) h h' A (l++[x])→K A h'):cO #[W] t 1 [(0,1,.int k x)] h1 λF U=>cR z I 1 bytes v F U K:=
 H.push rfl rfl D L G HK
theorem Rp.Sl.int_at {k:IntKind}{Z:Nat→Prop}{h:ai}{v:Value}{l:List Int}(H:Rp.Sl (Rp.int k) Z h v l){k':IntKind}{i:Nat}(hi:i<l.length):∃p,bh 1 v (.int k' (i:Int))=some p∧ldV h p=some (.int k l[i]):=by
 obtain⟨p,c,h1,D,A⟩:=H.at1 rfl (k:=k') hi;have A:[c]=[Value.int k l[i]]:=A;cases A;exact⟨p,h1,D⟩
theorem yC (k:IntKind)(i d most:Nat)(h:i≤most):bdV (some (.int k (i:Int))) d most=some i:=by
 show(if 0≤(i:Int)∧(i:Int)≤(most:Int)then some (i:Int).toNat else none)=_;rw[aB ae,dJ]
theorem SlC.part {w:Nat}{h:ai}{v:Value}{n:Nat}{cs:List Value}(H:SlC w h v n cs){lo hi:Nat}(h1:lo≤hi)(L:hi≤n){a:Option Addr}{cap:Nat}(U:v=.slice a n cap)(hc:n≤cap):
  SlC w h (.slice (if cap=lo then a else a.map (·.add (lo*w))) (hi-lo) (cap-lo)) (hi-lo) ((cs.drop (lo*w)).take ((hi-lo)*w)):=by
 subst U;obtain⟨hl,W,F,e,H⟩:=H;cases e;have hm:lo*w+(hi-lo)*w=hi*w:=by rw[←fb];congr 1;omega
 have I:hi*w≤n*w:=gO w L;refine⟨by rw[di,ib];omega,_,_,rfl,?_⟩;by_cases D:(cs.drop (lo*w)).take ((hi-lo)*w)=[]
 ·exact .inl D
 ·refine .inr ?_;rcases H with rfl|⟨b,o,rfl,H⟩
  ·exact absurd (by simp) D
  ·have A:cap≠lo:=by
    intro e;have h0:(hi-lo)*w=0:=by rw[show hi-lo=0 by omega,AR]
    exact D (by rw[h0];rfl)
   rw[aA A];refine⟨b,o+lo*w,by rw[cU,nO],λj G=>?_⟩;rw[di,ib]at G;have:=H (lo*w+j) ae;rw[←vG]at this;rw[this,vM,yA]
theorem RU {h:ai}{v:Value}{n:Nat}{cs:List Value}(w:Nat)(H:Own w h v n cs){k:IntKind}{hi:Nat}(F:hi≤n):∃D,ni w v none (some (.int k (hi:Int)))=some D∧SlC w h D hi (cs.take (hi*w))∧∀b,blk D b→blk v b:=by
 have hc:∃a cap,v=.slice a n cap∧n≤cap:=by
  rcases H with⟨rfl,rfl,_⟩|⟨b,cap,r,e,rfl,hc,_⟩
  ·exact⟨none,0,rfl,ck _⟩
  ·exact⟨_,cap,rfl,hc⟩
 obtain⟨a,cap,e,hc⟩:=hc;have:=H.sl.part (bZ hi) F e hc;subst e;refine⟨_,?_,by simpa using this,λb A=>?_⟩
 ·simp only[ni,yC k hi n cap (show hi≤cap by omega)];simp only[bdV,AR,AN]
 ·cases a with
  |none=>simp at A;exact A
  | some a=>
   split at A
   ·exact A
   ·simp only[cU]at A;have e:(a.add 0).block=a.block:=by unfold Addr.add;split<;>rfl
    rw[show b=(a.add 0).block from A,e];rfl
theorem zcK {h:ai}{v s:Value}{n m k:Nat}{cs ds:List Value}(H:Own 1 h v n cs)(hm:m<n)(L:SlC 1 h s k ds)(ho:∀x∈ds,aV x=true){kk:IntKind}:
  ∃d,ni 1 v (some (.int kk (m:Int))) none=some d∧∀K:Value→ai→Prop,(∀h',Own 1 h' v n (cs.take m++ds.take (n-m)++cs.drop (m+k))→Fr (blk v) h h'→K (af (Nat.min k (n-m):Nat)) h')→HA 1 d s h K:=by
 have I:=L.load_some (k:=Nat.min k (n-m)) (Nat.min_le_left ..);obtain⟨ad,a',aa,rfl,al⟩:=L;rcases H with⟨rfl,rfl,rfl⟩|⟨b,cap,r,e,rfl,hc,hl,hr,W⟩
 ·omega
 ·refine⟨.slice (some ⟨b,m,none⟩) (n-m) (cap-m),?_,λK HK=>?_⟩
  ·simp only[ni,yC kk m 0 cap (show m≤cap by omega)];have A:¬cap=m:=ae;have e0:bdV (some (Value.int kk (m:Int))) 0 n=some m:=yC kk m 0 n ae;simp only[bdV,e0,aA A,cU,nO,aO,lW];rw[aB ae];simp;exact λhh=>absurd hh A
  ·unfold HA;simp only[RL];rw[I];have D:ds.take (Nat.min k (n-m)*1)=ds.take (n-m):=by
    rw[lW];rcases Nl k (n-m)with h1|h1
    ·rw[show Nat.min k (n-m)=k from vF h1,fg ae,fg ae]
    ·rw[show Nat.min k (n-m)=n-m from Nat.min_eq_right h1]
   rw[D];have am:(ds.take (n-m)).length≤n-m:=by rw[di];omega
   have G:=nZ (o:=m) (ds.take (n-m)) 0 h _ W (by simp;omega) (λv hv=>ho v (AT hv));simp only[G];have F:cs++r=cs.take m++(cs.drop m++r):=by rw[←cL,mS]
   have lt:(cs.take m).length=m:=by rw[di];omega
   have U:=Ii (ds.take (n-m)) (cs.take m) (cs.drop m++r) (by rw[cF,ib];omega);rw[←F,lt]at U;rw[ic,U];refine HK _ (.inr ⟨b,cap,r,e,rfl,hc,?_,?_,?_⟩) Upd.set.fr
   ·simp only[cF,di,ib];omega
   ·simp only[cF,di,ib]at hr ⊢;omega
   ·rw[lD W]
    congr 3
    rw[cL,cL,cL]
    congr 2
    rw[di,Nj];rcases Nl k (n-m)with h1|h1
    ·rw[EF,show min (n-m) ds.length=k by omega,ib,show k-(cs.length-m)=0 by omega,Ni]
    ·rw[EF,show min (n-m) ds.length=n-m by omega,ib,show n-m-(cs.length-m)=0 by omega,Ni,oC (show cs.length≤m+(n-m)by omega),oC (show cs.length≤m+k by omega)]
theorem Rp.Sl.part {α:Type}{e:Rp α}{Z:Nat→Prop}{h:ai}{v:Value}{l:List α}(H:Rp.Sl e Z h v l){lo hi:Nat}(h1:lo≤hi)(h2:hi≤l.length){a:Option Addr}{n cap:Nat}(hv:v=.slice a n cap)(hc:n≤cap){k k':IntKind}:
  ∃W,ni e.w v (some (.int k (lo:Int))) (some (.int k' (hi:Int)))=some W∧Rp.Sl e Z h W ((l.drop lo).take (hi-lo)):=by
 obtain⟨ds,hs,hz,he⟩:=H;obtain⟨a',aa,U⟩:=hs.isSl;rw[U]at hv;cases hv;have hP:=hs.part h1 h2 U hc;subst U;have A:((l.drop lo).take (hi-lo)).length=hi-lo:=by rw[di,ib];omega
 refine⟨_,?_,(ds.drop (lo*e.w)).take ((hi-lo)*e.w),by rw[A];exact hP,λL b F=>?_,λi D=>?_⟩
 ·simp only[ni,yC k' hi _ cap (show hi≤cap by omega),yC k lo 0 hi h1]
 ·have I:ds≠[]:=λh0=>L (by rw[h0];simp)
  refine hz I b ?_;cases a with
  |none=>simp only[No,ite_self]at F;exact F
  | some a=>
   split at F
   ·exact F
   ·simp only[cU]at F;have ea:(a.add (lo*e.w)).block=a.block:=by unfold Addr.add;split<;>rfl
    rw[show b=(a.add (lo*e.w)).block from F,ea];rfl
 ·have G:lo+i<l.length:=by rw[A]at D;omega
  have:=he (lo+i) G;rw[vM,yA];have e2:Rp.el e.w ((ds.drop (lo*e.w)).take ((hi-lo)*e.w)) i=Rp.el e.w ds (lo+i):=by
   show(((ds.drop (lo*e.w)).take ((hi-lo)*e.w)).drop (i*e.w)).take e.w=(ds.drop ((lo+i)*e.w)).take e.w;have hm:i*e.w+e.w≤(hi-lo)*e.w:=by rw[←sI];exact gO _ (by rw[A]at D;exact D)
   rw[List.drop_take,EF,List.take_take,vF ae,←fb]
  rw[e2];exact this
def S (l:List UInt8):Value:=.string ⟨⟨l⟩⟩
theorem S_lit (l:List UInt8):Value.string ⟨l.toArray⟩=S l:=rfl
theorem zal:Value.string ⟨#[]⟩=S []:=rfl
theorem one_S (l:List UInt8):aV (S l)=true:=rfl
theorem Qv (a b:List UInt8):ak .s .eql (S a) (S b)=some (.bool (decide (a=b))):=by
 show some (Value.bool ((ByteArray.mk (Array.mk a)).toList==(ByteArray.mk (Array.mk b)).toList))=_;rw[Nc,Nc]
 congr 2
 by_cases h:a=b
 ·subst h;simp
 ·rw[b9 h];simpa using h
theorem Qu (a b:List UInt8):ak .s .neq (S a) (S b)=some (.bool (!decide (a=b))):=by
 show some (Value.bool (!((ByteArray.mk (Array.mk a)).toList==(ByteArray.mk (Array.mk b)).toList)))=_;rw[Nc,Nc]
 congr 3
 by_cases h:a=b
 ·subst h;simp
 ·rw[b9 h];simpa using h
theorem lenS (l:List UInt8):Ld (S l)=some (af l.length):=rfl
namespace Rp
def bs:Rp (List UInt8) where
 w:=1
 R:=λ_ _ cs n=>cs=[S n]
 len:=by rintro _ _ _ _ rfl;rfl
 one:=by rintro _ _ _ _ rfl;simp[one_S]
 fr:=λH _ _=>H
 mono:=λH _=>H
end Rp
attribute [go_sem] S_lit Qv Qu lenS
end Go.Crisp
namespace Go.Proofs.YtjljhnandbbldaaGreatDoor
open Go Go.Crisp
attribute [local irreducible] ag cO aT stK aG vK qK bL gK eM bC mkK cR HA
open _root_.Go.Proofs.Tryz
def Qx (b:Int):List UInt8:=if b=0 then[99,108,97,109,112]else if b=1 then[109,105,114,114,111,114]else if b=2 then[119,114,97,112]else[]
def WH (b:Int):List UInt8:=if b=0 then[98,111,120]else if b=1 then[99,117,98,105,99]else if b=2 then[108,97,110,99,122,111,115]else[]
theorem Kx {h:ai}(G:fC h){b:Int}:
  ag prog td #[af b] h λr h'=>r=S (Qx b)∧h'=h:=by
 apply Pc;unfold CZ;obtain⟨v,F,H⟩:=G.names;obtain⟨a,cap,rfl⟩:=H.isSl;simp only[go_sem,F];refine aq (λh1=>?_) (λh1=>?_)
 ·refine⟨?_,trivial⟩;unfold Qx;rw[aA ae,aA ae,aA ae]
 ·obtain⟨n,rfl⟩:∃n:Nat,b=(n:Int):=⟨b.toNat,ae⟩
  obtain⟨p,A,D⟩:=H.at1 (k:=.i64) (i:=n) ae;simp only[go_sem,A,D];refine⟨?_,trivial⟩;have I:n<3:=ae;have key:∀(i:Nat) (hi:i< [Value.string (kH 0),Value.string (kH 1),Value.string (kH 2)].length),[Value.string (kH 0),Value.string (kH 1),Value.string (kH 2)][i]=S (Qx (i:Int)):=λi hi=>by
   match i,hi with
   |0,_=>rfl
   |1,_=>rfl
   |2,_=>rfl
  exact key n _
theorem SH {h:ai}(G:fC h){b:Int}:
  ag prog Bn #[af b] h λr h'=>r=S (WH b)∧h'=h:=by
 apply VV;unfold LP;simp only[go_sem];refine aq (λh1=>?_) (λh1=>?_)
 ·refine⟨?_,trivial⟩;unfold WH;rw[aA ae,aA ae,aA ae]
 ·obtain⟨n,rfl⟩:∃n:Nat,b=(n:Int):=⟨b.toNat,ae⟩
  have A:n<3:=ae;have D:=(G.kinds n A).1;have e:PF 3 2 (.pointer (some ⟨gh,0,none⟩)) (af (n:Int))=some (.pointer (some ⟨gh,2*n,none⟩)):=by
   show(if 0≤(n:Int)∧(n:Int)<((3:Nat):Int)then some (Value.pointer (some ((⟨gh,0,none⟩:Addr).add ((n:Int).toNat*2))))else none)=_;rw[aB ae,nO,dJ,aO,fG]
  simp only[go_sem,e,ic,D];refine⟨?_,trivial⟩
  clear h1 D e
  match n,A with
  |0,_=>rfl
  |1,_=>rfl
  |2,_=>rfl
end Go.Proofs.YtjljhnandbbldaaGreatDoor
namespace Go.Proofs.YtjljhnandbbldaaGreatDoor
open Go Go.Crisp
attribute [local irreducible] ag cO aT stK aG vK qK bL gK eM bC mkK cR HA JA Ep bsK
open _root_.Go.Proofs.Tryz
theorem zcV {h:ai}{f n m i:Int}:ag prog LB #[af f,af n,af m,af i] h λr h'=>r=.bool (decide (xb f n m i))∧h'=h:=by
 apply XT;unfold NK
 try simp only[go_sem]
 refine⟨?_,trivial⟩
 congr 1
 rw[iB];unfold xb;omega
theorem zc7 {h:ai}{a b:Int}(G: -9223372036854775807≤a∧a≤9223372036854775807)(F:0<b)(A:I64 b):ag prog Bk #[af a,af b] h λr h'=>r=af (PY a b)∧h'=h:=by
 apply VU;unfold LO
 try simp only[go_sem]
 rw[w64 ae ae,Up];have hi:I64 (-a):=by unfold I64;omega
 refine(Nx hi A).mono λH h1 ⟨D,w1⟩=>?_
 subst D w1
 try simp only[go_sem]
 rw[rO hi F];have:=ue (a:= -a) (b:=b) (L:=9223372036854775807) (U:=9223372036854775807) ae ae ae ae ae;rw[w64 ae ae,Up];exact⟨rfl,trivial⟩
theorem XI {h:ai}(G:fC h){f:Int}(f0:0≤f)(f1:f<3):∃p,PF 3 2 (.pointer (some ⟨gh,0,none⟩)) (af f)=some (.pointer (some ⟨gh,p,none⟩))∧aE h ⟨gh,p+1,none⟩=some (af (dh f)):=by
 obtain⟨n,rfl⟩:∃n:Nat,f=(n:Int):=⟨f.toNat,ae⟩
 have A:n<3:=ae;refine⟨2*n,?_,?_⟩
 ·show(if 0≤(n:Int)∧(n:Int)<((3:Nat):Int)then some (Value.pointer (some ((⟨gh,0,none⟩:Addr).add ((n:Int).toNat*2))))else none)=_;rw[aB ae,nO,dJ,aO,fG]
 ·rw[(G.kinds n A).2]
  match n,A with
  |0,_=>rfl
  |1,_=>rfl
  |2,_=>rfl
def zfd (f n m i:Int):Value:=if xb f n m i then .tuple #[.int .i64 (rJ f n m i),.int .i64 (oS f n m i-rJ f n m i)]else .tuple #[.int .i64 0,.int .i64 0]
theorem zc9 {h:ai}(G:fC h){f n m i:Int}:ag prog Bm #[af f,af n,af m,af i] h λr h'=>r=zfd f n m i∧h'=h:=by
 apply Rq;unfold FZ zfd;refine zcV.mono λH h1 ⟨D,w1⟩=>?_
 subst D w1
 try simp only[go_sem]
 refine aq (λh0=>?_) (λh0=>?_)
 ·rw[aA h0];exact⟨rfl,trivial⟩
 have I:xb f n m i:=cA h0;rw[aB I];have W:=Pn I;have hb:=X0 I;obtain⟨b1,b2,b3,b4,b5⟩:=hb;obtain⟨f0,f1,n0,n1,m0,m1,i0,i1⟩:=I;have F:I64 m:=by unfold I64;omega
 rw[w64 (n:=i*n) ae ae];refine(Nx (by unfold I64;omega) F).mono λH h1 ⟨D,w1⟩=>?_
 subst D w1;rw[rO (by unfold I64;omega) ae]
 try simp only[go_sem]
 rw[w64 (n:=i+1) ae ae,w64 (n:=(i+1)*n) ae ae];refine(zc7 ae ae F).mono λH h1 ⟨D,w1⟩=>?_
 subst D w1
 try simp only[go_sem]
 unfold rJ oS at W ⊢;refine aq (λA=>?_) (λA=>?_)
 ·have A:f≠0:=A;rw[aA A,aA A]at*;obtain⟨p,U,L⟩:=XI G f0 f1;simp only[go_sem,U,L];have hr:0≤dh f∧dh f≤3:=by unfold dh;split;omega;split<;>omega
  rw[w64 (n:=2*i) ae ae,w64 (n:=2*i+1) ae ae,w64 (n:=(2*i+1)*n) ae ae,w64 (n:=(2*i+1)*n-m) ae ae,w64 (n:=dh f*2) ae ae,
   w64 (n:=dh f*2*max n m) ae ae,w64 (n:=(2*i+1)*n-m-dh f*2*max n m) ae ae,w64 (n:=2*m) ae ae]
  refine(Nx (by unfold I64;omega) (by unfold I64;omega)).mono λH h1 ⟨D,w1⟩=>?_
  subst D w1;rw[rO (by unfold I64;omega) ae]
  try simp only[go_sem]
  rw[w64 (n:=((2*i+1)*n-m-dh f*2*max n m)/(2*m)+1) ae ae,w64 (n:=(2*i+1)*n-m+dh f*2*max n m) ae ae];refine(zc7 ae ae (by unfold I64;omega)).mono λH h1 ⟨D,w1⟩=>?_
  subst D w1
  try simp only[go_sem]
  rw[w64 ae ae];exact⟨rfl,trivial⟩
 ·have A:f=0:=cA A;rw[aB A,aB A]at*;rw[w64 ae ae];exact⟨rfl,trivial⟩
theorem YI {h:ai}{p q:Int}(H: -4611686018427387904≤p∧p≤4611686018427387904)(hq:I64 q):ag prog xF #[af p,af q] h λr h'=>r=af (Kh p q)∧h'=h:=by
 apply VW;unfold LQ
 try simp only[go_sem]
 unfold Kh;have D:(((q<1∨262144<q)∨IntKind.i64.wrap (2*q)≤p)∨p≤IntKind.i64.wrap (-2*q))↔(q<1∨262144<q∨2*q≤p∨p≤ -2*q):=by
  unfold I64 at hq;by_cases hc:q<1∨262144<q
  ·omega
  ·rw[w64 (n:=2*q) ae ae,w64 (n:= -2*q) ae ae];omega
 refine aq (λh0=>?_) (λh0=>?_)
 ·rw[aB (D.1 h0)];exact⟨rfl,trivial⟩
 rw[aA λhh=>h0 (D.2 hh)];have F:IntKind.i64.wrap (0-p)= -p:=by rw[w64 ae ae];omega
 rw[F];generalize max p (-p)=a;simp only[Ao,GB,wB,rA,An,GA];have G:2*q*q*q=2*(q*q*q):=by grind
 rw[G];unfold Ym;refine aq (λh1=>?_) (λh1=>?_)
 ·rw[aB h1];have A:(0-a)*a*a+5*a*a*q-8*a*q*q+4*q*q*q=4*(q*q*q)+5*(a*a*q)-a*a*a-8*(a*q*q):=by grind
  rw[A];exact pY (kL _) (by unfold I64;omega) (kL _)
 ·rw[aA h1];have A:3*a*a*a-5*a*a*q+2*(q*q*q)=3*(a*a*a)-5*(a*a*q)+2*(q*q*q):=by grind
  rw[A];exact pY (kL _) (by unfold I64;omega) (kL _)
theorem zen {h:ai}{f n m i j:Int}(G:xb f n m i)(hj: -1048576*65536≤j∧j≤1048576*65536):ag prog Eb #[af f,af n,af m,af i,af j] h λr h'=>r=af (As f n m i j)∧h'=h:=by
 apply TH;unfold II
 try simp only[go_sem]
 have U:=X0 G;obtain⟨b1,b2,b3,b4,b5⟩:=U;obtain⟨f0,f1,n0,n1,m0,m1,i0,W⟩:=G;unfold As;have H:=MU (a:=j) (A:=1048576*65536) (b:=m) (B:=65536) ae ae ae ae;have L:(j+1)*m=j*m+m:=by rw[jX,kZ]
 have I:2*m*j=2*(j*m):=by rw[oB,gv m j]
 refine aq (λF=>?_) (λF=>?_)
 ·rw[aB F];rw[w64 (n:=i+1) ae ae,w64 (n:=(i+1)*n) ae ae,w64 (n:=j+1) ae ae,w64 (n:=(j+1)*m) ae ae,w64 (n:=i*n) ae ae,w64 (n:=j*m) ae ae,w64 ae ae];exact pY (by unfold I64;omega) (by unfold I64;omega) (by unfold I64;omega)
 rw[aA F,w64 (n:=2*m) ae ae,w64 (n:=2*m*j) ae ae,w64 (n:=2*i) ae ae,w64 (n:=2*i+1) ae ae,w64 (n:=(2*i+1)*n) ae ae,
  w64 (n:=2*m*j-(2*i+1)*n) ae ae,w64 (n:=2*m*j-(2*i+1)*n+m) ae ae,w64 (n:=2*max n m) ae ae]
 refine aq (λD=>?_) (λD=>?_)
 ·rw[aB D];exact YI ae (by unfold I64;omega)
 ·rw[aA D];exact zbv (by unfold I64;omega) (by unfold I64;omega)
def fI (f n m i:Int):Int:=if xb f n m i then rJ f n m i else 0
def dp (f n m i:Int):List Int:=if xb f n m i then EZ f n m i else[]
theorem pu {β:Type}(g:Nat→β)(n k:Nat)(h:k<n):((List.range n).map g).take (k+1)=((List.range n).map g).take k++[g k]:=by
 rw[jE (by simpa using h)];simp
theorem WV {h:ai}(G:fC h){f n m i:Int}:ag prog EV #[af f,af n,af m,af i] h λr h'=>
  ∃v,r=.tuple #[af (fI f n m i),v]∧New (Rp.int .i64) h h' v (dp f n m i):=by
 apply XU;unfold NL;refine(zc9 G).mono λv1 h1 ⟨U,w1⟩=>?_
 subst U w1;unfold fI dp zfd;by_cases A:xb f n m i
 ·rw[aB A,aB A,aB A]
  try simp only[go_sem]
  have aa:=Pn A;obtain⟨N,L⟩:∃N,N=(oS f n m i-rJ f n m i).toNat:=⟨_,rfl⟩
  refine bO N 0 (λk v=>[v,af (k:Int)]) (λk v h'=>New (Rp.int .i64) h1 h' v ((EZ f n m i).take k)) (.slice none 0 0) rfl (bZ _) (New.nil (Ext.refl _)) λk v h2 again ρj _ W F H=>?_
  try simp only[go_sem]
  have hl:(EZ f n m i).length=N:=by unfold EZ;rw[da,fF,L]
  refine aq (λh0=>?_) (λh0=>?_)
  ·rw[w64 (n:=rJ f n m i+(k:Int)) ae ae];refine(zen A ae).mono λv2 h3 ⟨e2,w2⟩=>?_
   subst e2 w2;have D:((EZ f n m i).take k).length=k:=by rw[di];omega
   refine F.push_int rfl (by rw[D];omega) (by rw[D];omega) λs' h' I=>?_
   try simp only[go_sem]
   rw[w64 ae ae];have:=H s' h' ae (by
    have e:=pu (λk:Nat=>As f n m i (rJ f n m i+k)) (oS f n m i-rJ f n m i).toNat k ae;unfold EZ at I ⊢;rw[e];exact I)
   exact this
  ·rw[fg ae]at F;exact⟨v,rfl,F⟩
 ·rw[aA A,aA A,aA A]
  try simp only[go_sem]
  refine kB (λk=>[.slice none 0 0,af (k:Int)]) 0 0 rfl (ck _) λk again ρj _ W _=>?_
  have:k=0:=ae;subst this
  try simp only[go_sem]
  refine aq (λh0=>absurd h0 ae) (λh0=>?_);exact⟨_,rfl,New.nil (Ext.refl _)⟩
end Go.Proofs.YtjljhnandbbldaaGreatDoor
namespace Go.Crisp
def dI (r:Nat→Int)(i j:Nat):Prop:=r j<r i∨(r i=r j∧i<j)
instance (r:Nat→Int)(i j:Nat):Decidable (dI r i j):=by unfold dI;exact inferInstance
theorem L7 (r:Nat→Int)(i:Nat):¬dI r i i:=by unfold dI;omega
theorem lZ {r:Nat→Int}{i j k:Nat}(h1:dI r i j)(A:dI r j k):dI r i k:=by unfold dI at*;omega
theorem l9 (r:Nat→Int){i j:Nat}(h:i≠j):dI r i j∨dI r j i:=by unfold dI;omega
theorem Pr {r:Nat→Int}{i j:Nat}(h1:dI r i j):¬dI r j i:=by unfold dI at*;omega
def mN (r:Nat→Int)(n i:Nat):Nat:=(List.range n).countP λj=>decide (dI r j i)
theorem Yp {l:List Nat}{p:Nat→Bool}(h:∀x∈l,p x=true):l.countP p=l.length:=by
 rw[List.countP_eq_length];exact h
theorem WP {l:List Nat}{p:Nat→Bool}(h:∀x∈l,p x=false):l.countP p=0:=by
 rw[List.countP_eq_zero];intro x A;rw[h x A];simp
theorem LX {r:Nat→Int}{n:Nat}{l:List Nat}(G:l.Perm (List.range n))(F:l.Pairwise (dI r)){k:Nat}(D:k<l.length):mN r n l[k]=k:=by
 unfold mN;rw[←G.countP_eq];have A:∀(x:Nat),x=l[k]→((l.take k).countP λj=>decide (dI r j x))+((l.drop k).countP λj=>decide (dI r j x))=k:=by
  rintro x rfl;have h1:((l.take k).countP λj=>decide (dI r j l[k]))=(l.take k).length:=Yp λx A=>by
   obtain⟨i,hi,rfl⟩:=pQ.1 A;rw[vM];rw[di]at hi;exact cH (vA.1 F i k ae D ae)
  have H:((l.drop k).countP λj=>decide (dI r j l[k]))=0:=WP λx A=>by
   obtain⟨i,hi,rfl⟩:=pQ.1 A;rw[yA];rw[ib]at hi;rcases Dt i with h0|h0
   ·subst h0;exact b9 (L7 _ _)
   ·exact b9 (Pr (vA.1 F k (k+i) D ae ae))
  rw[h1,H,di];omega
 have e:∀p:Nat→Bool,l.countP p=(l.take k).countP p+(l.drop k).countP p:=λp=>by rw[←Un,mS]
 rw[e];exact A _ rfl
theorem Ti {r:Nat→Int}{n i j:Nat}(hi:i<n)(h:dI r i j):mN r n i<mN r n j:=by
 unfold mN;have A:∀l:List Nat,(l.countP λk=>decide (dI r k i))≤l.countP λk=>decide (dI r k j):=λl=>
  List.countP_mono_left λx _ F=>cH (lZ (AU F) h)
 obtain⟨a,b,D⟩:=List.append_of_mem (uA.2 hi);rw[D,Un,Un,List.countP_cons,List.countP_cons];have h1:=A a;have G:=A b;rw[aA (by simpa using L7 r i),aB (cH h)];omega
theorem Jh {r:Nat→Int}{n i j:Nat}(hi:i<n)(D:j<n)(h:mN r n i=mN r n j):i=j:=by
 by_cases A:i=j
 ·exact A
 ·rcases l9 r A with h1|h1
  ·have:=Ti hi h1;omega
  ·have:=Ti D h1;omega
theorem UI {r:Nat→Int}{n i j:Nat}(hi:i<n)(D:j<n)(h:mN r n i<mN r n j):dI r i j:=by
 have A:i≠j:=λe=>by rw[e]at h;omega
 rcases l9 r A with h1|h1
 ·exact h1
 ·have:=Ti D h1;omega
theorem zaD (r:Nat→Int)(n:Nat):∀k,k<n→∃i,i<n∧mN r n i=k:=by
 let le:Nat→Nat→Bool:=λi j=>decide (dI r i j)||decide (i=j)
 have U:∀a b c:Nat,le a b=true→le b c=true→le a c=true:=λa b c h1 A=>by
  simp only[le,sK,dH]at*;rcases h1 with h1|rfl
  ·rcases A with A|rfl
   ·exact .inl (lZ h1 A)
   ·exact .inl h1
  ·exact A
 have D:∀a b:Nat,(le a b||le b a)=true:=λa b=>by
  simp only[le,sK,dH];by_cases I:a=b
  ·exact .inl (.inr I)
  ·rcases l9 r I with h|h
   ·exact .inl (.inl h)
   ·exact .inr (.inl h)
 let l:=(List.range n).mergeSort le
 have F:l.Perm (List.range n):=List.mergeSort_perm _ _;have L:l.Pairwise (λa b=>le a b=true):=List.pairwise_mergeSort (le:=le) U D _;have H:l.Nodup:=F.nodup_iff.2 List.nodup_range;have G:l.Pairwise (dI r):=by
  unfold List.Nodup at H;refine(L.and H).imp λ{a b} ⟨h1,A⟩=>?_
  simp only[le,sK,dH]at h1;rcases h1 with h1|h1
  ·exact h1
  ·exact absurd h1 A
 intro k W;have hl:l.length=n:=by rw[F.length_eq];simp
 refine⟨l[k]'ae,?_,LX F G _⟩;have:=F.mem_iff.1 (cQ (l:=l) (n:=k) ae);simpa using this
def ku (r:Nat→Int)(n k:Nat)(i:Nat):Int:=if mN r n i<k then-1 else r i
theorem VF (r:Nat→Int)(n:Nat):ku r n 0=r:=by funext i;unfold ku;rw[aA ae]
theorem zbB {r:Nat→Int}{n k:Nat}(W:∀i,i<n→0≤r i)(hk:k<n){b:Nat}(I:b<n)
  (h1:∀i,i<n→ku r n k i≤ku r n k b) (h2:∀i,i<b→ku r n k i<ku r n k b):mN r n b=k:=by
 obtain⟨m,G,F⟩:=zaD r n k hk;have pm:ku r n k m=r m:=by unfold ku;rw[aA ae]
 have U:=W m G;have A:=h1 m G;rw[pm]at A;have H:ku r n k b=r b∧¬mN r n b<k:=by
  unfold ku at A ⊢;split at A
  ·omega
  ·rename_i h;rw[aA h];exact⟨rfl,h⟩
 rw[H.1]at A;by_cases L:b=m
 ·rw[L];exact F
 ·have aa:mN r n b≠k:=λe=>L (Jh I G (e.trans F.symm))
  have D:dI r m b:=UI G I (by have:=H.2;omega);unfold dI at D;rcases D with D|⟨e,D⟩
  ·omega
  ·have:=h2 m D;rw[pm,H.1]at this;omega
theorem VG {r:Nat→Int}{n k b:Nat}(F:b<n)(D:mN r n b=k){i:Nat}(hi:i<n):ku r n (k+1) i=if i=b then-1 else ku r n k i:=by
 unfold ku;by_cases A:i=b
 ·subst A;rw[aB ae,aB rfl]
 ·have:mN r n i≠k:=λe=>A (Jh hi F (e.trans D.symm))
  rw[aA A];by_cases h:mN r n i<k
  ·rw[aB h,aB ae]
  ·rw[aA h,aA ae]
end Go.Crisp
namespace Go.Crisp
open Go
def nW (l:List Int):Int:=l.foldl Fq 0
def oN (x:Int):Int:=max x (zdW x (-1))
def oe (l:List Int):Int:=l.foldl (λs x=>Fq s (oN x)) 0
theorem Im {x:Int}(h:I64 x):oN x=min (x.natAbs:Int) 9223372036854775807:=by
 unfold oN zdW ko lH;unfold I64 at h;have e:(-1:Int).natAbs=1:=rfl;rw[e,lW];have D:decide ((-1:Int)<0)=true:=rfl;rw[D];by_cases A:x<0
 ·rw[cH A];have:(!(true==true))=false:=rfl;rw[this];simp only[ig,cS];split<;>omega
 ·rw[b9 A];have:(!(false==true))=true:=rfl;rw[this];simp only[cV];split<;>omega
theorem rN {f:Int→Int→Int}(A:∀a b,I64 (f a b)):∀(l:List Int) (s:Int),I64 s→I64 (l.foldl f s)
 | [],s,h=>h
 |x::l,s,_=>rN A l _ (A _ _)
theorem Al:I64 0:=by unfold I64;omega
theorem Vj (l:List Int):I64 (nW l):=rN Ak l 0 Al
theorem NH (l:List Int):I64 (oe l):=rN (λa b=>Ak a (oN b)) l 0 Al
theorem RV {x:Int}(h:I64 x):I64 (oN x):=by rw[Im h];unfold I64;omega
def HZ (l:List Int):Prop:=l.length=0∨1048576<l.length∨∃x∈l,1099511627776<oN x
instance (l:List Int):Decidable (HZ l):=by unfold HZ;infer_instance
def dj (l:List Int):Int:=if HZ l then 7 else if nW l<268435456 then 8 else 0
def gW (l:List Int)(i:Nat):Int:=l.getD i 0*16384/nW l
def eK (l:List Int)(i:Nat):Int:=l.getD i 0*16384%nW l
def xi (l:List Int):Nat→Int
 |0=>16384
 |k+1=>xi l k-gW l k
def Ae (l:List Int):Int:=xi l l.length
def nV (l:List Int):List Int:=(List.range l.length).map λi=>gW l i+(if(mN (eK l) l.length i:Int)<Ae l then 1 else 0)
def cC (l:List Int):List Int:=if dj l=0 then nV l else[]
structure DT (l:List Int):Prop where
 pos:0<l.length
 len:l.length≤1048576
 small:∀i, -1099511627776≤l.getD i 0∧l.getD i 0≤1099511627776
 sum:268435456≤nW l
theorem Me {l:List Int}:dj l=0↔ ¬HZ l∧268435456≤nW l:=by
 unfold dj;split
 ·rename_i h;simp[h]
 ·rename_i h;split
  ·rename_i A;simp[h];omega
  ·rename_i A;simp[h];omega
theorem zco {l:List Int}(D:∀x∈l,I64 x)(h:dj l=0):DT l:=by
 obtain⟨h1,G⟩:=Me.1 h;unfold HZ at h1;refine⟨ae,ae,λi=>?_,G⟩;by_cases hi:i<l.length
 ·have e:l.getD i 0=l[i]:=by simp[dr,hi]
  rw[e];have F:=cQ hi;have A:¬1099511627776<oN l[i]:=λA=>h1 (.inr (.inr ⟨_,F,A⟩))
  rw[Im (D _ F)]at A;omega
 ·have e:l.getD i 0=0:=by simp[dr,JV hi]
  rw[e];omega
def Mu (l:List Int):Nat→Int
 |0=>0
 |k+1=>Mu l k+l.getD k 0
theorem Tk {l:List Int}(G:DT l):∀k:Nat, -(k*1099511627776:Int)≤Mu l k∧Mu l k≤k*1099511627776
 |0=>by simp[Mu]
 |k+1=>by
  have:=Tk G k;have A:=G.small k;simp only[Mu];omega
theorem Vf {l:List Int}(G:DT l):∀k,k≤l.length→nW (l.take k)=Mu l k
 |0,_=>by simp[nW,Mu]
 |k+1,h=>by
  have A:=Vf G k ae;have F:=Tk G k;have D:=G.small k;have e:l.getD k 0=l[k]:=by simp[dr,show k<l.length by omega]
  have:=G.len;unfold nW at*;rw[jE ae,AM,A];simp only[yw,List.foldl_nil,Mu];unfold Fq;rw[←e];omega
theorem RS {l:List Int}(G:DT l):nW l=Mu l l.length:=by
 have:=Vf G l.length (ck _)
 rwa [fg (ck _)]at this
def Tg (l:List Int):Nat→Int
 |0=>0
 |k+1=>Tg l k+eK l k
theorem Of {l:List Int}(G:DT l)(i:Nat):0≤eK l i∧eK l i<nW l:=by
 have:=G.sum;exact⟨kD _ ae,iP _ ae⟩
theorem Aj {l:List Int}(G:DT l)(i:Nat): -67108864≤gW l i∧gW l i≤67108864:=by
 have h1:=G.sum;have A:=G.small i;unfold gW;constructor
 ·rw[vD ae];omega
 ·apply JN;rw[yv ae];omega
theorem Pq {l:List Int}(G:DT l):∀k:Nat,16384-(k*67108864:Int)≤xi l k∧xi l k≤16384+k*67108864
 |0=>by simp[xi]
 |k+1=>by
  have:=Pq G k;have A:=Aj G k;simp only[xi];omega
theorem Y5 {l:List Int}(G:DT l):∀k:Nat,0≤Tg l k∧Tg l k+k≤k*nW l
 |0=>by simp[Tg]
 |k+1=>by
  have:=Y5 G k;have A:=Of G k;simp only[Tg];rw[show((k+1:Nat):Int)=(k:Int)+1 from rfl,jX,kZ];omega
theorem Wp {l:List Int}(G:DT l):∀k,xi l k*nW l+Mu l k*16384=16384*nW l+Tg l k
 |0=>by simp[xi,Mu,Tg]
 |k+1=>by
  have A:=Wp G k;have hd:nW l*gW l k+eK l k=l.getD k 0*16384:=xd _ _;simp only[xi,Mu,Tg];rw[Um,jX,gv (gW l k)];omega
theorem left_bd {l:List Int}(G:DT l):0≤Ae l∧Ae l<l.length:=by
 have h:=Wp G l.length;rw[←RS G]at h;have D:=Y5 G l.length;have F:=G.sum;have A:=G.pos;have e:Ae l*nW l=Tg l l.length:=by unfold Ae;omega
 constructor
 ·rcases oA (Ae l) 0 with h1|h1
  ·have:Ae l*nW l≤(-1)*nW l:=uu ae ae;omega
  ·exact h1
 ·rcases oA (Ae l) l.length with h1|h1
  ·exact h1
  ·have:(l.length:Int)*nW l≤Ae l*nW l:=uu h1 ae;omega
theorem rD (l:List Int):(nV l).length=l.length:=by simp[nV]
theorem zas {l:List Int}(G:DT l):∀x∈nV l, -67108864≤x∧x≤67108865:=by
 intro x A;unfold nV at A;obtain⟨i,_,rfl⟩:=gQ.1 A;have:=Aj G i;split<;>omega
theorem Gm {β:Type}(g:Nat→β)(n i:Nat)(x:β)(h:i<n):((List.range n).map g).set i x=(List.range n).map λj=>if j=i then x else g j:=by
 apply pU
 ·simp
 ·intro k h1 D;simp at h1 D;rw[AL];simp;by_cases A:i=k
  ·subst A;simp
  ·rw[aA A,aA (ie A)]
theorem ch {β:Type}{g f:Nat→β}{n:Nat}(h:∀i,i<n→g i=f i):(List.range n).map g=(List.range n).map f:=by
 apply EL;intro i hi;exact h i (uA.1 hi)
end Go.Crisp
namespace Go.Proofs.YtjljhnandbbldaaGreatDoor
open Go Go.Crisp
attribute [local irreducible] ag cO aT stK aG vK qK bL gK eM bC mkK cR HA JA Ep bsK clK
open _root_.Go.Proofs.Tryz
abbrev SlI (Z:Nat→Prop)(h:ai)(v:Value)(l:List Int):Prop:=Rp.Sl (Rp.int .i64) Z h v l
theorem Ei {f:Int→Int→Int}{l:List Int}{i:Nat}(h:i<l.length)(s:Int):(l.take (i+1)).foldl f s=f ((l.take i).foldl f s) l[i]:=by
 rw[jE h,AM];rfl
theorem PZ {h:ai}{x:Int}(D:I64 x):ag prog yD #[af x] h λr h'=>r=af (oN x)∧h'=h:=by
 apply Tp;unfold Ip;refine(YF D (by unfold I64;omega)).mono λF h1 ⟨A,w1⟩=>?_
 subst A w1;simp only[go_sem];exact⟨rfl,trivial⟩
theorem SG {Z:Nat→Prop}{h:ai}{v:Value}{l:List Int}(H:SlI Z h v l)(D:∀x∈l,I64 x)(hl:l.length<4611686018427387904):ag prog Ba #[v] h λr h'=>r=af (nW l)∧h'=h:=by
 apply VM;unfold LG;obtain⟨a,cap,e⟩:=H.isSl;have U:aD v=some (af (l.length:Int)):=by rw[e];rfl
 rw[U,ah];refine kB (λi=>[af ((l.take i).foldl Fq 0),af (i:Int)]) l.length 0 rfl (bZ _) λi again ρj _ hi F=>?_
 simp only[go_sem];refine aq (λh0=>?_) (λh0=>?_)
 ·have A:i<l.length:=ae;obtain⟨p,I,G⟩:=H.int_at (k':=.i64) A;simp only[go_sem,I,G];refine(Qi (rN Ak _ _ Al) (D _ (cQ _))).mono λW h1 ⟨L,w1⟩=>?_
  subst L w1;rw[w64 ae ae];have:=F A;rw[Ei A]at this;exact this
 ·rw[fg ae];exact⟨rfl,trivial⟩
theorem Mh {Z:Nat→Prop}{h:ai}{v:Value}{l:List Int}(H:SlI Z h v l)(F:∀x∈l,I64 x)(hl:l.length<4611686018427387904):ag prog yE #[v] h λr h'=>r=af (oe l)∧h'=h:=by
 apply Tr;unfold Ir;obtain⟨a,cap,e⟩:=H.isSl;have e2:aD v=some (af (l.length:Int)):=by rw[e];rfl
 rw[e2,ah];refine kB (λi=>[af ((l.take i).foldl (λs x=>Fq s (oN x)) 0),af (i:Int)]) l.length 0 rfl (bZ _) λi again ρj _ hi G=>?_
 simp only[go_sem];refine aq (λh0=>?_) (λh0=>?_)
 ·have A:i<l.length:=ae;obtain⟨p,W,L⟩:=H.int_at (k':=.i64) A;simp only[go_sem,W,L];have I:=F _ (cQ A);refine(PZ I).mono λU h1 ⟨D,w1⟩=>?_
  subst D w1;refine(Qi (rN (λa b=>Ak a (oN b)) _ _ Al) (RV I)).mono λU h1 ⟨D,w1⟩=>?_
  subst D w1
  try simp only[go_sem]
  rw[w64 ae ae];have:=G A;rw[Ei A]at this;exact this
 ·rw[fg ae];exact⟨rfl,trivial⟩
theorem zc6 {h:ai}{x:Int}(D:I64 x):ag prog nQ #[af x] h λr h'=>r=.bool (decide (1099511627776<oN x))∧h'=h:=by
 apply KU;unfold zJ;refine(PZ D).mono λF h1 ⟨A,w1⟩=>?_
 subst A w1;simp only[go_sem];exact⟨by simp,by simp⟩
section
attribute [local semireducible] clK
theorem clK_0 {f:FuncId}{a:Value}{h:ai}{K:Value→ai→Prop}:clK prog (.func (.func f) #[] #[]) #[a] h K=ag prog f #[a] h K:=rfl
theorem clK_2 {f:FuncId}{a b c:Value}{h:ai}{K:Value→ai→Prop}:clK prog (.func (.func f) #[] #[c]) #[a,b] h K=ag prog f #[a,b,c] h K:=rfl
end
theorem UW {Z:Nat→Prop}{h:ai}{v:Value}{l:List Int}(H:SlI Z h v l)(I:∀x∈l,I64 x)(hl:l.length<4611686018427387904):
  ag prog eG #[v,.func (.func nQ) #[] #[]] h λr h'=>r=.bool (decide (∃x∈l,1099511627776<oN x))∧h'=h:=by
 apply mB;unfold gU;refine ag.mono (K:=λr h'=>(∃n:Int,r=af n∧(0≤n↔ ∃x∈l,1099511627776<oN x))∧h'=h) ?_ ?_
 ·apply oh;unfold iK;obtain⟨a,cap,e⟩:=H.isSl;have e2:aD v=some (af (l.length:Int)):=by rw[e];rfl
  rw[e2,ah];refine bO l.length 0 (λi (_:Unit)=>[af (i:Int)]) (λi _ h'=>h'=h∧∀x∈l.take i,¬1099511627776<oN x) () rfl (bZ _) ⟨rfl,by simp⟩ λi _ h1 again ρj _ hi ⟨hh,G⟩ L=>?_
  subst hh;simp only[go_sem];refine aq (λh0=>?_) (λh0=>?_)
  ·have A:i<l.length:=ae;obtain⟨p,W,U⟩:=H.int_at (k':=.i64) A;simp only[go_sem,W,U];rw[clK_0];refine(zc6 (I _ (cQ A))).mono λv1 h2 ⟨e1,w1⟩=>?_
   subst e1 w1;refine aq (λF=>?_) (λF=>?_)
   ·exact⟨⟨i,rfl,λ_=>⟨_,cQ A,F⟩,λ_=>ae⟩,rfl⟩
   ·rw[w64 ae ae];refine L () _ A ⟨rfl,λx D=>?_⟩;rw[jE A]at D;rcases gP.1 D with D|D
    ·exact G x D
    ·rw[ia.1 D];exact F
  ·rw[fg ae]at G;exact⟨⟨-1,rfl,λh=>ae,λ⟨x,D,F⟩=>absurd F (G x D)⟩,by first|rfl|trivial⟩
 ·rintro r h' ⟨⟨n,rfl,hn⟩,rfl⟩;simp only[go_sem];refine⟨?_,trivial⟩
  congr 1
  rw[iB];exact hn
theorem WR {Z:Nat→Prop}{h:ai}{v:Value}{l:List Int}(H:SlI Z h v l)(F:∀x∈l,I64 x)(W:l.length<4611686018427387904):ag prog A9 #[v] h λr h'=>r=af (dj l)∧h'=h:=by
 apply QP;unfold Fw;obtain⟨a,cap,e⟩:=H.isSl;have e2:aD v=some (af (l.length:Int)):=by rw[e];rfl
 simp only[go_sem,e2];unfold dj;refine gK_f (λA=>?_) (λA=>?_)
 ·have A:=of_decide_eq_false A;have e3:decide ((l.length:Int)=0∨1048576<(l.length:Int))=false:=b9 A;simp only[go_sem,e3];refine(UW H F W).mono λv1 h1 ⟨I,w1⟩=>?_
  subst I w1;simp only[go_sem];refine aq (λh0=>?_) (λh0=>?_)
  ·have G:HZ l:=.inr (.inr h0);rw[aB G];exact⟨by simp,by simp⟩
  ·have G:¬HZ l:=by unfold HZ;rintro(D|D|D);omega;omega;exact h0 D
   rw[aA G];refine(SG H F W).mono λv1 h1 ⟨I,w1⟩=>?_
   subst I w1;simp only[go_sem];refine aq (λU=>?_) (λU=>?_)
   ·rw[aB U];exact⟨by simp,by simp⟩
   ·rw[aA U];exact⟨by simp,by simp⟩
 ·have L:=AU A;have G:HZ l:=by unfold HZ;rcases L with D|D;exact .inl ae;exact .inr (.inl ae)
  simp only[go_sem,A];rw[aB G];exact⟨by simp,by simp⟩
def kq (l:List Int):Prop:=l.length%2=0∨1024<l.length∨oe l<1∨1048576<oe l
instance (l:List Int):Decidable (kq l):=by unfold kq;infer_instance
def Ci (l:List Int):Int:=if kq l then 7 else 0
def te (l:List Int):List Int:=if kq l then[]else l.map λx=>df x 1073741824 (oe l)
theorem Gu {α β:Type}(g:α→β)(l:List α){k:Nat}(h:k<l.length):(l.map g).take (k+1)=(l.map g).take k++[g l[k]]:=by
 rw[jE (by simpa using h)];simp
theorem HG {Z:Nat→Prop}{h:ai}{v:Value}{l:List Int}(H:SlI Z h v l)(F:∀x∈l,I64 x)(hl:l.length<4611686018427387904):
  ag prog ul #[v] h λr h'=>∃u,r=.tuple #[u,af (Ci l)]∧New (Rp.int .i64) h h' u (te l):=by
 apply Tq;unfold Iq;refine(Mh H F hl).mono λv1 h1 ⟨e1,w1⟩=>?_
 subst e1 w1;obtain⟨a,cap,e⟩:=H.isSl;have U:aD v=some (af (l.length:Int)):=by rw[e];rfl
 simp only[go_sem,U];rw[dS _ _ _ _ ae,ah,jY ae];simp only[go_sem,U];unfold Ci te;have hs:=NH l;refine aq (λh0=>?_) (λh0=>?_)
 ·have:kq l:=by unfold kq;omega
  rw[aB this,aB this];exact⟨_,rfl,New.nil (Ext.refl _)⟩
 ·have I:¬kq l:=by unfold kq;omega
  rw[aA I,aA I];refine bO l.length 0 (λk u=>[u,af (k:Int)]) (λk u h'=>New (Rp.int .i64) h1 h' u ((l.map λx=>df x 1073741824 (oe l)).take k)) (.slice none 0 0) rfl (bZ _) (New.nil (Ext.refl _)) λk u h2 again ρj _ hk G L=>?_
  simp only[go_sem];refine aq (λh0=>?_) (λh0=>?_)
  ·have D:k<l.length:=ae;obtain⟨p,e3,W⟩:=(H.ext G.2.1).int_at (k':=.i64) D;simp only[go_sem,e3,W];refine(pY (F _ (cQ _)) (by unfold I64;omega) hs).mono λv2 h3 ⟨e5,w5⟩=>?_
   subst e5 w5;have A:((l.map λx=>df x 1073741824 (oe l)).take k).length=k:=by rw[di,da];omega
   unfold kq at I;refine G.push_int rfl (by rw[A];omega) (by rw[A];omega) λs' h' H'=>?_
   try rw[dD,ah]
   rw[w64 ae ae];have:=L s' h' D (by rw[Gu _ _ D];exact H');exact this
  ·rw[fg (by rw[da];omega)]at G;exact⟨u,rfl,G⟩
theorem KG (l:List Int):∀x∈te l,I64 x:=by
 unfold te;split
 ·simp
 ·intro x A;obtain⟨y,_,rfl⟩:=gQ.1 A;exact gL _ _ _
def nC (s:Int):Prop:=s<1∨4194304<s
instance (s:Int):Decidable (nC s):=by unfold nC;infer_instance
def ir (s:Int):Int:=(3*s+65535)/65536
def Hq (s:Int):Int:=if nC s then 7 else 0
def pW (s:Int):List Int:=if nC s then[]else(List.range (2*ir s+1).toNat).map λk:Nat=>Dz ((k:Int)-ir s) s
theorem PJ (s:Int):∀x∈pW s,I64 x:=by
 unfold pW;split
 ·simp
 ·intro x A;obtain⟨y,_,rfl⟩:=gQ.1 A;exact Yd _ _
theorem Qm {h:ai}{s:Int}(W:I64 s):ag prog nR #[af s] h λr h'=>∃u,r=.tuple #[u,af (Hq s)]∧New (Rp.int .i64) h h' u (pW s):=by
 apply KV;unfold zK;simp only[go_sem];unfold Hq pW;refine aq (λh0=>?_) (λh0=>?_)
 ·have:nC s:=h0;rw[aB this,aB this];exact⟨_,rfl,New.nil (Ext.refl _)⟩
 ·have H:¬nC s:=h0;rw[aA H,aA H];rw[w64 (n:=3*s) ae ae,w64 (n:=3*s+65536) ae ae,w64 (n:=3*s+65536-1) ae ae];have U:ak .i .shr (af (3*s+65536-1)) (.int .u64 16)=some (af (ir s)):=by
   show(if(16:Int)<0 then none else some (af ((3*s+65536-1).fdiv (2^(min (16:Int).toNat 64)))))=_;rw[aA ae,Ut _ (by decide)];unfold ir
   congr 2
   rw[show 3*s+65536-1=3*s+65535 by omega];rfl
  rw[U,ah];have hr:0≤ir s∧ir s≤193:=by unfold ir;omega
  generalize ir s=q at*;simp only[go_sem];rw[w64 (n:=0-q) ae ae];obtain⟨N,L⟩:∃N,N=(2*q+1).toNat:=⟨_,rfl⟩
  rw[←L];refine bO N 0 (λk u=>[u,af ((k:Int)-q)]) (λk u h'=>New (Rp.int .i64) h h' u (((List.range N).map λk:Nat=>Dz ((k:Int)-q) s).take k)) (.slice none 0 0) rfl (bZ _) (New.nil (Ext.refl _)) λk u h2 again ρj _ hk F G=>?_
  simp only[go_sem];refine aq (λI=>?_) (λI=>?_)
  ·have D:k<N:=ae;refine(zeN (by unfold I64;omega) W).mono λv2 I ⟨e5,w5⟩=>?_
   subst e5 w5;have A:(((List.range N).map λk:Nat=>Dz ((k:Int)-q) s).take k).length=k:=by rw[di,da,fF];omega
   refine F.push_int rfl (by rw[A];omega) (by rw[A];omega) λs' h' H'=>?_
   try rw[dD,ah]
   rw[w64 ae ae];have:=G s' h' D (by rw[pu _ _ _ D];exact H');rw[show((k+1:Nat):Int)-q=(k:Int)-q+1 by omega]at this;exact this
  ·rw[fg (by rw[da,fF];omega)]at F;exact⟨u,rfl,F⟩
end Go.Proofs.YtjljhnandbbldaaGreatDoor
namespace Go.Crisp
section
section
variable {α:Type}{lt:α→α→Prop}
theorem Ek (D:∀{a b c},lt a b→lt b c→lt a c){L:List α}(h:L.Pairwise lt){x:α}{i j:Nat}(F:i≤j)(G:j<L.length)(A:lt L[j] x):lt (L[i]'ae) x:=by
 rcases pT i j with h1|h1
 ·exact D (vA.1 h i j ae G h1) A
 ·have:i=j:=ae;subst this;exact A
theorem El (D:∀{a b c},lt a b→lt b c→lt a c){L:List α}(h:L.Pairwise lt){x:α}{i j:Nat}(F:i≤j)(G:j<L.length)(A:lt x (L[i]'ae)):lt x L[j]:=by
 rcases pT i j with h1|h1
 ·exact D A (vA.1 h i j ae G h1)
 ·have:i=j:=ae;subst this;exact A
theorem cross (F:∀{a b c},lt a b→lt b c→lt a c){L R:List α}(hL:L.Pairwise lt)(G:R.Pairwise lt){i j:Nat}(hi:i≤L.length)(U:j≤R.length)
  (h1:∀(a:0<i) (b:j<R.length),lt (L[i-1]'ae) R[j]) (I:∀(a:0<j) (b:i<L.length),lt (R[j-1]'ae) L[i]):
  ∀x∈L.take i++R.take j,∀y∈L.drop i++R.drop j,lt x y:=by
 intro x A y D;rcases gP.1 A with A|A<;>rcases gP.1 D with D|D<;>
  obtain⟨p,H,rfl⟩:=pQ.1 A<;>obtain⟨q,hq,rfl⟩:=pQ.1 D<;>
  rw[di]at H<;>rw[ib]at hq<;>rw[vM,yA]
 ·exact vA.1 hL p (i+q) ae ae ae
 ·exact Ek (lt:=lt) F (L:=L) hL (i:=p) (j:=i-1) ae ae (El (lt:=lt) F (x:=L[i-1]) (L:=R) G (i:=j) (j:=j+q) ae ae (h1 ae ae))
 ·exact Ek (lt:=lt) F (L:=R) G (i:=p) (j:=j-1) ae ae (El (lt:=lt) F (x:=R[j-1]) (L:=L) hL (i:=i) (j:=i+q) ae ae (I ae ae))
 ·exact vA.1 G p (j+q) ae ae ae
theorem zfo {L R D A:List α}{i j:Nat}(hc:∀x∈L.take i++R.take j,∀y∈L.drop i++R.drop j,lt x y)
  (F:D.Perm (L.take i++R.take j)) (G:A.Perm (L.drop i++R.drop j)) (U:D.Pairwise lt) (H:A.Pairwise lt):(D++A).Perm (L++R)∧(D++A).Pairwise lt:=by
 refine⟨?_,sF.2 ⟨U,H,λx W y I=>hc x (F.mem_iff.1 W) y (G.mem_iff.1 I)⟩⟩;refine(F.append G).trans ?_;have e:(L.take i++R.take j++(L.drop i++R.drop j)).Perm ((L.take i++L.drop i)++(R.take j++R.drop j)):=by
  rw[cL,cL];refine List.Perm.append_left _ ?_;rw[←cL,←cL];exact List.Perm.append_right _ JI
 rwa [mS,mS]at e
end
end
end Go.Crisp
namespace Go.Proofs.YtjljhnandbbldaaGreatDoor
open Go Go.Crisp
attribute [local irreducible] ag cO aT stK aG vK qK bL gK eM bC mkK cR HA JA Ep bsK clK
open _root_.Go.Proofs.Tryz
section
abbrev iv (i:Nat):Value:=.int .i64 (i:Int)
structure Mp (v f:Value)(P:ai→Prop)(r:Nat→Int)(n:Nat):Prop where
 call:∀{h:ai} {a b:Nat} {K:Value→ai→Prop},P h→a<n→b<n→(∀c:Int,(c<0↔r b<r a)→K (.int .i64 c) h)→clK prog f #[iv a,iv b] h K
 fr:∀{h h':ai},P h→Fr (blk v) h h'→P h'
structure eN (v:Value)(P:ai→Prop)(n:Nat)(h:ai)(l:List Nat):Prop where
 own:Own 1 h v l.length (l.map iv)
 ok:P h
 small:l.length<4611686018427387904
 below:∀x∈l,x<n
section
variable {v f:Value}{P:ai→Prop}{r:Nat→Int}{n:Nat}
theorem eN.at {h:ai}{l:List Nat}(H:eN v P n h l){i:Nat}(hi:i<l.length):∃p,bh 1 v (iv i)=some p∧ldV h p=some (iv l[i]):=by
 obtain⟨p,h1,A,_⟩:=H.own.at1 (k:=.i64) hi;exact⟨p,h1,by rw[A,eE]⟩
theorem eN.swap (C:Mp v f P r n){h:ai}{A B D:List Nat}{x y:Nat}(H:eN v P n h (A++x::(B++y::D))){i j:Nat}(hi:i=A.length)(hj:j=A.length+1+B.length):
  ∃ p q,bh 1 v (iv i)=some p∧bh 1 v (iv j)=some q∧ldV h p=some (iv x)∧ldV h q=some (iv y)∧∀K:Value→ai→Prop,
   (∀h',eN v P n h' (A++y::(B++x::D))→Fr (blk v) h h'→K undef h')→
    (stK 1 p (iv y) h λ_ F=>stK 1 q (iv x) F K)∧(stK 1 q (iv x) h λ_ F=>stK 1 p (iv y) F K):=by
 subst hi hj;have l1:A.length<(A++x::(B++y::D)).length:=by simp
 have l2:A.length+1+B.length<(A++x::(B++y::D)).length:=by simp;omega
 obtain⟨p,h1,F,G⟩:=H.own.at1 (k:=.i64) l1;obtain⟨q,g1,g2,g3⟩:=H.own.at1 (k:=.i64) l2;have e1:(A++x::(B++y::D))[A.length]=x:=by simp
 have e2:(A++x::(B++y::D))[A.length+1+B.length]=y:=by
  apply oE;rw[←gN,mP ae,show A.length+1+B.length-A.length=B.length+1 by omega,yB,mP ae];simp
 rw[eE,e1]at F;rw[eE,e2]at g2;have fin:∀h',Own 1 h' v (A++x::(B++y::D)).length ((A++y::(B++x::D)).map iv)→Fr (blk v) h h'→eN v P n h' (A++y::(B++x::D)):=λh' o f'=>
  ⟨by rw[show(A++y::(B++x::D)).length=(A++x::(B++y::D)).length by simp];exact o,C.fr H.ok f',by have:=H.small;simpa using this,λz hz=>H.below z (by
   simp only[gP,kC]at hz ⊢;rcases hz with h|h|h|h|h<;>simp[h])⟩
 have s1:((A++x::(B++y::D)).map iv).set A.length (iv y)=(A++y::(B++y::D)).map iv:=by simp
 have s2:((A++y::(B++y::D)).map iv).set (A.length+1+B.length) (iv x)=(A++y::(B++x::D)).map iv:=by
  rw[←Nb]
  congr 1
  rw[Na _ _ ae,show A.length+1+B.length-A.length=B.length+1 by omega,List.set_cons_succ,Na _ _ ae];simp
 have s3:((A++x::(B++y::D)).map iv).set (A.length+1+B.length) (iv x)=(A++x::(B++x::D)).map iv:=by
  rw[←Nb]
  congr 1
  rw[Na _ _ ae,show A.length+1+B.length-A.length=B.length+1 by omega,List.set_cons_succ,Na _ _ ae];simp
 have s4:((A++x::(B++x::D)).map iv).set A.length (iv y)=(A++y::(B++x::D)).map iv:=by simp
 refine⟨p,q,h1,g1,F,g2,λK HK=>⟨?_,?_⟩⟩
 ·refine G _ _ rfl λF o2 f2 z2=>?_
  rw[s1]at o2;obtain⟨q',L,_,U⟩:=o2.at1 (k:=.i64) l2;rw[g1]at L;cases L;refine U _ _ rfl λG I f3 z3=>?_
  rw[s2]at I;exact HK G (fin G I (f2.trans f3)) (f2.trans f3)
 ·refine g3 _ _ rfl λF o2 f2 z2=>?_
  rw[s3]at o2;obtain⟨p',h1',_,W⟩:=o2.at1 (k:=.i64) l1;rw[h1]at h1';cases h1';refine W _ _ rfl λG I f3 z3=>?_
  rw[s4]at I;exact HK G (fin G I (f2.trans f3)) (f2.trans f3)
theorem vq (a b:Nat)(h:a+b≤9223372036854775807):IntKind.i64.wrap ((a:Int)+(b:Int))=((a+b:Nat):Int):=by rw[w64 ae ae];omega
theorem mC (a b:Nat)(h:b≤a)(A:a≤9223372036854775807):IntKind.i64.wrap ((a:Int)-(b:Int))=((a-b:Nat):Int):=by rw[w64 ae ae];omega
theorem tT (a:Nat)(h:a+1≤9223372036854775807):IntKind.i64.wrap ((a:Int)+1)=((a+1:Nat):Int):=by rw[w64 ae ae];omega
theorem JB (a:Nat)(h:1≤a)(A:a≤9223372036854775807):IntKind.i64.wrap ((a:Int)-1)=((a-1:Nat):Int):=by rw[w64 ae ae];omega
theorem DH (C:Mp v f P r n){h:ai}{A U M V D:List Nat}(H:eN v P n h (A++U++M++V++D)){a b k:Nat}(ha:a=A.length)(hb:b=A.length+U.length+M.length)(hU:U.length=k)(hV:V.length=k):
  ag prog dw #[v,iv a,iv b,iv k,f] h λ_ h'=>eN v P n h' (A++V++M++U++D)∧Fr (blk v) h h':=by
 apply rE;unfold jS;have I:=H.small;simp only[cF]at I;refine bO k 0 (λi (_:Unit)=>[iv i]) (λi _ h'=>eN v P n h' (A++V.take i++(U.drop i++M++U.take i++(V.drop i++D)))∧Fr (blk v) h h') () rfl (bZ _) ⟨by simpa using H,Fr.refl _ _⟩ λi _ h1 again ρj _ hi ⟨F,W⟩ L=>?_
 try simp only[go_sem]
 refine aq (λh0=>?_) (λh0=>?_)
 ·have G:i<k:=ae;have dU:U.drop i=U[i]::U.drop (i+1):=AS ae;have dV:V.drop i=V[i]::V.drop (i+1):=AS ae;have tU:U.take (i+1)=U.take i++[U[i]]:=jE ae;have tV:V.take (i+1)=V.take i++[V[i]]:=jE ae;have H2:eN v P n h1 ((A++V.take i)++U[i]::((U.drop (i+1)++M++U.take i)++V[i]::(V.drop (i+1)++D))):=by
   rw[dU,dV]at F;simpa only[cL,oF,eZ]using F
  obtain⟨p,q,e1,e2,e3,e4,st⟩:=H2.swap C (i:=a+i) (j:=b+i) (by rw[cF,di];omega) (by simp only[cF,di,ib];omega);refine aQ (λh'=>h'=h1) rfl ?_;rw[vq a i ae,vq b i ae];simp only[go_sem,e1,e2];refine aF (iv V[i]) (λh' e=>by rw[e];exact e4) ?_;refine aF (iv U[i]) (λh' e=>by rw[e];exact e3) ?_;refine(st _ λh3 H3 F3=>?_).1;rw[tT i ae];refine L () h3 G ⟨?_,W.trans F3⟩;rw[tU,tV];simpa only[cL,oF,eZ]using H3
 ·have:i=k:=ae;subst this;rw[fg ae,fg ae,oC ae,oC ae]at F;exact⟨by simpa using F,W⟩
theorem zcU (C:Mp v f P r n){h:ai}{A U V D:List Nat}(H:eN v P n h (A++U++V++D)){a m b:Nat}(ha:a=A.length)(hm:m=A.length+U.length)(hb:b=A.length+U.length+V.length)(hU:0<U.length)(hV:0<V.length):
  ag prog iV #[v,iv a,iv m,iv b,f] h λ_ h'=>eN v P n h' (A++V++U++D)∧Fr (blk v) h h':=by
 apply vk;unfold lB;have al:=H.small;simp only[cF]at al;simp only[iR,ah];rw[mC m a ae ae,mC b m ae ae];refine dy (λd xs h'=>∃(P1 G F L:List Nat),d=G.length+F.length∧xs=[iv G.length,iv F.length]∧0<G.length∧0<F.length∧eN v P n h' (P1++G++F++L)∧Fr (blk v) h h'∧m=P1.length+G.length∧P1++F++G++L=A++V++U++D)
  (U.length+V.length) ⟨A,U,V,D,rfl,by rw[show m-a=U.length by omega,show b-m=V.length by omega],hU,hV,H,Fr.refl _ _,hm,rfl⟩ ?_
 rintro d xs ρj h1 again ⟨P1,G,F,L,rfl,rfl,u0,v0,H1,F1,an,hg⟩ aa;have ad:=H1.small;simp only[cF]at ad;simp only[iq,vN,me,ah];by_cases am:G.length=F.length
 ·have e:((G.length:Int)=(F.length:Int))=True:=jZ ae;simp only[go_sem,e];rw[mC m G.length ae ae];refine(DH C (A:=P1) (U:=G) (M:=[]) (V:=F) (D:=L) (k:=G.length) (by simpa using H1) ae (by simp;omega) rfl am.symm).mono λw h2 ⟨H2,F2⟩=>?_
  refine⟨?_,F1.trans F2⟩;rw[←hg];simpa using H2
 ·have e:((G.length:Int)=(F.length:Int))=False:=gk ae;simp only[go_sem,e];refine aq (λh0=>?_) (λh0=>?_)
  ·rw[mC m G.length ae ae];have I:G=G.take F.length++G.drop F.length:=(mS _ _).symm;have W:(G.take F.length).length=F.length:=by rw[di];omega
   have l2:(G.drop F.length).length=G.length-F.length:=by rw[ib]
   refine(DH C (A:=P1) (U:=G.take F.length) (M:=G.drop F.length) (V:=F) (D:=L) (k:=F.length) (by rw[cL P1,←I];exact H1) ae ae W rfl).mono λw h2 ⟨H2,F2⟩=>?_
   try simp only[go_sem]
   rw[mC G.length F.length ae ae];refine aa _ _ (G.length-F.length+F.length) ae ⟨P1++F,G.drop F.length,G.take F.length,L,by rw[W,l2],by rw[W,l2],ae,ae,by simpa using H2,F1.trans F2,by rw[cF];omega,?_⟩;rw[←hg];simp only[cL];rw[←cL (G.take _),←I]
  ·rw[mC m G.length ae ae,vq m F.length ae,mC (m+F.length) G.length ae ae];have I:F=F.take (F.length-G.length)++F.drop (F.length-G.length):=(mS _ _).symm;have W:(F.take (F.length-G.length)).length=F.length-G.length:=by rw[di];omega
   have l2:(F.drop (F.length-G.length)).length=G.length:=by rw[ib];omega
   refine(DH C (A:=P1) (U:=G) (M:=F.take (F.length-G.length)) (V:=F.drop (F.length-G.length)) (D:=L) (k:=G.length) (by
    have e:P1++G++F.take (F.length-G.length)++F.drop (F.length-G.length)++L=P1++G++F++L:=by
     conv=>rhs;rw[I]
     simp only[cL]
    rw[e];exact H1) ae ae rfl l2).mono λw h2 ⟨H2,F2⟩=>?_
   try simp only[go_sem]
   rw[mC F.length G.length ae ae];refine aa _ _ (G.length+(F.length-G.length)) ae ⟨P1,F.drop (F.length-G.length),F.take (F.length-G.length),G++L,by rw[W,l2],by rw[W,l2],ae,ae,by simpa using H2,F1.trans F2,ae,?_⟩;rw[←hg];simp only[cL];rw[←cL (F.take _),←I]
end
end
section
theorem Kl {i j:Nat}{K:Value→Prop}(h:i+j<9223372036854775808):(vK (ak .i .add (iv i) (iv j)) λF=>vK (gS .u64 F) λD=>vK (ak .i .shr D (.int .u64 1)) λA=>vK (gS .i64 A) K)=K (iv ((i+j)/2)):=by
 rw[dD,ah,vq i j ae,DF,ah,gF ae,show(1:Int)=((1:Nat):Int)from rfl,nJ _ ae,ah,DF,ah,w64 ae ae]
section
variable {v f:Value}{P:ai→Prop}{r:Nat→Int}{n:Nat}
theorem ub {x y:Nat}(h:x<y):dI r y x↔r x<r y:=by unfold dI;omega
theorem XL {G F:List Nat}{x:Nat}(A:(G++F).Pairwise (dI r))(h1:∀y∈G,dI r y x)(I:∀y∈F,dI r x y):(G++x::F).Pairwise (dI r):=by
 rw[sF]at A ⊢;refine⟨A.1,Ul.2 ⟨I,A.2.1⟩,λy H z D=>?_⟩;rcases kC.1 D with rfl|D
 ·exact h1 y H
 ·exact A.2.2 y H z D
theorem zaV {D:List Nat}{y x:Nat}(F:(D++[y]).Pairwise (dI r))(h:dI r y x):∀z∈D++[y],dI r z x:=by
 rw[sF]at F;intro z A;rcases gP.1 A with A|A
 ·exact lZ (F.2.2 z A y (by simp)) h
 ·rw[ia.1 A];exact h
theorem Ml (C:Mp v f P r n){h:ai}{A M D:List Nat}(H:eN v P n h (A++M++D)){a b:Nat}(ha:a=A.length)(hb:b=A.length+M.length)(a9:M.Pairwise (· < ·)):
  ag prog dF #[v,iv a,iv b,f] h λ_ h'=>∃M':List Nat,M'.Perm M∧M'.Pairwise (dI r)∧eN v P n h' (A++M'++D)∧Fr (blk v) h h':=by
 apply og;unfold iJ;have ay:=H.small;simp only[cF]at ay;rw[dD,ah,tT a ae];refine bO (M.length-1) 0 (λk (_:Unit)=>[iv (a+1+k)]) (λk _ h'=>∃S:List Nat,S.Perm (M.take (k+1))∧S.Pairwise (dI r)∧eN v P n h' (A++S++M.drop (k+1)++D)∧Fr (blk v) h h') () rfl (bZ _)
  ⟨M.take 1,JH _,?_,by rw[cL A,mS];exact H,Fr.refl _ _⟩ λk _ h1 again ρj _ hk ⟨S,hp,hs,H1,F1⟩ a7=>?_
 ·cases M with
  |nil=>simp
  |cons x M=>simp
 simp only[iq,cI,ah];refine aq (λh0=>?_) (λh0=>?_)
 ·have W:k+1<M.length:=ae;have dM:M.drop (k+1)=M[k+1]::M.drop (k+1+1):=AS W;have tM:M.take (k+1+1)=M.take (k+1)++[M[k+1]]:=jE W;have ax:S.length=k+1:=by rw[hp.length_eq,di];omega
  have a8:∀y∈S,y<M[k+1]:=λy hy=>by
   have:=hp.mem_iff.1 hy;obtain⟨i,hi,rfl⟩:=pQ.1 this;rw[di]at hi;rw[vM];exact vA.1 a9 i (k+1) ae W ae
  generalize M[k+1]=x at*;refine dy (λd xs h'=>∃F G:List Nat,d=F.length∧xs=[iv (a+F.length)]∧S=F++G∧(∀y∈G,dI r x y)∧eN v P n h' (A++F++x::(G++M.drop (k+1+1)++D))∧Fr (blk v) h h') S.length
   ⟨S,[],rfl,by rw[ax];congr 2;omega,by simp,by simp,by rw[dM]at H1;simpa only[cL,oF,eZ]using H1,F1⟩ ?_
  rintro d xs ρj2 U ar ⟨F,G,rfl,rfl,rfl,hx,L,F2⟩ an;simp only[iq,xv,ah];have kS:(∀y∈F,dI r y x)→eN v P n U (A++F++x::(G++M.drop (k+1+1)++D))→Fr (blk v) h U→again [af (IntKind.i64.wrap (((a+1+k:Nat):Int)+1))] U:=by
   intro g1 g2 g3;rw[tT (a+1+k) ae,show a+1+k+1=a+1+(k+1)by omega];refine a7 () U ae ⟨F++x::G,?_,XL hs g1 hx,by simpa only[cL,oF,eZ]using g2,g3⟩;rw[tM];exact Uk.trans ((List.Perm.cons _ hp).trans (JI (l₁:=[x])))
  refine aQ (λh'=>h'=U) rfl ?_;rcases List.eq_nil_or_concat F with rfl|⟨F,y,rfl⟩
  ·have e:((a:Int)<((a+([]:List Nat).length:Nat):Int))=False:=gk (by simp);simp only[go_sem,e];refine aF undef (λ_ _=>rfl) ?_;refine aF undef (λ_ _=>rfl) ?_
   try simp only[go_sem]
   exact kS (by simp) L F2
  ·have am:(F.concat y).length=F.length+1:=by simp
   have ad:y<x:=a8 y (by simp);have al:=L.small;simp only[cF,pS,am]at al;have H3:eN v P n U ((A++F)++y::([]++x::(G++M.drop (k+1+1)++D))):=by
    simpa only[M9,cL,oF,eZ]using L
   obtain⟨p,q,e1,e2,e3,e4,st⟩:=H3.swap C (i:=a+F.length) (j:=a+(F.length+1)) (by rw[cF];omega) (by rw[cF,lX];omega);have e:((a:Int)<((a+(F.length+1):Nat):Int))=True:=jZ ae;have es:IntKind.i64.wrap (((a+(F.length+1):Nat):Int)-1)=((a+F.length:Nat):Int):=by rw[JB _ ae ae];congr 1
   simp only[go_sem,e,am,es,e1,e2];refine aF (iv x) (λh' e=>by rw[e];exact e4) ?_;refine aF (iv y) (λh' e=>by rw[e];exact e3) ?_;refine C.call L.ok (L.below x (by simp)) (L.below y (by simp)) λc hc=>?_
   simp only[go_sem];have au:(F++[y]).Pairwise (dI r):=by
    have:=(sF.1 hs).1;simpa only[M9]using this
   refine aq (λI=>?_) (λI=>?_)
   ·refine aQ (λh'=>h'=U) rfl ?_
    try simp only[go_sem,e1,e2]
    refine aF (iv y) (λh' e=>by rw[e];exact e3) ?_;refine aF (iv x) (λh' e=>by rw[e];exact e4) ?_;refine(st _ λh3 H4 F3=>?_).2;refine an _ h3 F.length ae ⟨F,y::G,rfl,rfl,by simp[M9],λz hz=>?_,by simpa only[cL,oF,eZ]using H4,F2.trans F3⟩;rcases kC.1 hz with rfl|hz
    ·exact(ub ad).2 (hc.1 I)
    ·exact hx z hz
   ·refine kS ?_ L F2;have hl:dI r y x:=by
     have:¬dI r x y:=λg=>I (hc.2 ((ub ad).1 g))
     exact(l9 r (show y≠x by omega)).resolve_right this
    have:=zaV au hl;simpa only[M9]using this
 ·have aa:M.length≤k+1:=ae;refine⟨S,?_,hs,?_,F1⟩
  ·rw[fg aa]at hp;exact hp
  ·rw[oC aa]at H1;simpa using H1
theorem P5 (C:Mp v f P r n):∀(N:Nat) {h:ai} {A L R D:List Nat} (H:eN v P n h (A++L++R++D)) {a m b:Nat} (ha:a=A.length) (hm:m=A.length+L.length) (hb:b=A.length+L.length+R.length)
  (hL:0<L.length) (hR:0<R.length) (sL:L.Pairwise (dI r)) (sR:R.Pairwise (dI r)) (am:∀x∈L,∀y∈R,x<y) (hN:L.length+R.length≤N),
  ag prog cq #[v,iv a,iv m,iv b,f] h λ_ h'=>∃S:List Nat,S.Perm (L++R)∧S.Pairwise (dI r)∧eN v P n h' (A++S++D)∧Fr (blk v) h h':=by
 intro N;induction N with
 |zero=>intro h A L R D H a m b ha hm hb hL hR sL sR am hN;omega
 |succ N ih=>
 intro h A L R D H a m b ha hm hb hL hR sL sR am hN;apply tP;unfold kj;have c4:=H.small;simp only[cF]at c4
 -- elements of the two parts
 have bk:∀{h':ai},eN v P n h' (A++L++R++D)→∀k (hk:k<L.length),∃p,bh 1 v (iv (a+k))=some p∧ldV h' p=some (iv L[k])∧L[k]<n:=λH' k hk=>by
  obtain⟨p,W,e2⟩:=H'.at (i:=a+k) (by simp only[cF];omega);have e:(A++L++R++D)[a+k]'(by simp only[cF];omega)=L[k]:=by
   apply oE;rw[←gN,cL,cL,mP ae,show a+k-A.length=k by omega,pR hk,gN hk]
  exact⟨p,W,by rw[e2,e],H'.below _ (by simp[cQ])⟩
 have ay:∀{h':ai},eN v P n h' (A++L++R++D)→∀k (hk:k<R.length),∃p,bh 1 v (iv (m+k))=some p∧ldV h' p=some (iv R[k])∧R[k]<n:=λH' k hk=>by
  obtain⟨p,W,e2⟩:=H'.at (i:=m+k) (by simp only[cF];omega);have e:(A++L++R++D)[m+k]'(by simp only[cF];omega)=R[k]:=by
   apply oE;rw[←gN,cL,mP (by simp only[cF];omega),cF,show m+k-(A.length+L.length)=k by omega,pR hk,gN hk]
  exact⟨p,W,by rw[e2,e],H'.below _ (by simp[cQ])⟩
 simp only[iR,mf,ah];rw[mC m a ae ae,mC b m ae ae];refine aq (λh1=>?_) (λh1=>?_)
 ·-- one on the left
  have c7:L.length=1:=ae;obtain⟨x,rfl⟩:=Uj.1 c7;refine dy (λd xs h'=>h'=h∧∃i j:Nat,d=j-i∧xs=[iv (m+i),iv (m+j)]∧i≤j∧j≤R.length∧(∀h0:0<i,∀hi:i-1<R.length,dI r R[i-1] x)∧(∀hj:j<R.length,¬dI r R[j] x)) R.length
   ⟨rfl,0,R.length,rfl,by rw[show b=m+R.length by omega];rfl,ae,ck _,ae,ae⟩ ?_
  rintro d xs ρj h' again ⟨hh,i,j,rfl,rfl,b6,hj,c1,c2⟩ an;subst hh;simp only[iq,vN,cI,ah];refine aq (λI=>?_) (λI=>?_)
  ·rw[Kl ae,show(m+i+(m+j))/2=m+(i+j)/2 by omega];have hk:(i+j)/2<R.length:=ae;obtain⟨p,W,e2,b1⟩:=ay H ((i+j)/2) hk;obtain⟨q,g1,g2,b2⟩:=bk H 0 ae;simp only[ic,EB]at g1 g2 b2;refine aQ (λI=>I=h') rfl ?_;simp only[W,g1,ah];refine aF _ (λI e=>by rw[e];exact e2) ?_;refine aF _ (λI e=>by rw[e];exact g2) ?_;refine C.call H.ok b1 b2 λc hc=>?_
   have au:x<R[(i+j)/2]:=am x (by simp) _ (cQ _)
   try simp only[go_sem]
   refine aq (λG=>?_) (λG=>?_)
   ·rw[tT _ ae];refine an _ _ (j-((i+j)/2+1)) ae ⟨rfl,(i+j)/2+1,j,rfl,rfl,ae,hj,λ_ _=>?_,c2⟩;exact(ub au).2 (hc.1 G)
   ·refine an _ _ ((i+j)/2-i) ae ⟨rfl,i,(i+j)/2,rfl,rfl,ae,ae,c1,λ_ g=>G (hc.2 ((ub au).1 g))⟩
  ·have ar:i=j:=ae;subst ar
   -- it goes to its place
   refine bO i 0 (λc (_:Unit)=>[iv (a+c)]) (λc _ I=>eN v P n I (A++R.take c++x::(R.drop c++D))∧Fr (blk v) h' I) () rfl (bZ _) ⟨by simpa using H,Fr.refl _ _⟩ λc _ I a8 ρj2 _ hc ⟨H2,F2⟩ a7=>?_
   simp only[iq,iR,cI,ah];rw[JB _ ae ae];have lA:A.length+[x].length=A.length+1:=rfl;refine aq (λG=>?_) (λG=>?_)
   ·have c6:c<i:=ae;have dR:R.drop c=R[c]::R.drop (c+1):=AS ae;have tR:R.take (c+1)=R.take c++[R[c]]:=jE ae;have H3:eN v P n I ((A++R.take c)++x::([]++R[c]::(R.drop (c+1)++D))):=by
     rw[dR]at H2;simpa only[cL,oF,eZ]using H2
    obtain⟨p,q,W,e2,e3,e4,st⟩:=H3.swap C (i:=a+c) (j:=a+c+1) (by rw[cF,di];omega) (by rw[cF,di,lX];omega);refine aQ (λG=>G=I) rfl ?_;rw[dD,ah,tT _ ae];simp only[go_sem,W,e2];refine aF _ (λG e=>by rw[e];exact e4) ?_;refine aF _ (λG e=>by rw[e];exact e3) ?_;refine(st _ λG H4 F3=>?_).1
    try rw[tT _ ae]
    refine a7 () G c6 ⟨?_,F2.trans F3⟩;rw[tR];simpa only[cL,oF,eZ]using H4
   ·have:c=i:=ae;subst this;refine⟨R.take c++x::R.drop c,?_,?_,by simpa only[cL,oF,eZ]using H2,F2⟩
    ·refine Uk.trans ?_;rw[mS];exact JH _
    ·refine XL (by rw[mS];exact sR) (λy hy=>?_) (λy hy=>?_)
     ·obtain⟨k,hk,rfl⟩:=pQ.1 hy;rw[di]at hk;rw[vM];exact Ek (lt:=dI r) lZ sR (i:=k) (j:=c-1) ae ae (c1 ae ae)
     ·obtain⟨k,hk,rfl⟩:=pQ.1 hy;rw[ib]at hk;rw[yA];have hx:dI r x R[c]:=(l9 r (show x≠R[c]by have:=am x (by simp) _ (cQ (l:=R) (n:=c) ae);omega)).resolve_right (c2 ae);exact El (lt:=dI r) lZ sR (i:=c) (j:=c+k) ae ae hx
 refine aq (λI=>?_) (λI=>?_)
 ·-- one on the right
  have c8:R.length=1:=ae;obtain⟨y,rfl⟩:=Uj.1 c8;refine dy (λd xs h'=>h'=h∧∃i j:Nat,d=j-i∧xs=[iv (a+i),iv (a+j)]∧i≤j∧j≤L.length∧(∀h0:0<i,∀hi:i-1<L.length,dI r L[i-1] y)∧(∀hj:j<L.length,¬dI r L[j] y)) L.length
   ⟨rfl,0,L.length,rfl,by rw[show m=a+L.length by omega];rfl,ae,ck _,ae,ae⟩ ?_
  rintro d xs ρj h' again ⟨hh,i,j,rfl,rfl,b6,hj,c1,c2⟩ an;subst hh;simp only[iq,vN,cI,ah];refine aq (λG=>?_) (λG=>?_)
  ·rw[Kl ae,show(a+i+(a+j))/2=a+(i+j)/2 by omega];have hk:(i+j)/2<L.length:=ae;obtain⟨p,W,e2,b1⟩:=bk H ((i+j)/2) hk;obtain⟨q,g1,g2,b2⟩:=ay H 0 (by simp);simp only[ic,EB]at g1 g2 b2;refine aQ (λI=>I=h') rfl ?_;simp only[W,g1,ah];refine aF _ (λI e=>by rw[e];exact g2) ?_;refine aF _ (λI e=>by rw[e];exact e2) ?_;refine C.call H.ok b2 b1 λc hc=>?_
   have au:L[(i+j)/2]<y:=am _ (cQ _) y (by simp);simp only[go_sem];refine aq (λU=>?_) (λU=>?_)
   ·rw[tT _ ae];refine an _ _ (j-((i+j)/2+1)) ae ⟨rfl,(i+j)/2+1,j,rfl,rfl,ae,hj,λ_ _=>?_,c2⟩;have e:(i+j)/2+1-1=(i+j)/2:=ae;simp only[e];exact(l9 r ae).resolve_right λg=>U (hc.2 ((ub au).1 g))
   ·refine an _ _ ((i+j)/2-i) ae ⟨rfl,i,(i+j)/2,rfl,rfl,ae,ae,c1,λ_ g=>?_⟩;exact Pr g ((ub au).2 (hc.1 (cA U)))
  ·have ar:i=j:=ae;subst ar;refine dy (λd xs I=>∃c:Nat,d=c∧xs=[iv (a+c)]∧i≤c∧c≤L.length∧eN v P n I (A++L.take c++y::(L.drop c++D))∧Fr (blk v) h' I) L.length
    ⟨L.length,rfl,by rw[show m=a+L.length by omega],hj,ck _,by rw[fg (ck _),oC (ck _)];simpa using H,Fr.refl _ _⟩ ?_
   rintro d xs ρj2 I a8 ⟨c,bv,rfl,ec,eb,H2,F2⟩ a7;have bv:=bv.symm;subst bv;simp only[iq,xv,ah];refine aq (λU=>?_) (λU=>?_)
   ·obtain⟨c,rfl⟩:∃e,c=e+1:=⟨c-1,ae⟩
    have dL:L.drop c=L[c]::L.drop (c+1):=AS ae;have tL:L.take (c+1)=L.take c++[L[c]]:=jE ae;have H3:eN v P n I ((A++L.take c)++L[c]::([]++y::(L.drop (c+1)++D))):=by
     rw[tL]at H2;simpa only[cL,oF,eZ]using H2
    obtain⟨p,q,W,e2,e3,e4,st⟩:=H3.swap C (i:=a+c) (j:=a+(c+1)) (by rw[cF,di];omega) (by rw[cF,di,lX];omega);have es:IntKind.i64.wrap (((a+(c+1):Nat):Int)-1)=((a+c:Nat):Int):=by rw[JB _ ae ae];congr 1
    refine aQ (λG=>G=I) rfl ?_;simp only[go_sem,es,W,e2];refine aF _ (λG e=>by rw[e];exact e3) ?_;refine aF _ (λG e=>by rw[e];exact e4) ?_;refine(st _ λG H4 F3=>?_).2;refine a7 _ G c ae ⟨c,rfl,rfl,ae,ae,?_,F2.trans F3⟩;rw[dL];simpa only[cL,oF,eZ]using H4
   ·have:c=i:=ae;subst this;refine⟨L.take c++y::L.drop c,?_,?_,by simpa only[cL,oF,eZ]using H2,F2⟩
    ·refine Uk.trans ?_;rw[mS];exact JI (l₁:=[y])
    ·refine XL (by rw[mS];exact sL) (λz hz=>?_) (λz hz=>?_)
     ·obtain⟨k,hk,rfl⟩:=pQ.1 hz;rw[di]at hk;rw[vM];exact Ek (lt:=dI r) lZ sL (i:=k) (j:=c-1) ae ae (c1 ae ae)
     ·obtain⟨k,hk,rfl⟩:=pQ.1 hz;rw[ib]at hk;rw[yA];have hx:dI r y L[c]:=(l9 r (show y≠L[c]by have:=am _ (cQ (l:=L) (n:=c) ae) y (by simp);omega)).resolve_right (c2 ae);exact El (lt:=dI r) lZ sL (i:=c) (j:=c+k) ae ae hx
 -- cut in the middle
 rw[Kl ae];obtain⟨F,cp⟩:∃F,F=(a+b)/2:=⟨_,rfl⟩
 rw[←cp,dD,ah,vq F m ae];obtain⟨s0,bg⟩:∃s0,s0=if F<m then F+m-b else a:=⟨_,rfl⟩
 obtain⟨r0,bd⟩:∃r0,r0=if F<m then F else m:=⟨_,rfl⟩
 have aa:(F<m→s0=F+m-b)∧(¬F<m→s0=a):=⟨λh=>by rw[bg,aB h],λh=>by rw[bg,aA h]⟩
 have ad:(F<m→r0=F)∧(¬F<m→r0=m):=⟨λh=>by rw[bd,aB h],λh=>by rw[bd,aA h]⟩
 clear bg bd
 refine bB (λxs h'=>h'=h∧xs=[iv s0,iv r0]) ?_ ?_
 ·rw[xv,ah];refine aq (λG=>?_) (λG=>?_)
  ·rw[iR,ah,mC (F+m) b ae ae];exact⟨rfl,by rw[aa.1 ae,ad.1 ae]⟩
  ·exact⟨rfl,by rw[aa.2 ae,ad.2 ae]⟩
 rintro xs ρj h' ⟨hh,rfl⟩;subst hh;simp only[iq,vN];rw[iR,ah,JB (F+m) ae ae];have c0:a≤s0∧s0≤r0∧r0≤m∧r0≤F∧F+m-b≤s0:=by
  by_cases G:F<m
  ·have W:=aa.1 G;have e2:=ad.1 G;omega
  ·have W:=aa.2 G;have e2:=ad.2 G;omega
 -- which ones come ahead
 have be:∀c:Nat,s0≤c→c<r0→∃(h1:c-a<L.length) (I:F-1-c<R.length),∃p q,bh 1 v (iv c)=some p∧ldV h' p=some (iv L[c-a])∧bh 1 v (iv (F+m-1-c))=some q∧ldV h' q=some (iv R[F-1-c])∧L[c-a]<n∧R[F-1-c]<n:=by
  intro c h1 I;have l1:c-a<L.length:=ae;have l2:F-1-c<R.length:=ae;obtain⟨p,W,e2,b1⟩:=bk H (c-a) l1;obtain⟨q,g1,g2,b2⟩:=ay H (F-1-c) l2;rw[show a+(c-a)=c by omega]at W;rw[show m+(F-1-c)=F+m-1-c by omega]at g1;exact⟨l1,l2,p,q,W,e2,g1,g2,b1,b2⟩
 refine dy (λd xs I=>I=h'∧∃i j:Nat,d=j-i∧xs=[iv i,iv j]∧s0≤i∧i≤j∧j≤r0∧(∀h0:s0<i,∀(g1:i-1-a<L.length) (g2:F-i<R.length),dI r L[i-1-a] R[F-i])∧(j<r0→∀(g1:j-a<L.length) (g2:F-1-j<R.length),dI r R[F-1-j] L[j-a])) (r0-s0)
  ⟨rfl,s0,r0,rfl,rfl,ck _,c0.2.1,ck _,ae,ae⟩ ?_
 rintro d xs ρj2 I again ⟨hh,i,j,rfl,rfl,c9,b6,cz,c1,c2⟩ an;subst hh;simp only[iq,vN,cI,ah];refine aq (λG=>?_) (λG=>?_)
 ·rw[Kl ae];obtain⟨l1,l2,p,q,W,e2,g1,g2,b1,b2⟩:=be ((i+j)/2) ae ae;obtain⟨c,hc⟩:∃c,c=(i+j)/2:=⟨_,rfl⟩
  simp only[←hc]at l1 l2 W e2 g1 g2 b1 b2 ⊢;have au:L[c-a]<R[F-1-c]:=am _ (cQ _) _ (cQ _);refine aQ (λU=>U=I) rfl ?_;simp only[iR,ah];rw[mC (F+m-1) c ae ae];simp only[W,g1,ah];refine aF _ (λG e=>by rw[e];exact g2) ?_;refine aF _ (λG e=>by rw[e];exact e2) ?_;refine C.call H.ok b2 b1 λw hw=>?_
  simp only[go_sem];refine aq (λU=>?_) (λU=>?_)
  ·rw[tT _ ae];refine an _ _ (j-(c+1)) ae ⟨rfl,c+1,j,rfl,rfl,ae,ae,cz,λ_ _ _=>?_,c2⟩;have:dI r L[c-a] R[F-1-c]:=(l9 r ae).resolve_right λg=>U (hw.2 ((ub au).1 g))
   have e:F-(c+1)=F-1-c:=ae;simp only[e,AQ];exact this
  ·refine an _ _ (c-i) ae ⟨rfl,i,c,rfl,rfl,c9,ae,ae,c1,λ_ _ _=>(ub au).2 (hw.1 (cA U))⟩
 -- turned round
 have ar:i=j:=ae;subst ar;obtain⟨p,hp⟩:∃p,p=i-a:=⟨_,rfl⟩
 obtain⟨q,hq⟩:∃q,q=F-i:=⟨_,rfl⟩
 have dl:p≤L.length:=ae;have cu:q≤R.length:=ae;have x1:∀(g1:0<p) (g2:q<R.length),dI r (L[p-1]'ae) R[q]:=λg1 g2=>by
  have hs:s0<i:=by
   by_cases U:F<m
   ·have:=aa.1 U;omega
   ·have:=aa.2 U;omega
  have:=c1 hs ae ae;have W:i-1-a=p-1:=ae;simp only[W,←hq]at this;exact this
 have x2:∀(g1:0<q) (g2:p<L.length),dI r (R[q-1]'ae) L[p]:=λg1 g2=>by
  have hs:i<r0:=by
   by_cases U:F<m
   ·have:=ad.1 U;omega
   ·have:=ad.2 U;omega
  have:=c2 hs ae ae;have W:F-1-i=q-1:=ae;simp only[W,←hp]at this;exact this
 have c5:=cross (lt:=dI r) lZ sL sR dl cu x1 x2;have lp:(L.take p).length=p:=by rw[di];omega
 have lq:(R.take q).length=q:=by rw[di];omega
 have ld:(L.drop p).length=L.length-p:=by rw[ib]
 have lr:(R.drop q).length=R.length-q:=by rw[ib]
 have eL:L=L.take p++L.drop p:=(mS _ _).symm;have eR:R=R.take q++R.drop q:=(mS _ _).symm;have H0:eN v P n I ((A++L.take p)++L.drop p++R.take q++(R.drop q++D)):=by
  have e:(A++L.take p)++L.drop p++R.take q++(R.drop q++D)=A++L++R++D:=by
   conv=>rhs;rw[eL,eR]
   simp only[cL]
  rw[e];exact H
 rw[iR,ah,mC (F+m) i ae ae];refine bB (λ_ G=>eN v P n G (A++L.take p++R.take q++(L.drop p++R.drop q++D))∧Fr (blk v) I G) ?_ ?_
 ·simp only[go_sem];refine aq (λU=>?_) (λU=>?_)
  ·refine(zcU C H0 (a:=i) (m:=m) (b:=F+m-i) (by rw[cF];omega) (by rw[cF];omega) (by rw[cF];omega) ae ae).mono λw G ⟨H3,F3⟩=>?_
   exact⟨by simpa only[cL]using H3,F3⟩
  ·refine⟨?_,Fr.refl _ _⟩;by_cases h5:p=L.length
   ·rw[oC (show L.length≤p by omega)]at H0 ⊢;simpa only[cL,iC,eZ]using H0
   ·have:q=0:=ae;subst this;simpa only[cL,M8,iC,eZ]using H0
 rintro xs ρj3 G ⟨H3,F3⟩
 -- the two halves
 have cc:∀x∈L.take p,∀y∈R.take q,x<y:=λx hx y hy=>am x (AT hx) y (AT hy)
 have cr:∀x∈L.drop p,∀y∈R.drop q,x<y:=λx hx y hy=>am x (Ui hx) y (Ui hy)
 have b0:=sL.sublist (List.take_sublist p L);have b3:=sL.sublist (List.drop_sublist p L);have b4:=sR.sublist (List.take_sublist q R);have cb:=sR.sublist (List.drop_sublist q R);have al:∀(S1:List Nat) (U:ai),S1.Perm (L.take p++R.take q)→S1.Pairwise (dI r)→eN v P n U (A++S1++(L.drop p++R.drop q++D))→Fr (blk v) I U→
   vK (ak .i .lss (iv F) (iv (F+m-i))) λax=>vK (gV ax true (some (iv (F+m-i)))) λb8=>vK (gV ax true (some (iv b))) λca=>vK (gV ax true (ak .i .lss b8 ca)) λb7=>vK (aH ax b7 (.bool false)) λci=>
    aG ci (ag prog cq #[v,iv F,iv (F+m-i),iv b,f] U λdz a9=>∃S:List Nat,S.Perm (L++R)∧S.Pairwise (dI r)∧eN v P n a9 (A++S++D)∧Fr (blk v) I a9)
     (∃S:List Nat,S.Perm (L++R)∧S.Pairwise (dI r)∧eN v P n U (A++S++D)∧Fr (blk v) I U):=by
  intro S1 U b5 c3 H4 F4;have ea:S1.length=p+q:=by rw[b5.length_eq,cF];omega
  have fin:∀(S2:List Nat) (h5:ai),S2.Perm (L.drop p++R.drop q)→S2.Pairwise (dI r)→eN v P n h5 (A++S1++S2++D)→Fr (blk v) I h5→∃S:List Nat,S.Perm (L++R)∧S.Pairwise (dI r)∧eN v P n h5 (A++S++D)∧Fr (blk v) I h5:=by
   intro S2 h5 ct cw H5 F5;obtain⟨m1,m2⟩:=zfo (lt:=dI r) c5 b5 ct c3 cw;exact⟨S1++S2,m1,m2,by simpa only[cL]using H5,F5⟩
  simp only[go_sem];refine aq (λh6=>?_) (λh6=>?_)
  ·refine(ih (A:=A++S1) (L:=L.drop p) (R:=R.drop q) (D:=D) (by simpa only[cL]using H4) (by rw[cF];omega) (by rw[cF];omega) (by rw[cF];omega) ae ae b3 cb cr ae).mono λw h5 ⟨S2,g1,g2,g3,g4⟩=>?_
   exact fin S2 h5 g1 g2 g3 (F4.trans g4)
  ·by_cases h7:L.length≤p
   ·rw[oC h7]at H4 fin;exact fin (R.drop q) U (by simp) cb (by simpa only[cL,eZ]using H4) F4
   ·have h8:R.length≤q:=ae;rw[oC h8]at H4 fin;exact fin (L.drop p) U (by simp) b3 (by simpa only[cL,iC,eZ]using H4) F4
 simp only[cI,ah];by_cases U:a<i∧i<F
 ·have W:((a:Int)<(i:Int))=True:=jZ ae;have e2:((i:Int)<(F:Int))=True:=jZ ae;simp only[go_sem,W,e2];refine(ih (A:=A) (L:=L.take p) (R:=R.take q) (D:=L.drop p++R.drop q++D) H3 ae ae ae ae ae b0 b4 cc ae).mono λw h5 ⟨S1,g1,g2,g3,g4⟩=>?_
  have:=al S1 h5 g1 g2 g3 (F3.trans g4);simp only[go_sem]at this ⊢;exact this
 ·have W:((a:Int)<(i:Int)∧(i:Int)<(F:Int))=False:=gk ae;simp only[go_sem,W];by_cases h5:p=0
  ·subst h5;have:=al (R.take q) G (by simp) b4 (by simpa only[cL,M8,iC,eZ]using H3) F3;simp only[go_sem]at this ⊢;exact this
  ·have bo:q=0:=ae;have dq:=bo;have:=al (L.take p) G (by rw[bo];simp) b0 (by rw[bo]at H3 ⊢;simpa only[cL,M8,iC,eZ]using H3) F3;simp only[go_sem]at this ⊢;exact this
end
end
section
def Srt (r:Nat→Int)(lo:Nat)(S:List Nat):Prop:=S.Perm (List.range' lo S.length)∧S.Pairwise (dI r)
theorem Srt.mem {r:Nat→Int}{lo:Nat}{S:List Nat}(H:Srt r lo S){x:Nat}(A:x∈S):lo≤x∧x<lo+S.length:=by
 have:=H.1.mem_iff.1 A;simpa using this
theorem Srt.join {r:Nat→Int}{lo:Nat}{A D S:List Nat}(h1:Srt r lo A)(G:Srt r (lo+A.length) D)(F:S.Perm (A++D))(H:S.Pairwise (dI r)):Srt r lo S:=by
 refine⟨?_,H⟩;have I:S.length=A.length+D.length:=by rw[F.length_eq,cF]
 refine F.trans ((h1.1.append G.1).trans ?_);rw[I,Zt]
inductive BS (r:Nat→Int)(B:Nat):Nat→List Nat→Prop
 |nil (lo:Nat):BS r B lo []
 |last (lo:Nat) (S:List Nat):0<S.length→S.length≤B→Srt r lo S→BS r B lo S
 |cons (lo:Nat) (S T:List Nat):S.length=B→Srt r lo S→BS r B (lo+B) T→BS r B lo (S++T)
theorem BS.one {r:Nat→Int}{B lo:Nat}{Y:List Nat}(F:0<B)(H:BS r B lo Y)(D:B≤Y.length):∃S T,Y=S++T∧S.length=B∧Srt r lo S∧BS r B (lo+B) T:=by
 cases H
 ·simp at D;omega
 ·rename_i h0 h1 A;exact⟨Y,[],by simp,ae,A,.nil _⟩
 ·rename_i S T h0 h1 A;exact⟨S,T,rfl,h0,h1,A⟩
theorem BS.short {r:Nat→Int}{B lo:Nat}{Y:List Nat}(G:0<B)(H:BS r B lo Y)(D:Y.length≤B)(h0:0<Y.length):Srt r lo Y:=by
 cases H
 ·simp at h0
 ·rename_i h0 h1 A;exact A
 ·rename_i S T F h1 A;have:T=[]:=lg (by simp at D;omega);subst this;simpa using h1
section
variable {v f:Value}{P:ai→Prop}{r:Nat→Int}{n:Nat}
theorem zcR (C:Mp v f P r n){h:ai}{N:Nat}(H:eN v P n h (List.range' 0 N))(hN:N≤1048576):
  ag prog iU #[v,iv N,f] h λ_ h'=>∃S:List Nat,S.Perm (List.range N)∧S.Pairwise (dI r)∧eN v P n h' S∧Fr (blk v) h h':=by
 apply vj;unfold lz;refine dy (λd W h'=>∃(X:List Nat),d=N-X.length∧W=[iv X.length,iv (X.length+20)]∧X.length≤N∧(∀T,BS r 20 X.length T→BS r 20 0 (X++T))∧eN v P n h' (X++List.range' X.length (N-X.length))∧Fr (blk v) h h') N
  ⟨[],rfl,rfl,bZ _,λT h=>h,by simpa using H,Fr.refl _ _⟩ ?_
 rintro d W ρj h1 again ⟨X,rfl,rfl,hX,hT,H1,F1⟩ ay;simp only[iq,vN,Ky,ah];refine aq (λh0=>?_) (λh0=>?_)
 ·have er:List.range' X.length (N-X.length)=List.range' X.length 20++List.range' (X.length+20) (N-(X.length+20)):=by
   rw[Zt];congr 1;omega
  have H2:eN v P n h1 (X++List.range' X.length 20++List.range' (X.length+20) (N-(X.length+20))):=by rw[er]at H1;simpa only[cL]using H1
  refine(Ml C H2 (a:=X.length) (b:=X.length+20) rfl (by simp) Zs).mono λw h2 ⟨M',hp,hs,H3,F2⟩=>?_
  have hM:M'.length=20:=by rw[hp.length_eq];simp
  have hl:(X++M').length=X.length+20:=by rw[cF,hM]
  rw[dD,ah,show(20:Int)=((20:Nat):Int)from rfl,vq _ _ ae];refine ay _ h2 (N-(X++M').length) ae ⟨X++M',rfl,by rw[hl],ae,λT G=>?_,by rw[hl];exact H3,F1.trans F2⟩;rw[hl]at G;rw[cL];exact hT _ (.cons _ M' T hM ⟨by rw[hM];exact hp,hs⟩ G)
 ·refine(Ml C (A:=X) (M:=List.range' X.length (N-X.length)) (D:=[]) (by simpa using H1) (a:=X.length) (b:=N) rfl (by simp;omega) Zs).mono λw h2 ⟨M',hp,hs,H3,F2⟩=>?_
  have hM:M'.length=N-X.length:=by rw[hp.length_eq];simp
  rw[iC]at H3;have a7:BS r 20 0 (X++M'):=by
   refine hT _ ?_;rcases Dt M'.length with h3|h3
   ·rw[lg h3];exact .nil _
   ·exact .last _ _ h3 ae ⟨by rw[hM];exact hp,hs⟩
  have au:(X++M').length=N:=by rw[cF];omega
  generalize X++M'=Y0 at*
  -- blocks that grow
  refine dy (λd W h'=>∃(B:Nat) (Y:List Nat),d=N-B∧W=[iv B]∧0<B∧B≤2097152∧Y.length=N∧BS r B 0 Y∧eN v P n h' Y∧Fr (blk v) h h') (N-20)
   ⟨20,Y0,rfl,rfl,ae,ae,au,a7,H3,F1.trans F2⟩ ?_
  rintro d W ρj2 h3 U ⟨B,Y,rfl,rfl,hB,a9,aa,hY,H4,F3⟩ ar;simp only[iq,cI,ah];refine aq (λh4=>?_) (λh4=>?_)
  ·rw [nE,ah,show(2:Int)*(B:Int)=((2*B:Nat):Int)by omega,w64 (n:=((2*B:Nat):Int)) ae ae];refine dy (λd W h'=>∃(X Z:List Nat),d=Z.length∧W=[iv X.length,iv (X.length+2*B)]∧X.length+Z.length=N∧(∀T,BS r (2*B) X.length T→BS r (2*B) 0 (X++T))∧BS r B X.length Z∧eN v P n h' (X++Z)∧Fr (blk v) h h') N
    ⟨[],Y,aa.symm,by simp,by simpa using aa,λT h=>h,hY,H4,F3⟩ ?_
   rintro d W ρj3 h5 ax ⟨X,Z,rfl,rfl,al,am,hZ,H5,F5⟩ an;simp only[iq,vN,Ky,ah];refine aq (λh6=>?_) (λh6=>?_)
   ·obtain⟨S1,T1,rfl,l1,s1,b1⟩:=hZ.one hB ae;rw[cF]at al;obtain⟨S2,T2,rfl,l2,s2,b2⟩:=b1.one hB ae;rw[cF]at al;rw[dD,ah,vq _ _ ae];refine(P5 C (S1.length+S2.length) (A:=X) (L:=S1) (R:=S2) (D:=T2) (by simpa only[cL]using H5) (a:=X.length) (m:=X.length+B) (b:=X.length+2*B) rfl ae ae ae ae s1.2 s2.2 (λx hx y hy=>by
     have:=s1.mem hx;have:=s2.mem hy;omega) (ck _)).mono λw h7 ⟨S,F,ad,H7,F7⟩=>?_
    have hS:S.length=2*B:=by rw[F.length_eq,cF];omega
    have hl:(X++S).length=X.length+2*B:=by rw[cF,hS]
    rw[dD,ah,vq _ _ ae];refine an _ h7 T2.length (by simp;omega) ⟨X++S,T2,rfl,by rw[hl],by rw[hl];omega,λT G=>?_,by rw[hl,show X.length+2*B=X.length+B+B by omega];exact b2,H7,F5.trans F7⟩;rw[hl]at G;rw[cL];exact am _ (.cons _ S T hS (Srt.join s1 (by rw[l1];exact s2) F ad) G)
   ·rw[dD,ah,vq _ _ ae,cI,ah];have go:∀(Y':List Nat) (h8:ai),Y'.length=N→BS r (2*B) 0 Y'→eN v P n h8 Y'→Fr (blk v) h h8→vK (ak .i .mul (iv B) (af 2)) λa8=>U [a8] h8:=by
     intro Y' h8 g1 g2 g3 g4;rw[nE,ah,show(B:Int)*2=((2*B:Nat):Int)by omega,w64 (n:=((2*B:Nat):Int)) ae ae];exact ar _ h8 (N-2*B) ae ⟨2*B,Y',rfl,rfl,ae,ae,g1,g2,g3,g4⟩
    refine aq (λh8=>?_) (λh8=>?_)
    ·obtain⟨S1,T1,rfl,l1,s1,b1⟩:=hZ.one hB ae;rw[cF]at al;have s2:=b1.short hB ae ae;refine(P5 C (S1.length+T1.length) (A:=X) (L:=S1) (R:=T1) (D:=[]) (by simpa only[cL,iC]using H5) (a:=X.length) (m:=X.length+B) (b:=N) rfl ae ae ae ae s1.2 s2.2 (λx hx y hy=>by
      have:=s1.mem hx;have:=s2.mem hy;omega) (ck _)).mono λw I ⟨S,F,ad,H7,F7⟩=>?_
     have hS:S.length=S1.length+T1.length:=by rw[F.length_eq,cF]
     rw[iC]at H7;exact go (X++S) I (by rw[cF];omega) (am _ (.last _ S ae ae (Srt.join s1 (by rw[l1];exact s2) F ad))) H7 (F5.trans F7)
    ·refine go (X++Z) h5 (by rw[cF];omega) (am _ ?_) H5 F5;rcases Dt Z.length with I|I
     ·rw[lg I];exact .nil _
     ·exact .last _ _ I ae (hZ.short hB ae I)
  ·have:Srt r 0 Y:=by
    rcases Dt Y.length with I|I
    ·have:Y=[]:=lg I;subst this;exact⟨by simp,List.Pairwise.nil⟩
    ·exact hY.short hB ae I
   refine⟨Y,?_,this.2,H4,F3⟩;have hp:=this.1;rw[aa]at hp;rw[UA];exact hp
theorem UO (C:Mp v f P r n){h:ai}{N:Nat}(H:eN v P n h (List.range' 0 N))(D:N≤1048576):
  ag prog fH #[v,f] h λ_ h'=>∃S:List Nat,S.Perm (List.range N)∧S.Pairwise (dI r)∧eN v P n h' S∧Fr (blk v) h h':=by
 apply nA;unfold iG;have A:=H.own;rw[Uh]at A;obtain⟨a,cap,e⟩:=A.isSl;have F:aD v=some (iv N):=by rw[e];rfl
 rw[F,ah];exact zcR C H D
end
end
abbrev RN:Value:=.int .i64 0
structure Mk3 (n:Nat)(h0:ai)(rows:List Value)(vr:Option (Nat×TypeId×Value))(h:ai):Prop where
 ext:Ext h0 h
 own:∀r∈rows,Own 1 h r n (List.replicate n RN)∧∀b,blk r b→h0.size≤b
 dis:rows.Pairwise λr s=>∀b,blk r b→¬blk s b
 var:∀p,vr=some p→h[p.1]? =some (.cells #[p.2.2] p.2.1 (0,0))∧h0.size≤p.1∧∀r∈rows,¬blk r p.1
theorem Mk3.start (n:Nat)(h:ai):Mk3 n h [] none h:=⟨Ext.refl _,by simp,List.Pairwise.nil,by simp⟩
theorem Mk3.mkr {n:Nat}{h0 h:ai}{rows:List Value}{G:Option (Nat×TypeId×Value)}{t:TypeId}{K:Value→ai→Prop}(M:Mk3 n h0 rows G h)(hn:n≤1048576)
  (H:∀v h',Mk3 n h0 (rows++[v]) G h'→K v h'):mkK RN t 1 8 (af (n:Int)) (af (n:Int)) h K:=by
 refine pN rfl ae ae λv h' o e f=>H v h' ⟨M.ext.trans e,?_,?_,?_⟩
 ·intro r A;rcases gP.1 A with A|A
  ·exact⟨(M.own r A).1.fr (M:=λ_=>False) e.fr λ_ _=>id,(M.own r A).2⟩
  ·rw[ia.1 A];exact⟨o,λb F=>bA M.ext.1 (f b F)⟩
 ·rw[sF];refine⟨M.dis,by simp,λr A s U b F D=>?_⟩;rw[ia.1 U]at D;have h1:=(M.own r A).1.lt F;have I:=f b D;omega
 ·intro p L;obtain⟨h1,I,W⟩:=M.var p L;refine⟨e.row h1,I,λr A=>?_⟩;rcases gP.1 A with A|A
  ·exact W r A
  ·rw[ia.1 A];intro F;have:=f _ F;have:=aW h1;omega
theorem Mk3.nw {n:Nat}{h0 h:ai}{rows:List Value}{t:TypeId}{c:Value}{K:Value→ai→Prop}(M:Mk3 n h0 rows none h)
  (H:∀b h',Mk3 n h0 rows (some (b,t,c)) h'→K (.pointer (some ⟨b,0,none⟩)) h'):aT #[c] t h K:=by
 refine aI λb h' r e f=>H b h' ⟨M.ext.trans e,λs A=>⟨(M.own s A).1.fr (M:=λ_=>False) e.fr λ_ _=>id,(M.own s A).2⟩,M.dis,?_⟩
 rintro p D;cases D;refine⟨r,bA M.ext.1 f,λs A F=>?_⟩;have:=(M.own s A).1.lt F;simp only at this;omega
theorem Mk3.st {n:Nat}{h0 h:ai}{rows:List Value}{t:TypeId}{b:Nat}{c v:Value}{K:Value→ai→Prop}(M:Mk3 n h0 rows (some (b,t,c)) h)(U:v∈rows)
  (H:∀h',Mk3 n h0 rows (some (b,t,v)) h'→K undef h'):stK 1 (.pointer (some ⟨b,0,none⟩)) v h K:=by
 obtain⟨h1,D,F⟩:=M.var _ rfl;simp only at h1 D F;obtain⟨a,cap,e⟩:=(M.own v U).1.isSl;refine bG h1 (by simp) (by rw[e];rfl) λh' r u=>H h' ⟨M.ext.upd D u,?_,M.dis,?_⟩
 ·intro s A;exact⟨(M.own s A).1.fr u.fr λk I L=>F s A (L▸I),(M.own s A).2⟩
 ·rintro p G;cases G;exact⟨by simpa using r,D,F⟩
def zfb (n:Nat)(h0:ai)(xs:List Value)(h:ai):Prop:=
 ∃(x y z:Value) (b:Nat) (t:TypeId),xs=[x,y,.pointer (some ⟨b,0,none⟩)]∧Ext h0 h∧(Own 1 h x n (List.replicate n RN)∧∀b,blk x b→h0.size≤b)∧(Own 1 h y n (List.replicate n RN)∧∀b,blk y b→h0.size≤b)∧
  (Own 1 h z n (List.replicate n RN)∧∀b,blk z b→h0.size≤b)∧(∀b,blk x b→¬blk y b)∧(∀b,blk x b→¬blk z b)∧(∀b,blk y b→¬blk z b)∧
  h[b]? =some (.cells #[z] t (0,0))∧h0.size≤b∧¬blk x b∧¬blk y b∧¬blk z b
theorem Mk3.made {n:Nat}{h0 h:ai}{rows:List Value}{t:TypeId}{b:Nat}{z:Value}(M:Mk3 n h0 rows (some (b,t,z)) h)(i j k:Nat){x y:Value}(A:rows[i]? =some x)(D:rows[j]? =some y)(G:rows[k]? =some z)(h1:i≠j)(h2:i≠k)(h3:j≠k):
  zfb n h0 [x,y,.pointer (some ⟨b,0,none⟩)] h:=by
 obtain⟨L,W,H⟩:=M.var _ rfl;simp only at L W H;have dis:∀(i j:Nat) (x y:Value),rows[i]? =some x→rows[j]? =some y→i≠j→∀b,blk x b→¬blk y b:=by
  intro i j x y A D aa b hb F;obtain⟨li,U⟩:=M7.1 A;obtain⟨I,ej⟩:=M7.1 D;rcases pT i j with h|h
  ·have:=vA.1 M.dis i j li I h b (by rw[U];exact hb);rw[ej]at this;exact this F
  ·have:=vA.1 M.dis j i I li ae b (by rw[ej];exact F);rw[U]at this;exact this hb
 exact⟨x,y,z,b,t,rfl,M.ext,M.own x (vI A),M.own y (vI D),M.own z (vI G),dis i j x y A D h1,dis i k x z A G h2,dis j k y z D G h3,L,W,H x (vI A),H y (vI D),H z (vI G)⟩
theorem Own.at_map {h:ai}{v:Value}{n:Nat}{g:Nat→Int}(H:Own 1 h v n ((List.range n).map λi=>af (g i))){k:IntKind}{i:Nat}(hi:i<n):
  ∃p,bh 1 v (.int k (i:Int))=some p∧ldV h p=some (af (g i))∧∀(x:Int) (K:Value→ai→Prop),
   (∀h',Own 1 h' v n ((List.range n).map λj=>af (if j=i then x else g j))→Fr (blk v) h h'→K undef h')→stK 1 p (af x) h K:=by
 obtain⟨p,h1,A,D⟩:=Own.at1 H (k:=k) hi;refine⟨p,h1,by rw[A];simp,λx K F=>D _ _ rfl λh' o f _=>F h' ?_ f⟩;rw[Gm _ _ _ _ hi]at o;have e:(λj=>if j=i then af x else af (g j))=λj=>af (if j=i then x else g j):=by
  funext j;split<;>rfl
 rw[e]at o;exact o
theorem MR (n:Nat):List.replicate n RN=(List.range n).map λi=>af ((λ_=>0:Nat→Int) i):=by
 apply pU<;>simp
theorem zbq {h:ai}{a b:Int}:ag prog nh #[af a,af b] h λr h'=>(∃c:Int,r=af c∧(c<0↔a<b))∧h'=h:=by
 have A:∀{x:Int} {h:ai},ag prog lP #[af x] h λr h'=>r=.bool false∧h'=h:=by
  intro x h;apply Ha;unfold wY
  try simp only[go_sem]
  exact⟨by simp,by simp⟩
 apply Dn;unfold tJ;refine A.mono λF h1 ⟨D,w1⟩=>?_
 subst D w1;refine A.mono λF h1 ⟨D,w1⟩=>?_
 subst D w1
 try simp only[go_sem]
 refine aq (λh0=>⟨⟨-1,rfl,ae⟩,by first|rfl|trivial⟩) (λh0=>?_);refine aq (λh0=>⟨⟨1,rfl,ae⟩,by first|rfl|trivial⟩) (λh0=>⟨⟨0,rfl,ae⟩,by first|rfl|trivial⟩)
def ze8 (b:Nat)(t:TypeId)(z:Value)(n:Nat)(r:Nat→Int)(h:ai):Prop:=h[b]? =some (.cells #[z] t (0,0))∧Own 1 h z n ((List.range n).map λi=>Value.int .i64 (r i))
theorem zcM {v z:Value}{b n:Nat}{t:TypeId}{r:Nat→Int}(h1:¬blk v b)(h2:∀b,blk v b→¬blk z b):Mp v (.func (.func mX) #[] #[.pointer (some ⟨b,0,none⟩)]) (ze8 b t z n r) r n where
 call:=λ{h a c K} ⟨D,A⟩ ha hc H=>by
  rw[clK_2];apply Dc;unfold tt;obtain⟨p,L,U,_⟩:=Own.at_map A (k:=.i64) ha;obtain⟨q,I,G,_⟩:=Own.at_map A (k:=.i64) hc;have F:ldV h (.pointer (some ⟨b,0,none⟩))=some z:=by rw[dn,ao D];rfl
  refine aQ (λh'=>h'=h) rfl ?_;refine aF z (λh' e=>by rw[e];exact F) ?_;simp only[go_sem,I];refine aF _ (λh' e=>by rw[e];exact G) ?_;refine aF z (λh' e=>by rw[e];exact F) ?_;simp only[go_sem,L];refine aF _ (λh' e=>by rw[e];exact U) ?_;refine zbq.mono λw h' ⟨⟨m,e,W⟩,hh⟩=>?_
  subst e hh;exact H m W
 fr:=λ{h h'} ⟨D,A⟩ f=>⟨f.row D h1,A.fr f λk hk hb=>h2 k hb hk⟩
theorem zdM {l:List Int}{S:List Nat}(F:S.Perm (List.range l.length))(I:S.Pairwise (dI (eK l))){k i:Nat}(G:k<S.length)(hi:i<l.length):(if(mN (eK l) l.length i:Int)<((k+1:Nat):Int)then(1:Int)else 0)=if i=S[k]then(if(mN (eK l) l.length i:Int)<(k:Int)then(1:Int)else 0)+1 else if(mN (eK l) l.length i:Int)<(k:Int)then 1 else 0:=by
 have H:=LX F I G;have D:S[k]<l.length:=by have:=F.mem_iff.1 (cQ G);simpa using this
 by_cases A:i=S[k]
 ·rw[aB A,A,H,aB ae,aA ae];rfl
 ·rw[aA A];have:mN (eK l) l.length i≠k:=λe=>A (Jh hi D (e.trans H.symm))
  by_cases h:mN (eK l) l.length i<k
  ·rw[aB ae,aB ae]
  ·rw[aA ae,aA ae]
theorem DN {Z:Nat→Prop}{h:ai}{v:Value}{l:List Int}(H:SlI Z h v l)(W:∀x∈l,I64 x)(hl:l.length<4611686018427387904):
  ag prog kf #[v] h λr h'=>∃u,r=.tuple #[u,af (dj l)]∧New (Rp.int .i64) h h' u (cC l):=by
 apply Ji;unfold xT;refine(WR H W hl).mono λv1 h1 ⟨e1,w1⟩=>?_
 subst e1 w1;obtain⟨a,cap,e⟩:=H.isSl;have e2:aD v=some (af (l.length:Int)):=by rw[e];rfl
 simp only[me,ah];unfold cC;by_cases hc:¬dj l=0
 ·have q:(dj l=0)=False:=gk hc;rw[aA hc];simp only[go_sem,q];exact⟨_,rfl,New.nil (Ext.refl _)⟩
 have hc:dj l=0:=cA hc;have G:=zco W hc;have q:(dj l=0)=True:=jZ hc;rw[aB hc];simp only[go_sem,q];refine(SG H W hl).mono λv1 h1 ⟨e1,w1⟩=>?_
 subst e1 w1;have hn:=G.len;refine bB (zfb l.length h1) ?_ ?_
 ·refine aQ (Ext h1) (Ext.refl _) ?_;refine aF _ (λh' _=>e2) ?_;refine aF _ (λh' _=>e2) ?_;refine aF _ (λh' _=>e2) ?_;have M0:=Mk3.start l.length h1
  repeat' first
   |exact Mk3.ext ‹Mk3 _ _ _ _ _›
   |exact Mk3.made ‹Mk3 _ _ _ _ _› 0 1 2 rfl rfl rfl (by decide) (by decide) (by decide)
   |exact Mk3.made ‹Mk3 _ _ _ _ _› 0 2 1 rfl rfl rfl (by decide) (by decide) (by decide)
   |exact Mk3.made ‹Mk3 _ _ _ _ _› 1 0 2 rfl rfl rfl (by decide) (by decide) (by decide)
   |exact Mk3.made ‹Mk3 _ _ _ _ _› 1 2 0 rfl rfl rfl (by decide) (by decide) (by decide)
   |exact Mk3.made ‹Mk3 _ _ _ _ _› 2 0 1 rfl rfl rfl (by decide) (by decide) (by decide)
   |exact Mk3.made ‹Mk3 _ _ _ _ _› 2 1 0 rfl rfl rfl (by decide) (by decide) (by decide)
   |refine And.intro ?_ ?_
   |refine Mk3.mkr ‹Mk3 _ _ _ _ _› hn λv' h' M=>?_
   |refine Mk3.nw ‹Mk3 _ _ _ _ _› λb' h' M=>?_
   |refine Mk3.st ‹Mk3 _ _ _ _ _› (by simp) λh' M=>?_
 rintro xs ρj I ⟨x,y,z,b,t,rfl,E2,⟨ox,fx⟩,⟨oy,fy⟩,⟨oz,fz⟩,F,al,U,hb,cb,nx,ny,nz⟩;simp only[iq,vN,zck,e2,ah];have s1:=G.sum;have ar:=Vj l
 -- quotients and rests
 refine bO l.length 0 (λk (_:Unit)=>[af (xi l k),af (k:Int)]) (λk _ h'=>Ext h1 h'∧Own 1 h' x l.length ((List.range l.length).map λi=>af (if i<k then gW l i else 0))∧
   Own 1 h' y l.length ((List.range l.length).map λi=>af (if i<k then(i:Int)else 0))∧Own 1 h' z l.length ((List.range l.length).map λi=>af (if i<k then eK l i else 0))∧h'[b]? =some (.cells #[z] t (0,0))) () rfl (bZ _)
  ⟨E2,by rw[MR]at ox;simpa using ox,by rw[MR]at oy;simpa using oy,by rw[MR]at oz;simpa using oz,hb⟩ λk _ h3 again ρj2 _ hk ⟨E3,o1,o2,o3,D⟩ a9=>?_
 try simp only[go_sem]
 refine aq (λh0=>?_) (λh0=>?_)
 ·have A:k<l.length:=ae;have H3:=H.ext E3;obtain⟨p,e3,e4⟩:=H3.int_at (k':=.i64) A;simp only[go_sem,e3,e4];have eg:l.getD k 0=l[k]:=by simp[dr,A]
  have L:=G.small k;rw[eg]at L;refine aQ (λh'=>h'[b]? =some (.cells #[z] t (0,0))) D ?_;refine aF z (λh' e=>by rw[ao e];rfl) ?_;rw[w64 (n:=l[k]*16384) ae ae];refine(Nx (by unfold I64;omega) ar).mono λv1 h4 ⟨e5,w5⟩=>?_
  subst e5 w5;refine⟨D,?_⟩;rw[rO (by unfold I64;omega) ae];refine(zde (by unfold I64;omega) ar ae).mono λv1 h4 ⟨e5,w5⟩=>?_
  subst e5 w5;refine⟨D,?_⟩;have eb:l[k]*16384/nW l=gW l k:=by unfold gW;rw[eg]
  have er:l[k]*16384%nW l=eK l k:=by unfold eK;rw[eg]
  rw[eb,er];obtain⟨px,x1,x2,x3⟩:=Own.at_map o1 (k:=.i64) A;simp only[go_sem,x1];refine x3 _ _ λh5 b4 f5=>?_
  have be:=o3.fr f5 λc hc L=>al c L hc
  have bk:=o2.fr f5 λc hc L=>F c L hc
  have am:=f5.row D nx;refine⟨am,?_⟩;obtain⟨pz,z1,z2,z3⟩:=Own.at_map be (k:=.i64) A;simp only[go_sem,z1];refine z3 _ _ λh6 b6 f6=>?_
  have b5:=bk.fr f6 λc hc hz=>U c hc hz
  have b3:=b4.fr f6 λc hc hz=>al c hc hz
  have bv:=f6.row am nz;obtain⟨py,y1,y2,y3⟩:=Own.at_map b5 (k:=.i64) A;simp only[go_sem,y1];refine y3 _ _ λh7 bg f7=>?_
  have an:=b3.fr f7 λc hc hy=>F c hc hy
  have bo:=b6.fr f7 λc hc hy=>U c hy hc
  have b2:=f7.row bv ny;obtain⟨ci,ax,au,_⟩:=Own.at_map an (k:=.i64) A;rw[x1]at ax;cases ax;simp only[cV]at au;have a8:=Aj G k;have ca:=Pq G k;simp only[go_sem,x1,au];rw[w64 (n:=xi l k-gW l k) ae ae,w64 (n:=(k:Int)+1) ae ae];have E7:Ext h1 h7:=((E3.then_fr f5 fx).then_fr f6 fz).then_fr f7 fy;refine a9 () h7 A ⟨E7,?_,?_,?_,b2⟩
  ·have e:(List.range l.length).map (λj=>af (if j=k then gW l k else if j<k then gW l j else 0))=(List.range l.length).map λi=>af (if i<k+1 then gW l i else 0):=ch λi _=>by
    congr 1
    by_cases h1:i=k
    ·subst h1;simp
    ·rw[aA h1];by_cases I:i<k
     ·rw[aB I,aB ae]
     ·rw[aA I,aA ae]
   rw[←e];exact an
  ·have e:(List.range l.length).map (λj=>af (if j=k then(k:Int)else if j<k then(j:Int)else 0))=(List.range l.length).map λi=>af (if i<k+1 then(i:Int)else 0):=ch λi _=>by
    congr 1
    by_cases h1:i=k
    ·subst h1;simp
    ·rw[aA h1];by_cases I:i<k
     ·rw[aB I,aB ae]
     ·rw[aA I,aA ae]
   rw[←e];exact bg
  ·have e:(List.range l.length).map (λj=>af (if j=k then eK l k else if j<k then eK l j else 0))=(List.range l.length).map λi=>af (if i<k+1 then eK l i else 0):=ch λi _=>by
    congr 1
    by_cases h1:i=k
    ·subst h1;simp
    ·rw[aA h1];by_cases I:i<k
     ·rw[aB I,aB ae]
     ·rw[aA I,aA ae]
   rw[←e];exact bo
 ·have a7:k=l.length:=ae;subst a7;have o1:Own 1 h3 x l.length ((List.range l.length).map λi=>af (gW l i)):=by
   rw[←ch (g:=λi=>af (if i<l.length then gW l i else 0)) (λi hi=>by rw[aB hi])];exact o1
  have o3:Own 1 h3 z l.length ((List.range l.length).map λi=>af (eK l i)):=by
   rw[←ch (g:=λi=>af (if i<l.length then eK l i else 0)) (λi hi=>by rw[aB hi])];exact o3
  have o2:Own 1 h3 y (List.range' 0 l.length).length ((List.range' 0 l.length).map iv):=by
   rw[Uh,←UA,←ch (g:=λi=>af (if i<l.length then(i:Int)else 0)) (λi hi=>by rw[aB hi])];exact o2
  have IX:eN y (ze8 b t z l.length (eK l)) l.length h3 (List.range' 0 l.length):=⟨o2,⟨D,o3⟩,by simpa using hl,λi hi=>by simpa using hi⟩
  refine(UO (zcM ny U) IX hn).mono λw h4 ⟨S,hp,hs,bd,f4⟩=>?_
  obtain⟨L0,L1⟩:=left_bd G;obtain⟨m,hm⟩:∃m:Nat,Ae l=(m:Int):=⟨(Ae l).toNat,ae⟩
  have cc:S.length=l.length:=by rw[hp.length_eq];simp
  obtain⟨v',q1,q2,q3⟩:=RU 1 bd.own (k:=.i64) (hi:=m) ae;have o1:=o1.fr f4 λc hc hy=>F c hc hy
  have b1:xi l l.length=(m:Int):=hm;rw[b1,q1,ah];obtain⟨a',b8,e'⟩:=q2.isSl;have b0:aD v'=some (af (m:Int)):=by rw[e'];rfl
  rw[b0,ah];refine bO m 0 (λk (_:Unit)=>[af (k:Int)]) (λk _ h'=>Ext h1 h'∧Own 1 h' x l.length ((List.range l.length).map λi=>af (gW l i+(if(mN (eK l) l.length i:Int)<(k:Int)then 1 else 0)))∧Fr (blk x) h4 h') () rfl (bZ _)
   ⟨E3.then_fr f4 fy,by
    rw[ch (f:=λi=>af (gW l i)) (λi hi=>by rw[aA ae,Int.add_zero])];exact o1,Fr.refl _ _⟩ λk _ h5 ay ρj5 _ hk ⟨E5,o5,f5⟩ aa=>?_
  try simp only[go_sem]
  refine aq (λh6=>?_) (λh6=>?_)
  ·have A:k<m:=ae;have q5:=q2.fr f5 λc _ hc L=>F c L (q3 c hc)
   obtain⟨p,p1,p2⟩:=q5.at1 (k:=.i64) A;have ad:k<S.length:=ae;have p2:ldV h5 p=some (iv S[k]):=by
    rw[p2];simp
   have b7:S[k]<l.length:=by have:=hp.mem_iff.1 (cQ ad);simpa using this
   obtain⟨px,x1,x2,x3⟩:=Own.at_map o5 (k:=.i64) b7;simp only[go_sem,p1,p2,x1,x2];have a8:=Aj G S[k];rw[w64 (n:=gW l S[k]+(if(mN (eK l) l.length S[k]:Int)<(k:Int)then 1 else 0)+1) (by split<;>omega) (by split<;>omega)];refine x3 _ _ λh7 o7 f7=>?_
   rw[w64 (n:=(k:Int)+1) ae ae];refine aa () h7 A ⟨E5.then_fr f7 fx,?_,f5.trans f7⟩;rw[ch (f:=λj=>af (if j=S[k]then gW l S[k]+(if(mN (eK l) l.length S[k]:Int)<(k:Int)then 1 else 0)+1 else gW l j+if(mN (eK l) l.length j:Int)<(k:Int)then 1 else 0)) (λi hi=>by
    rw[zdM hp hs ad hi]
    congr 1
    by_cases he:i=S[k]
    ·rw[aB he,aB he,←he];omega
    ·rw[aA he,aA he])]
   exact o7
  ·have:k=m:=ae;subst this;refine⟨x,by rw[hc],⟨(nV l).map λn=>af n,?_,λc _=>id,λi hi=>?_⟩,E5,fx⟩
   ·rw[rD];unfold nV;rw[AZ];simp only[←hm]at o5;exact o5
   ·have e:Rp.el (Rp.int .i64).w ((nV l).map λn=>af n) i=[af (nV l)[i]]:=by
     have:=Rp.el_one (ds:=(nV l).map λn=>af n) (i:=i) (by simpa using hi);rw[eE]at this;exact this
    exact e
theorem zbr {h:ai}{x y:Nat}(D:x<18446744073709551616)(A:y<18446744073709551616):
  ag prog uL #[.int .u64 (x:Int),.int .u64 (y:Int)] h λr h'=>r=.tuple #[.int .u64 ((x*y/18446744073709551616:Nat):Int),.int .u64 ((x*y%18446744073709551616:Nat):Int)]∧h'=h:=by
 apply K7;unfold zU;rw[cg];refine(U0 D A).mono λv h1 ⟨e,w⟩=>?_
 subst e w
 try simp only[go_sem]
 exact⟨by simp,by simp⟩
theorem zbW (n:Nat)(x:Int):List.replicate n (af x)=(List.replicate n x).map λn=>af n:=by simp
theorem Za {k:IntKind}{h:ai}{v:Value}{l:List Int}(H:Own 1 h v l.length (l.map λn=>Value.int k n)):Rp.Ow (Rp.int k) (λ_=>False) h v l:=
 ⟨l.map λn=>Value.int k n,H,λc _=>id,λi hi=>by
  have:=Rp.el_one (ds:=l.map λn=>Value.int k n) (i:=i) (by simpa using hi);rw[eE]at this;exact this⟩
theorem zbu {Z:Nat→Prop}{h:ai}{v:Value}{x:Int}{n:Nat}(H:SlI Z h v [x])(hn:1≤n)(an:n≤4096):
  ag prog gy #[v,af (n:Int)] h λr h'=>New (Rp.int .i64) h h' r (List.replicate n x):=by
 apply qN;unfold jJ;have F:((n:Int)<0)=False:=gk ae;simp only[go_sem,F];refine bB (λ_ h'=>h'=h) rfl λG ρj h' e=>?_
 subst e;obtain⟨ds,hs,hz,he⟩:=H;have L:=hs.1;have hd:ds=[af x]:=by
  have h1:=he 0 (by simp);have U:ds.length=1:=by simpa[Rp.int]using L
  obtain⟨d,rfl⟩:=Uj.1 U;exact h1
 subst hd;obtain⟨a,cap,ev⟩:=hs.isSl;have e2:aD v=some (af ((1:Nat):Int)):=by rw[ev];rfl
 simp only[go_sem,e2];rw[gF ae,gF (m:=n) ae];refine(zbr (x:=1) (y:=n) ae ae).mono λw h1 ⟨e,hh⟩=>?_
 subst e hh
 try simp only[go_sem]
 rw[show 1*n/18446744073709551616=0 by omega,show 1*n%18446744073709551616=n by omega];refine bB (λ_ h'=>h'=h1) ?_ λG ρj2 h2 e=>?_
 ·refine aq (λh0=>absurd h0 ae) (λ_=>rfl)
 subst e
 try simp only[go_sem]
 rw[w64 (n:=(n:Int)) ae ae];refine pN rfl ae ae λu h3 o e f=>?_
 have ad:SlC 1 h3 v 1 [af x]:=hs.ext e;refine Ku o ad (by simp[aV]) λh4 o4 f4 z4=>?_
 have E4:Ext h2 h4:=e.then_fr f4 f;have D:Nat.min 1 n=1:=vF hn;rw[D];obtain⟨a2,al,eu⟩:=o4.isSl;have e3:aD u=some (af (n:Int)):=by rw[eu];rfl
 have st:Own 1 h4 u n (List.replicate 1 (af x)++List.replicate (n-1) aj):=by
  have e:[af x].take n++(List.replicate n (af 0)).drop 1=List.replicate 1 (af x)++List.replicate (n-1) aj:=by
   rw[fg (by simpa using hn),Zq];rfl
  rw[←e];exact o4
 refine dy (λd G h'=>∃m:Nat,d=n-m∧G=[af (m:Int)]∧1≤m∧m≤n∧Ext h2 h'∧Own 1 h' u n (List.replicate m (af x)++List.replicate (n-m) aj)) (n-1) ⟨1,rfl,rfl,ck _,hn,E4,st⟩ ?_;rintro d G ρj3 h5 again ⟨m,rfl,rfl,am,W,E5,o5⟩ aa;simp only[iq,e3,ah,cI];refine aq (λh0=>?_) (λh0=>?_)
 ·refine aQ (λh'=>h'=h5) rfl ?_;obtain⟨w,w1,I,w3⟩:=RU 1 o5 (k:=.i64) (hi:=m) W;have I:SlC 1 h5 w m (List.replicate m (af x)):=by
   have e:(List.replicate m (af x)++List.replicate (n-m) (af 0)).take (m*1)=List.replicate m (af x):=by
    rw[lW,JU (by simp),fg (by simp)]
   rw[e]at I;exact I
  obtain⟨d,d1,d2⟩:=zcK o5 (show m<n by omega) I (λy hy=>by rw[(M6.1 hy).2];rfl) (kk:=.i64);rw[d1,ah,w1,ah];refine d2 _ λh6 o6 f6=>?_
  have A:Nat.min m (n-m)=min m (n-m):=rfl;rw[A,dD,ah,w64 ae ae,show(m:Int)+((min m (n-m):Nat):Int)=((m+min m (n-m):Nat):Int)by omega];refine aa _ h6 (n-(m+min m (n-m))) ae ⟨m+min m (n-m),rfl,rfl,ae,ae,E5.then_fr f6 f,?_⟩;have e:(List.replicate m (af x)++List.replicate (n-m) (af 0)).take m++(List.replicate m (af x)).take (n-m)++(List.replicate m (af x)++List.replicate (n-m) (af 0)).drop (m+m)
    =List.replicate (m+min m (n-m)) (af x)++List.replicate (n-(m+min m (n-m))) aj:=by
   rw[JU (by simp),fg (by simp),List.take_replicate,Nj,oC (by simp),eZ,Zq,xc,List.replicate_append_replicate,Nat.min_comm]
   congr 2;omega
  rw[←e];exact o6
 ·have:m=n:=ae;subst this;refine⟨Za ?_,E5,f⟩;rw[xc,←zbW];simpa using o5
def vQ (r:Int):Prop:=r<0∨511<r
instance (r:Int):Decidable (vQ r):=by unfold vQ;infer_instance
def S0 (r:Int):Int:=if vQ r then 7 else Ci (List.replicate (2*r+1).toNat 1)
def Ai (r:Int):List Int:=if vQ r then[]else te (List.replicate (2*r+1).toNat 1)
theorem SZ (r:Int):∀x∈Ai r,I64 x:=by
 unfold Ai;split
 ·simp
 ·exact KG _
theorem zf6 {h:ai}{r:Int}(U:I64 r):ag prog DU #[af r] h λw h'=>∃u,w=.tuple #[u,af (S0 r)]∧New (Rp.int .i64) h h' u (Ai r):=by
 apply Ts;unfold Is
 try simp only[go_sem]
 unfold S0 Ai;refine aq (λh0=>?_) (λh0=>?_)
 ·have:vQ r:=h0;rw[aB this,aB this];exact⟨_,rfl,New.nil (Ext.refl _)⟩
 ·have D:¬vQ r:=h0;rw[aA D,aA D];refine cT (Rp.fill_one rfl) λb h1 r1 H W=>?_
  rw[w64 (n:=2*r) ae ae]
  try simp only[go_sem]
  rw[w64 (n:=2*r+1) ae ae];have I:SlI (λ_=>True) h1 (.slice (some ⟨b,0,none⟩) 1 1) [1]:=⟨[af 1],Rp.SlC.single (cs:=[af 1]) r1,λ_ _ _=>trivial,λi hi=>by
   have:i=0:=by simpa using hi
   subst this;rfl⟩
  obtain⟨N,G⟩:∃N:Nat,N=(2*r+1).toNat:=⟨_,rfl⟩
  rw[←G,show 2*r+1=(N:Int)by omega];refine(zbu I (n:=N) ae ae).mono λv h2 A=>?_
  refine(HG A.sl (λx L=>by rw[(M6.1 L).2];unfold I64;omega) (by rw[xc];omega)).mono λw h3 ⟨u,e,F⟩=>?_
  subst e
  try simp only[go_sem]
  exact⟨u,rfl,F.before (H.trans A.2.1)⟩
end Go.Proofs.YtjljhnandbbldaaGreatDoor
namespace Go.Crisp
open Go
theorem ii (c:Array Value):aR c []=some c:=rfl
theorem A5 {a b x y:Value}(A:aV a=true)(D:aV b=true):aR #[x,y] [(0,1,a),(1,1,b)]=some #[a,b]:=by
 simp only[aR,cJ A,cJ D];rfl
theorem ZT {a x y z w:Value}(A:aV a=true):aR #[x,y,z,w] [(0,1,a)]=some #[a,y,z,w]:=by
 simp only[aR,cJ A];rfl
def bT (ls:List (Int×List Int)):Int:=ls.foldl (λm x=>max m (x.2.length:Int)) 0
def NI (ls:List (Int×List Int)):Int:=ls.foldl (λm x=>max m (oe x.2)) 0
theorem Hh (ls:List (Int×List Int))(x:Int×List Int):bT (ls++[x])=max (bT ls) (x.2.length:Int):=by unfold bT;rw[AM];rfl
theorem XC (ls:List (Int×List Int))(x:Int×List Int):NI (ls++[x])=max (NI ls) (oe x.2):=by unfold NI;rw[AM];rfl
def ns:Rp (Int×List Int) where
 w:=2
 R:=λZ h cs x=>∃v,cs=[.int .i64 x.1,v]∧Rp.Sl (Rp.int .i64) Z h v x.2
 len:=by rintro _ _ _ _ ⟨v,rfl,_⟩;rfl
 one:=by
  rintro _ _ _ _ ⟨v,rfl,H⟩ u hu;rcases List.mem_cons.1 hu with rfl|hu
  ·rfl
  ·rw[List.mem_singleton.1 hu];exact H.one
 fr:=by rintro _ _ _ _ _ _ ⟨v,rfl,H⟩ f q;exact⟨v,rfl,H.fr f q⟩
 mono:=by rintro _ _ _ _ _ ⟨v,rfl,H⟩ q;exact⟨v,rfl,H.mono q⟩
def zdu (v:Value):Prop:=∃a n c,v=.slice a n c∧n≤c
theorem Rp.Ow.cap {α:Type}{e:Rp α}{Z:Nat→Prop}{h:ai}{v:Value}{l:List α}(H:Rp.Ow e Z h v l):zdu v:=by
 obtain⟨ds,o,_⟩:=H;rcases o with⟨rfl,_,_⟩|⟨b,cap,r,e,rfl,hc,_⟩
 ·exact⟨_,_,_,rfl,ck _⟩
 ·exact⟨_,_,_,rfl,hc⟩
structure Tbl where
 n:Int
 lines:List (Int×List Int)
def rTbl:Rp Tbl where
 w:=4
 R:=λZ h cs t=>∃lv,cs=[.int .i64 t.n,lv,.int .i64 (bT t.lines),.int .i64 (NI t.lines)]∧Rp.Sl ns Z h lv t.lines∧zdu lv
 len:=by rintro _ _ _ _ ⟨v,rfl,_⟩;rfl
 one:=by
  rintro _ _ _ _ ⟨v,rfl,H,_⟩;exact az rfl (az H.one (az rfl (az rfl aU)))
 fr:=by rintro _ _ _ _ _ _ ⟨v,rfl,H,c⟩ f q;exact⟨v,rfl,H.fr f q,c⟩
 mono:=by rintro _ _ _ _ _ ⟨v,rfl,H,c⟩ q;exact⟨v,rfl,H.mono q,c⟩
abbrev gd (Z:Nat→Prop)(h:ai)(p:Value)(t:Tbl):Prop:=Rp.Pt rTbl Z h p t
theorem gd.open {Z:Nat→Prop}{h:ai}{p:Value}{t:Tbl}(H:gd Z h p t):∃b lv,p=.pointer (some ⟨b,0,none⟩)∧aE h ⟨b,0,none⟩=some (af t.n)∧aE h ⟨b,1,none⟩=some lv∧aE h ⟨b,2,none⟩=some (af (bT t.lines))∧
  aE h ⟨b,3,none⟩=some (af (NI t.lines))∧Rp.Sl ns Z h lv t.lines∧Z b∧b<h.size∧zdu lv:=by
 obtain⟨b,ds,ty,rfl,r,A,lv,rfl,D,hc⟩:=H;exact⟨b,lv,rfl,ao r,ao r,ao r,ao r,D,A,aW r,hc⟩
structure Gy (h0:ai)(Z:Nat→Prop)(h:ai)(b:Nat)(ty:TypeId)(lv:Value)(n:Int)(ls:List (Int×List Int)):Prop where
 ext:Ext h0 h
 row:h[b]? =some (.cells #[.int .i64 n,lv,.int .i64 (bT ls),.int .i64 (NI ls)] ty (0,0))
 ow:Rp.Ow ns Z h lv ls
 nb:h0.size≤b
 nl:∀c,blk lv c→h0.size≤c
 zb:¬Z b
 lb:¬blk lv b
 zf:∀c,Z c→h0.size≤c∧c<h.size
theorem Gy.more {h0 h:ai}{Z Z':Nat→Prop}{b:Nat}{ty:TypeId}{lv:Value}{n:Int}{ls:List (Int×List Int)}{h':ai}(T:Gy h0 Z h b ty lv n ls)(e:Ext h h')(q:∀c,Z c→Z' c)(D:∀c,Z' c→¬Z c→h.size≤c∧c<h'.size):Gy h0 Z' h' b ty lv n ls where
 ext:=T.ext.trans e
 row:=e.row T.row
 ow:=(T.ow.ext e).mono (λc _ A=>q c A) λc hc A=>by
  by_cases h1:Z c
  ·obtain⟨ds,_,F,_⟩:=T.ow;exact F c hc h1
  ·have:=D c A h1;have:=T.ow.lt hc;omega
 nb:=T.nb
 nl:=T.nl
 zb:=λA=>by
  by_cases h1:Z b
  ·exact T.zb h1
  ·have:=D b A h1;have:=aW T.row;omega
 lb:=T.lb
 zf:=λc A=>by
  by_cases h1:Z c
  ·have:=T.zf c h1;have:=e.1;omega
  ·have:=D c A h1;have:=T.ext.1;omega
theorem Gy.done {h0 h:ai}{Z:Nat→Prop}{b:Nat}{ty:TypeId}{lv:Value}{n:Int}{ls:List (Int×List Int)}(T:Gy h0 Z h b ty lv n ls):gd (λc=>h0.size≤c∧c<h.size) h (.pointer (some ⟨b,0,none⟩)) ⟨n,ls⟩:=
 ⟨b,[_,_,_,_],ty,rfl,T.row,⟨T.nb,aW T.row⟩,lv,rfl,T.ow.sl.mono λc _ hc=>by
  rcases hc with hc|hc
  ·exact T.zf c hc
  ·exact⟨T.nl c hc,T.ow.lt hc⟩,T.ow.cap⟩
end Go.Crisp
namespace Go.Proofs.YtjljhnandbbldaaGreatDoor
open Go Go.Crisp
attribute [local irreducible] ag cO aT stK aG vK qK bL gK eM bC mkK cR HA JA Ep bsK clK
open _root_.Go.Proofs.Tryz
theorem DG {h:ai}{n:Int}:ag prog qg #[af n] h λr h'=>r=.bool (decide (1≤n∧n≤65536))∧h'=h:=by
 apply QQ;unfold Fx
 try simp only[go_sem]
 exact⟨by simp,by simp⟩
theorem P4 {h0 h:ai}{Z:Nat→Prop}{b:Nat}{ty:TypeId}{lv u:Value}{n first:Int}{ls:List (Int×List Int)}{l:List Int}(T:Gy h0 Z h b ty lv n ls)(H:SlI Z h u l)(aa:∀x∈l,I64 x)(hl:l.length<1048577)(ad:ls.length≤65536):
  ag prog lL #[.pointer (some ⟨b,0,none⟩),af first,u] h λ_ h'=>∃D,Gy h0 Z h' b ty D n (ls++[(first,l)])∧Fr (λc=>c=b∨blk lv c) h h':=by
 apply GQ;unfold wH;have c1:aE h ⟨b,1,none⟩=some lv:=ao T.row;obtain⟨au,cu,eu⟩:=H.isSl;have L:aD u=some (af (l.length:Int)):=by rw[eu];rfl
 simp only[go_sem,c1,A5 (a:=af first) (b:=u) rfl H.one,cU];refine Rp.push_ow (e:=ns) (cs:=[af first,u]) (x:=(first,l)) T.ow ⟨u,rfl,H⟩ rfl rfl ae ae (λc hc=>(T.zf c hc).2) λD h1 o1 f1 n1=>?_
 have r1:=f1.row T.row T.lb;have G:¬blk D b:=λhb=>by
  rcases n1 b hb with A|A
  ·exact T.lb A
  ·have:=aW T.row;omega
 obtain⟨al,cl,el⟩:=o1.isSl
 try simp only[go_sem]
 refine bG r1 (by simp) (by rw[el];rfl) λA r2 u2=>?_
 have c2:aE A ⟨b,2,none⟩=some (af (bT ls)):=ao r2;simp only[go_sem,c2,L];refine bG r2 (by simp) rfl λI r3 u3=>?_
 have c3:aE I ⟨b,3,none⟩=some (af (NI ls)):=ao r3;refine aQ (λh'=>h'=I) rfl ?_
 try simp only[go_sem]
 refine aF _ (λh' e=>by rw[e];exact c3) ?_;have F3:Fr (λc=>c=b∨blk lv c) h I:=((f1.mono λc _ hc=>.inr hc).trans (u2.fr.mono λc _ hc=>.inl hc)).trans (u3.fr.mono λc _ hc=>.inl hc);have H3:SlI Z I u l:=H.fr F3 λc hc F W=>by
  rcases W with rfl|W
  ·exact T.zb F
  ·obtain⟨ds,_,A,_⟩:=T.ow;exact A c W F
 refine(Mh H3 aa ae).mono λw h4 ⟨e4,w4⟩=>?_
 subst e4 w4;refine⟨rfl,?_⟩;refine aF _ (λh' _=>Pk _ _ _) ?_;refine bG r3 (by simp) rfl λh5 r5 u5=>?_
 have U:=F3.trans (u5.fr.mono (M':=λc=>c=b∨blk lv c) λc _ hc=>.inl hc);refine⟨D,⟨?_,?_,?_,T.nb,?_,T.zb,G,?_⟩,U⟩
 ·exact T.ext.then_fr U λc hc=>by
   rcases hc with rfl|hc
   ·exact T.nb
   ·exact T.nl c hc
 ·rw[Hh,XC];simpa using r5
 ·have g:Fr (λc=>c=b) h1 h5:=(u2.fr.trans u3.fr).trans u5.fr;exact o1.fr g (λc _ F he=>T.zb (he▸F)) λc hc he=>G (he▸hc)
 ·intro c hc;rcases n1 c hc with A|A
  ·exact T.nl c A
  ·exact bA T.ext.1 A
 ·intro c F;have:=T.zf c F;have:=U.1;omega
end Go.Proofs.YtjljhnandbbldaaGreatDoor
namespace Go.Proofs.YtjljhnandbbldaaGreatDoor
open Go Go.Crisp
attribute [local irreducible] ag cO aT stK aG vK qK bL gK eM bC mkK cR HA JA Ep bsK
open _root_.Go.Proofs.Tryz
abbrev Two (h:ai)(b:Nat)(t:TypeId)(x y:Value):Prop:=h[b]? =some (.cells #[x,y] t (0,0))
theorem Two.a {h:ai}{b:Nat}{t:TypeId}{x y:Value}(r:Two h b t x y):aE h ⟨b,0,none⟩=some x:=ao r
theorem Two.b {h:ai}{b:Nat}{t:TypeId}{x y:Value}(r:Two h b t x y):aE h ⟨b,1,none⟩=some y:=ao r
theorem Two.all {h:ai}{b:Nat}{t:TypeId}{x y:Value}(r:Two h b t x y):aM 2 h (.pointer (some ⟨b,0,none⟩))=some (.agg #[x,y]):=aL (l:=[x,y]) r 2 rfl
abbrev Big (h:ai)(b:Nat)(t:TypeId)(n:Nat):Prop:=Two h b t (.int .u64 ((n/18446744073709551616:Nat):Int)) (.int .u64 ((n%18446744073709551616:Nat):Int))
theorem Big.all {h:ai}{b:Nat}{t:TypeId}{n:Nat}(r:Big h b t n):aM 2 h (.pointer (some ⟨b,0,none⟩))=some (pZ n):=Two.all r
theorem iS (n:Nat):Value.cells (pZ n)=#[.int .u64 ((n/18446744073709551616:Nat):Int),.int .u64 ((n%18446744073709551616:Nat):Int)]:=rfl
theorem Es {n:Nat}(h:n<18446744073709551616):pZ n=.agg #[.int .u64 0,.int .u64 (n:Int)]:=by
 unfold pZ;rw[uw h,xf h];rfl
theorem Eh:pZ 0=.agg #[.int .u64 0,.int .u64 0]:=rfl
theorem zZ:pZ 1=.agg #[.int .u64 0,.int .u64 1]:=rfl
theorem jC {t:TypeId}{b:Nat}{h:ai}{x y:Value}{n:Nat}{K:Value→ai→Prop}(r:Two h b t x y)(A:∀h',Big h' b t n→Upd b h h'→K undef h'):stK 2 (.pointer (some ⟨b,0,none⟩)) (pZ n) h K:=
 bI (l:=[.int .u64 ((n/18446744073709551616:Nat):Int),.int .u64 ((n%18446744073709551616:Nat):Int)]) r rfl (az rfl (az rfl aU)) rfl A
theorem lF {t:TypeId}{h:ai}{n:Nat}{K:Value→ai→Prop}(H:∀b h',Big h' b t n→Ext h h'→h.size≤b→K (.pointer (some ⟨b,0,none⟩)) h'):aT #[.int .u64 0,.int .u64 0] t h λv A=>stK 2 v (pZ n) A λ_ D=>K v D:=
 cX (cs:=[.int .u64 ((n/18446744073709551616:Nat):Int),.int .u64 ((n%18446744073709551616:Nat):Int)]) rfl (az rfl (az rfl aU)) rfl H
theorem lG {a b x y:Int}:aR #[(.int .u64 x),(.int .u64 y)] [(0,1,(.int .u64 a)),(1,1,(.int .u64 b))]=some #[.int .u64 a,.int .u64 b]:=A5 rfl rfl
theorem zeh {b x y:Int}:aR #[(.int .u64 x),(.int .u64 y)] [(1,1,(.int .u64 b))]=some #[.int .u64 x,.int .u64 b]:=by
 simp only[aR,cJ (v:=.int .u64 b) rfl];rfl
theorem bH (c:Array Value):(some c).map Value.agg=some (.agg c):=rfl
theorem Kz {n:Nat}{x y:Int}(D:x=((n/18446744073709551616:Nat):Int))(A:y=((n%18446744073709551616:Nat):Int)):(Value.agg #[.int .u64 x,.int .u64 y])=pZ n:=by rw[D,A];rfl
theorem oT {h:ai}{n bit:Nat}(hb:bit≤1)(U:2*n+bit<340282366920938463463374607431768211456):
  ag prog fU #[pZ n,.int .u64 (bit:Int)] h λr h'=>r=pZ (2*n+bit)∧Ext h h':=by
 apply OD;unfold Cw;rw[iS];refine aI λb1 h1 r1 A L=>?_
 refine aI λI W r2 D H=>?_
 have r1:=D.row r1;simp only[go_sem,Two.a r1,Two.b r1];rw[show(1:Int)=((1:Nat):Int)from rfl,show(63:Int)=((63:Nat):Int)from rfl,xS _ ae,ah,nJ _ ae,ah,dD,ah,xS _ ae,ah,dD,ah,lG,bH,ah];rw[Kz (n:=2*n+bit) (by rw[fN];omega) (by rw[fN];omega)];refine jC r2 λh3 G F=>?_
 rw[G.all,ah];exact⟨rfl,(A.trans D).upd (bA A.1 H) F⟩
theorem DJ {h:ai}{m n:Nat}(hn:m+n<340282366920938463463374607431768211456):
  ag prog jq #[pZ m,pZ n] h λr h'=>r=pZ (m+n)∧Ext h h':=by
 apply Rl;unfold FV;rw[iS,iS];refine aI λb1 h1 r1 L n1=>?_
 refine aI λb2 h2 r2 G n2=>?_
 refine aI λb3 h3 A F n3=>?_
 have r1:=(G.trans F).row r1;have r2:=F.row r2;have l3:=aW A;simp only[go_sem,Two.a r1,Two.b r1,Two.a r2,Two.b r2];rw[lG,bH,ah];refine aI λH h4 r4 e4 n4=>?_
 refine bI (l:=[_,_]) r4 rfl (az rfl (az rfl aU)) rfl λh5 D u5=>?_
 have e5:=e4.upd n4 u5;have r1:=e5.row r1;have A:=e5.row A;simp only[fN]at D;simp only[go_sem,Two.a D,Two.b D,Two.b r1,fN];have e0:=L.trans (G.trans (F.trans e5));have k3:h.size≤b3:=bA (L.trans G).1 n3;have k4:h.size≤H:=bA (L.trans (G.trans F)).1 n4;have U:b3≠H:=ae;refine aq (λhc=>?_) (λhc=>?_)
 ·refine bG D (by simp) rfl λh6 r6 u6=>?_
  have A:=u6.row U A;have r6:Two h6 H _ (.int .u64 _) (.int .u64 _):=r6;rw[Two.all r6,ah];rw[Kz (n:=m+n) ae ae];refine jC A λh7 W I=>?_
  rw[W.all,ah];exact⟨rfl,(e0.upd k4 u6).upd k3 I⟩
 ·rw[Two.all D,ah];rw[Kz (n:=m+n) ae ae];refine jC A λh7 W I=>?_
  rw[W.all,ah];exact⟨rfl,e0.upd k3 I⟩
theorem SK {h:ai}{m n:Nat}(hm:m<340282366920938463463374607431768211456)(hn:n≤m):
  ag prog sT #[pZ m,pZ n] h λr h'=>r=pZ (m-n)∧Ext h h':=by
 apply OG;unfold Cz;rw[iS,iS];refine aI λb1 h1 r1 U n1=>?_
 refine aI λb2 h2 r2 G n2=>?_
 refine aI λb3 h3 A F n3=>?_
 have r1:=(G.trans F).row r1;have r2:=F.row r2;have l3:=aW A;simp only[go_sem,Two.a r1,Two.b r1,Two.a r2,Two.b r2];rw[lG,bH,ah];refine aI λI h4 r4 e4 n4=>?_
 refine bI (l:=[_,_]) r4 rfl (az rfl (az rfl aU)) rfl λh5 D u5=>?_
 have H:=e4.upd n4 u5;have r1:=H.row r1;have r2:=H.row r2;have A:=H.row A;simp only[fN]at D;simp only[go_sem,Two.a D,Two.b D,Two.b r1,Two.b r2,fN];have e0:=U.trans (G.trans (F.trans H));have k3:h.size≤b3:=bA (U.trans G).1 n3;have k4:h.size≤I:=bA (U.trans (G.trans F)).1 n4;have W:b3≠I:=ae;refine aq (λhc=>?_) (λhc=>?_)
 ·refine bG D (by simp) rfl λh6 r6 u6=>?_
  have A:=u6.row W A;have r6:Two h6 I _ (.int .u64 _) (.int .u64 _):=r6;rw[Two.all r6,ah];rw[Kz (n:=m-n) ae ae];refine jC A λh7 r7 L=>?_
  rw[r7.all,ah];exact⟨rfl,(e0.upd k4 u6).upd k3 L⟩
 ·rw[Two.all D,ah];rw[Kz (n:=m-n) ae ae];refine jC A λh7 r7 L=>?_
  rw[r7.all,ah];exact⟨rfl,e0.upd k3 L⟩
theorem DK {h:ai}{m n:Nat}:ag prog kJ #[pZ m,pZ n] h λr h'=>r=.bool (decide (m<n))∧Ext h h':=by
 apply Rn;unfold FX;rw[iS,iS];refine aI λI h1 r1 D G=>?_
 refine aI λL F r2 A H=>?_
 have r1:=A.row r1;simp only[go_sem,Two.a r1,Two.b r1,Two.a r2,Two.b r2];refine aq (λhc=>?_) (λhc=>?_)
 ·exact⟨by congr 1;exact iB.2 ae,D.trans A⟩
 ·exact⟨by congr 1;exact iB.2 ae,D.trans A⟩
theorem Lw {a:Nat}(A:a<18446744073709551616):ak .i .and (.int .u64 (a:Int)) (.int .u64 1)=some (.int .u64 ((a%2:Nat):Int)):=by
 have:=U6 A (b:=1) ae;rw[JY]at this;exact this
theorem ER {h:ai}{m i:Nat}(L:m<340282366920938463463374607431768211456)(hi:i<128):ag prog jr #[pZ m,af (i:Int)] h λr h'=>r=.int .u64 ((m/2^i%2:Nat):Int)∧Ext h h':=by
 apply TG;unfold IH;rw[iS];refine aI λI h1 r1 D H=>?_
 simp only[go_sem,Two.a r1,Two.b r1];refine aq (λhc=>?_) (λhc=>?_)
 ·rw[w64 (n:=(i:Int)-64) ae ae,show(i:Int)-64=((i-64:Nat):Int)by omega,nJ _ ae,ah];rw[Lw (uz (ka _ _) ae),ah];refine⟨?_,D⟩;have e:m/2^i=m/18446744073709551616/2^(i-64):=by
   rw[JT,show(18446744073709551616:Nat)=2^64 from rfl,←xe,show 64+(i-64)=i by omega]
  rw[e]
 ·rw [nJ _ ae,ah];rw[Lw (uz (ka _ _) (iO _ ae)),ah];refine⟨?_,D⟩;have F:(0:Nat)<2^i:=yu ae;have A:(18446744073709551616:Nat)=2^i*(2*2^(63-i)):=by rw[←Ug,←xe,show i+(63-i+1)=64 by omega]
  have D:m/2^i=m/18446744073709551616*(2*2^(63-i))+m%18446744073709551616/2^i:=by
   have e:=oD m 18446744073709551616;have G:m=m%18446744073709551616+2^i*(m/18446744073709551616*(2*2^(63-i))):=by
    have:2^i*(m/18446744073709551616*(2*2^(63-i)))=18446744073709551616*(m/18446744073709551616):=by
     conv=>rhs;rw[A]
     rw[Ez,fG,←A]
    rw[this];omega
   conv=>lhs;rw[G]
   rw[JQ _ _ F,EA]
  rw[D,Ez,MZ]
theorem uf {h:ai}{x:Int}(A:I64 x):ag prog gG #[af x] h λr h'=>r=.int .u64 (x.natAbs:Int)∧h'=h:=by
 apply Rk;unfold FU;simp only[go_sem,fN,jA];unfold I64 at A;refine aq (λh0=>?_) (λh0=>?_)
 ·exact⟨by congr 1;omega,trivial⟩
 ·exact⟨by congr 1;omega,trivial⟩
theorem pX {h:ai}{m:Nat}{b:Bool}(G:m<340282366920938463463374607431768211456):ag prog ed #[pZ m,.bool b] h λr h'=>r=af (ko m b)∧Ext h h':=by
 apply Ro;unfold FY;rw[iS];refine aI λF h1 r1 A D=>?_
 unfold ko;cases b
 ·simp only[go_sem,Two.a r1,Two.b r1,ig,cS];refine aq (λh0=>?_) (λh0=>?_)
  ·rw[aB ae];exact⟨rfl,A⟩
  ·rw[aA ae,w64 ae ae];exact⟨by congr 1;omega,A⟩
 ·simp only[go_sem,Two.a r1,Two.b r1,cV];refine aq (λh0=>?_) (λh0=>?_)
  ·rw[aB ae];exact⟨rfl,A⟩
  ·rw[w64 (n:=((m%18446744073709551616:Nat):Int)) ae ae,w64 ae ae];refine⟨?_,A⟩
   congr 1
   split<;>omega
theorem JC {a b:Nat}(A:a<18446744073709551616)(D:b<18446744073709551616):a*b<340282366920938463463374607431768211456:=by
 have:=Nat.mul_lt_mul'' A D;exact this
theorem SJ {h:ai}{a b:Nat}(U:a<18446744073709551616)(I:b<18446744073709551616):
  ag prog sS #[.int .u64 (a:Int),.int .u64 (b:Int)] h λr h'=>r=pZ (a*b)∧Ext h h':=by
 apply OE;unfold Cx;refine aI λb1 h1 r1 e1 n1=>?_
 have l1:=aW r1;rw[aR,bH,ah,←Eh];refine lF (n:=0) λb2 h2 r2 e2 n2=>?_
 refine bO (α:=Unit) 64 0 (λi _=>[af (63-(i:Int))]) (λi _ h'=>Big h' b2 351 (a*(b/2^(64-i)))∧Ext h1 h') () rfl ae ⟨by rw[uw I];exact r2,e2⟩ λi _ h3 again ρj _ hi ⟨D,L⟩ H=>?_
 simp only[go_sem];have aa:b/2^(64-i)≤b:=ka _ _;have hm:=JC U (uz aa I);refine aq (λh0=>?_) (λh0=>?_)
 ·have hi:i<64:=ae;have hv:=Wu b (63-i);rw[show 63-i+1=64-i by omega]at hv;have G:a*(b/2^(63-i))=2*(a*(b/2^(64-i)))+a*(b/2^(63-i)%2):=by
   conv=>lhs;rw[hv]
   rw[JR,Ez]
  have F:=JC U (uz (ka b (2^(63-i))) I);have H:=λh'=>H () h' hi
  rw[show 64-(i+1)=63-i by omega,G]at H;rw[G]at F;generalize a*(b/2^(64-i))=p at*;rw[D.all,ah];refine(oT (n:=p) (bit:=0) ae ae).mono λv h4 ⟨e,e4⟩=>?_
  subst e;have D:=e4.row D;refine jC D λh5 W u5=>?_
  have e5:Ext h1 h5:=(L.trans e4).upd n2 u5;rw[show(63:Int)-(i:Int)=((63-i:Nat):Int)by omega,nJ _ ae,ah];rw[Lw (uz (ka _ _) I),ah,mf,ah];refine aq (λA=>?_) (λA=>?_)
  ·have A:b/2^(63-i)%2=1:=ae;rw[A,lW]at F H;rw[W.all,ah,lG,bH,ah,←Es U];refine(DJ (m:=2*p+0) (n:=a) ae).mono λv A ⟨e,e6⟩=>?_
   subst e;refine jC (e6.row W) λh7 r7 u7=>?_
   rw[w64 ae ae];have:=H h7 ⟨r7,(e5.trans e6).upd n2 u7⟩;rw[show(63:Int)-((i+1:Nat):Int)=((63-i:Nat):Int)-1 by omega]at this;exact this
  ·have A:b/2^(63-i)%2=0:=ae;rw[A,Nat.mul_zero]at H;rw[w64 ae ae];have:=H h5 ⟨W,e5⟩;rw[show(63:Int)-((i+1:Nat):Int)=((63-i:Nat):Int)-1 by omega]at this;exact this
 ·have:i=64:=ae;subst this;rw[show b/2^(64-64)=b by simp]at D;rw[D.all,ah];refine jC (L.row r1) λh4 r4 u4=>?_
  rw[r4.all,ah];exact⟨rfl,(e1.trans L).upd n1 u4⟩
theorem W0 {h:ai}{m d:Nat}(hm:m<340282366920938463463374607431768211456)(hd:d<18446744073709551616)(al:0<d):
  ag prog wg #[pZ m,.int .u64 (d:Int)] h λr h'=>r=.tuple #[pZ (m/d),.int .u64 ((m%d:Nat):Int)]∧Ext h h':=by
 apply Rm;unfold FW;rw[iS];refine aI λb1 h1 r1 e1 n1=>?_
 refine aI λb2 h2 r2 e2 n2=>?_
 have r1:=e2.row r1;have l1:=aW r1;have l2:=aW r2;rw[aR,bH,ah,←Eh];refine lF (n:=0) λb3 h3 A e3 n3=>?_
 have l3:=aW A;rw[ah];refine lF (n:=0) λb4 h4 D e4 n4=>?_
 rw[mf,ah,show decide ((d:Int)=0)=false from b9 ae,cg];have ar:Ext h h4:=e1.trans (e2.trans (e3.trans e4));have k2:h.size≤b2:=bA e1.1 n2;have k3:h.size≤b3:=bA (e1.trans e2).1 n3;have k4:h.size≤b4:=bA (e1.trans (e2.trans e3)).1 n4;refine bO (α:=Unit) 128 0 (λi _=>[af (127-(i:Int))]) (λi _ h'=>Big h' b1 351 m∧Two h' b2 351 (.int .u64 0) (.int .u64 0)∧Big h' b3 351 (m/2^(128-i)/d)∧Big h' b4 351 (m/2^(128-i)%d)∧Ext h h')
  () rfl ae ?_ λi _ h5 again ρj _ hi ⟨r1,r2,A,D,e5⟩ H=>?_
 ·have q:m/2^(128-0)=0:=uw (ce hm (by decide));rw[q,Nat.zero_div,Nat.zero_mod];exact⟨(e3.trans e4).row r1,(e3.trans e4).row r2,e4.row A,D,ar⟩
 simp only[go_sem];have hr:m/2^(128-i)%d<d:=iO _ al;refine aq (λh0=>?_) (λh0=>?_)
 ·have hi:i<128:=ae;have H:=λh'=>H () h' hi
  have hv:=Wu m (127-i);rw[show 127-i+1=128-i by omega]at hv;rw[show 128-(i+1)=127-i by omega]at H;have hb:m/2^(127-i)%2≤1:=ae;have hs:=zaE (n:=m/2^(128-i)) al rfl rfl hb;rw[←hv]at hs;rw[hs.1,hs.2]at H;have hq:2*(m/2^(128-i)/d)+(if d≤2*(m/2^(128-i)%d)+m/2^(127-i)%2 then 1 else 0)<340282366920938463463374607431768211456:=by
   rw[←hs.1];exact uz (bA (ka _ _) (ka _ _)) hm
  rw[show(127:Int)-((i+1:Nat):Int)=((127-i:Nat):Int)-1 by omega]at H;rw[show(127:Int)-(i:Int)=((127-i:Nat):Int)by omega];have aa:∀h',ag prog jr #[pZ m,af ((127-i:Nat):Int)] h' λr ay=>r=.int .u64 ((m/2^(127-i)%2:Nat):Int)∧Ext h' ay:=λh'=>ER hm ae
  generalize m/2^(127-i)%2=bit at*;generalize m/2^(128-i)/d=q at*;generalize m/2^(128-i)%d=r at*;refine aQ (Ext h5) (Ext.refl _) ?_;refine aF _ (λh' e=>Big.all (e.row D)) ?_;refine aF _ (λh' e=>Big.all (e.row r1)) ?_;refine(aa h5).mono λv h6 ⟨e,e6⟩=>?_
  subst e;refine⟨e6,?_⟩;refine(oT (n:=r) (bit:=bit) hb ae).mono λv h7 ⟨e,e7⟩=>?_
  subst e;have F:=e6.trans e7;refine jC (F.row D) λh8 D u8=>?_
  have r1:=u8.row ae (F.row r1);have r2:=u8.row ae (F.row r2);have A:=u8.row ae (F.row A);have e8:=(e5.trans F).upd k4 u8;rw[Big.all A,ah];refine(oT (n:=q) (bit:=0) ae ae).mono λv h9 ⟨e,e9⟩=>?_
  subst e;refine jC (e9.row A) λa7 A L=>?_
  have r1:=L.row ae (e9.row r1);have r2:=L.row ae (e9.row r2);have D:=L.row ae (e9.row D);have ax:=(e8.trans e9).upd k3 L;rw[Big.all D,ah,lG,bH,ah,←Es hd];refine DK.mono λv au ⟨e,I⟩=>?_
  subst e;have r1:=I.row r1;have r2:=I.row r2;have A:=I.row A;have D:=I.row D;have am:=ax.trans I;rw[YS,ah,ZU];refine aq (λhc=>?_) (λhc=>?_)
  ·rw[aB ae,aB ae]at H;rw[aB ae]at hq;rw[Big.all D,ah,ah];refine(SK (m:=2*r+bit) (n:=d) ae ae).mono λv a9 ⟨e,G⟩=>?_
   subst e;refine jC (G.row D) λa8 D U=>?_
   have r1:=U.row ae (G.row r1);have r2:=U.row ae (G.row r2);have A:=U.row ae (G.row A);have an:=(am.trans G).upd k4 U;simp only[go_sem,Two.b A];refine bG A (by simp) rfl λad A W=>?_
   have A:Two ad b3 _ (.int .u64 _) (.int .u64 _):=A;have r1:=W.row ae r1;have r2:=W.row ae r2;have D:=W.row ae D;rw[w64 ae ae];refine H ad ⟨r1,r2,?_,D,an.upd k3 W⟩;have a1:(((2*q+0)/18446744073709551616:Nat):Int)=(((2*q+1)/18446744073709551616:Nat):Int):=ae;have a2:IntKind.u64.wrap ((((2*q+0)%18446744073709551616:Nat):Int)+1)=(((2*q+1)%18446744073709551616:Nat):Int):=by rw[fN];omega
   rw[a1,a2]at A;exact A
  ·rw[aA ae,aA ae]at H;rw[w64 ae ae];exact H au ⟨r1,r2,A,D,am⟩
 ·have:i=128:=ae;subst this;rw[show m/2^(128-128)=m by simp]at A D hr;refine aQ (λh'=>Two h' b4 351 (.int .u64 ((m%d/18446744073709551616:Nat):Int)) (.int .u64 ((m%d%18446744073709551616:Nat):Int))∧(Big h' b3 351 (m/d))) ⟨D,A⟩ ?_;refine aF _ (λh' e=>Big.all e.2) ?_;simp only[go_sem];refine aF _ (λh' e=>Two.b e.1) ?_;refine jC r2 λh6 r6 u6=>?_
  refine⟨⟨u6.row ae D,u6.row ae A⟩,?_⟩;rw[r6.all,ah];refine⟨?_,e5.upd k2 u6⟩;rw[xf (Nat.lt_trans hr hd)]
end Go.Proofs.YtjljhnandbbldaaGreatDoor
namespace Go.Crisp
def upS (m n:Nat)(below:Bool):Bool:=if below then decide (2^(n-1)<m%2^n)else decide (2^(n-1)≤m%2^n)
theorem zay {x:Int}{n:Nat}(hx:I64 x)(h1:1≤n)(h2:n≤64):
  ko (x.natAbs/2^n+(if upS x.natAbs n (decide (x<0))then 1 else 0)) (decide (x<0))=pA x n:=by
 obtain⟨b1,b2⟩:=hx;have an:(0:Nat)<2^(n-1):=yu ae;have U:2^n=2*2^(n-1):=by
  obtain⟨j,rfl⟩:∃j,n=j+1:=⟨n-1,ae⟩
  rw[AQ,Nh,fG]
 have W:(2:Int)^n=2*((2^(n-1):Nat):Int):=by
  rw[show(2:Int)^n=((2^n:Nat):Int)by simp,U];simp
 have L:(2:Int)^(n-1)=((2^(n-1):Nat):Int):=by simp
 have H:64≤n→9223372036854775808≤2^(n-1):=λh=>by rw[show n=64 by omega];decide
 have hq:x.natAbs/2^n≤4611686018427387904:=by
  rw[U];refine bA (Uf (c:=2) ae ae) ?_;omega
 have hs:pA x n=if(64:Int)≤n then 0 else x/2^n+x/2^(n-1)%2:=by
  unfold pA;rw[aA ae,dJ]
 rw[hs,W,L];unfold upS;have hm:=oD x.natAbs (2^n);have hr:=iO x.natAbs (show 0<2^n by omega);rw[U]at hm hr hq ⊢;generalize al:x.natAbs/(2*2^(n-1))=q at*;generalize ad:x.natAbs%(2*2^(n-1))=r at*;generalize 2^(n-1)=p at*;have aa:(2*p)*q=2*(p*q):=vC _ _ _;rw[aa]at hm;have ci:((p*q:Nat):Int)=(p:Int)*q:=mQ _ _;by_cases G:x<0
 ·rw [cH G];simp only[cV,dH];unfold ko
  try simp only[cV]
  by_cases D:(64:Int)≤n
  ·rw[aB D];have:=H ae;have I:q=0:=by
    rcases Dt q with h|h
    ·exact h
    ·have:=Zp p h;omega
   subst I;rw[aA (show¬p<r by omega),aA ae];rfl
  ·rw [aA D,aA (by split<;>omega)];by_cases am:r=0
   ·have e:x=0+2*(p:Int)*(-(q:Int)):=by rw[oB,AO];omega
    have F:x=0+(p:Int)*(-(2*(q:Int))):=by rw[AO,Ev];omega
    have d1:x/(2*(p:Int))= -(q:Int):=by
     conv=>lhs;rw[e]
     rw[vB _ _ ae];simp
    have d2:x/(p:Int)= -(2*(q:Int)):=by
     conv=>lhs;rw[F]
     rw[vB _ _ ae];simp
    rw[d1,d2];rw[aA ae];omega
   ·have e:x=(2*p-r:Int)+2*(p:Int)*(-(q:Int)-1):=by rw[oB,Ue,AO];omega
    have d1:x/(2*(p:Int))= -(q:Int)-1:=by
     conv=>lhs;rw[e]
     rw[vB _ _ ae,sG ae ae];simp
    by_cases A:p<r
    ·have F:x=(2*p-r:Int)+(p:Int)*(2*(-(q:Int)-1)):=by rw[Ev,Ue,AO];omega
     have d2:x/(p:Int)=2*(-(q:Int)-1):=by
      conv=>lhs;rw[F]
      rw[vB _ _ ae,sG ae ae];simp
     rw[d1,d2,aB A];omega
    ·have F:x=(p-r:Int)+(p:Int)*(2*(-(q:Int)-1)+1):=by rw[JJ,Ev,Ue,AO];omega
     have d2:x/(p:Int)=2*(-(q:Int)-1)+1:=by
      conv=>lhs;rw[F]
      rw[vB _ _ ae,sG ae ae];simp
     rw[d1,d2,aA A];omega
 ·rw [b9 G];simp only[ig,cS,dH];unfold ko
  try simp only[ig,cS]
  rw[aA (by split<;>omega)];by_cases D:(64:Int)≤n
  ·rw[aB D];have:=H ae;have I:q=0:=by
    rcases Dt q with h|h
    ·exact h
    ·have:=Zp p h;omega
   subst I;rw[aA ae];rfl
  ·rw[aA D];have e:x=(r:Int)+2*(p:Int)*(q:Int):=by rw[oB];omega
   have d1:x/(2*(p:Int))=(q:Int):=by
    conv=>lhs;rw[e]
    rw[vB _ _ ae,sG ae ae];simp
   by_cases A:p≤r
   ·have F:x=(r-p:Int)+(p:Int)*(2*(q:Int)+1):=by rw[JJ,Ev];omega
    have d2:x/(p:Int)=2*(q:Int)+1:=by
     conv=>lhs;rw[F]
     rw[vB _ _ ae,sG ae ae];simp
    rw[d1,d2,aB A];omega
   ·have F:x=(r:Int)+(p:Int)*(2*(q:Int)):=by rw[Ev];omega
    have d2:x/(p:Int)=2*(q:Int):=by
     conv=>lhs;rw[F]
     rw[vB _ _ ae,sG ae ae];simp
    rw[d1,d2,aA A];omega
theorem zaC (m n i:Nat):m%2^n+m/2^i*2^i=m%2^n+m/2^(i+1)*2^(i+1)+m/2^i%2*2^i:=by
 have:=Wu m i
 conv=>lhs;rw[this]
 rw[fb,Nh,vC 2,Ez 2,fG 2];omega
theorem zcg (m i:Nat):m%2^(i+1)=m%2^i+m/2^i%2*2^i:=by
 rw[Nh,Nat.mod_mul,fG]
end Go.Crisp
namespace Go.Proofs.YtjljhnandbbldaaGreatDoor
open Go Go.Crisp
attribute [local irreducible] ag cO aT stK aG vK qK bL gK eM bC mkK cR HA JA Ep bsK
open _root_.Go.Proofs.Tryz
theorem W1 {h:ai}{m d:Nat}{bl:Bool}(hm:m<340282366920938463463374607431768211456)(hd:d<18446744073709551616)(H:0<d):
  ag prog uJ #[pZ m,.int .u64 (d:Int),.bool bl] h λr h'=>r=af (ko (yr m d bl) bl)∧Ext h h':=by
 apply K3;unfold zR;rw[iS];refine aI λb1 h1 r1 e1 n1=>?_
 rw[Big.all r1,ah];refine(W0 hm hd H).mono λv h2 ⟨e,e2⟩=>?_
 subst e;simp only[go_sem];refine lF (n:=m/d) λb2 h3 I e3 n3=>?_
 have hr:m%d<d:=iO _ H;rw[lG,bH,ah,←Es (n:=m%d) ae];refine(oT (n:=m%d) (bit:=0) ae ae).mono λv h4 ⟨e,e4⟩=>?_
 subst e;refine lF (n:=2*(m%d)+0) λb3 h5 r5 e5 n5=>?_
 rw[Big.all r5,ah,lG,bH,ah,←Es hd];refine DK.mono λv h6 ⟨e,W⟩=>?_
 subst e;have F:Ext h h6:=e1.trans (e2.trans (e3.trans (e4.trans (e5.trans W))));have r2:=(e4.trans (e5.trans W)).row I;have I:=W.row r5;have k2:h.size≤b2:=bA (e1.trans e2).1 n3;simp only[go_sem];have hq:m/d≤m:=ka _ _;have A:d≤2*(m%d)→m/d+1<340282366920938463463374607431768211456:=λhh=>by
  have:=Uf (a:=m) (c:=2) (b:=d) ae ae;omega
 refine bB (λxs h'=>xs=[.bool (if bl then decide (d<2*(m%d))else decide (d≤2*(m%d)))]∧Ext h h'∧Big h' b2 351 (m/d)) ?_ ?_
 ·cases bl
  ·rw[cg];refine⟨?_,F,r2⟩
   congr 2
   simp only[ig,cS];exact iB.2 ae
  ·rw[fK];rw[Big.all I];simp only[go_sem];refine DK.mono λv h7 ⟨e,G⟩=>?_
   subst e;exact⟨by simp only[cV,ic],F.trans G,G.row r2⟩
 ·rintro xs ρj h7 ⟨rfl,G,L⟩;simp only[go_sem];refine iQ (λhc=>?_) (λhc=>?_)
  ·have U:yr m d bl=m/d+1:=by
    unfold yr;cases bl
    ·simp only[ig,cS,dH]at hc ⊢;rw[aB hc]
    ·simp only[cV,dH]at hc ⊢;rw[aB hc]
   have A:=A (by
    cases bl
    ·simp only[ig,cS,dH]at hc;exact hc
    ·simp only[cV,dH]at hc;omega)
   rw[Big.all L,ah,lG,bH,ah,←zZ];refine(DJ (m:=m/d) (n:=1) A).mono λv h8 ⟨e,e8⟩=>?_
   subst e;refine jC (e8.row L) λh9 r9 u9=>?_
   rw[r9.all,ah];refine(pX (m:=m/d+1) (b:=bl) A).mono λv aa ⟨e,D⟩=>?_
   exact⟨by rw[e,U],((G.trans e8).upd k2 u9).trans D⟩
  ·have U:yr m d bl=m/d:=by
    unfold yr;cases bl
    ·simp only[ig,cS,Ew]at hc ⊢;rw[aA hc];rfl
    ·simp only[cV,Ew]at hc ⊢;rw[aA hc];rfl
   rw[Big.all L,ah];refine(pX (m:=m/d) (b:=bl) ae).mono λv aa ⟨e,D⟩=>?_
   exact⟨by rw[e,U],G.trans D⟩
theorem YL (a b:Int):(!(decide (a<0)==decide (b<0)))=lH a b:=rfl
theorem SL {h:ai}{a b:Int}(L:I64 a)(W:I64 b):ag prog sU #[af a,af b] h λr h'=>r=af (Lh a b)∧Ext h h':=by
 apply OH;unfold CB;simp only[go_sem];unfold Lh;refine aq (λh0=>?_) (λh0=>?_)
 ·rw[aB h0];exact⟨rfl,Ext.refl _⟩
 rw[aA h0];have aa:=rG L;have ad:=rG W;refine(uf L).mono λv1 h1 ⟨G,w1⟩=>?_
 subst G w1;rw[lG,bH,ah,←Es (n:=a.natAbs) ae];refine(uf W).mono λv1 h1 ⟨G,w1⟩=>?_
 subst G w1;refine(W0 (m:=a.natAbs) (d:=b.natAbs) ae ae ae).mono λv h2 ⟨e,I⟩=>?_
 subst e;simp only[go_sem];refine lF (n:=a.natAbs/b.natAbs) λb2 h3 F e3 n3=>?_
 have hq:a.natAbs/b.natAbs≤a.natAbs:=ka _ _;simp only[go_sem,YL];have D:=I.trans e3;have k2:=bA I.1 n3;by_cases hd:lH a b=true∧0<a.natAbs%b.natAbs
 ·have q:(lH a b&&decide ((0:Int)<((a.natAbs%b.natAbs:Nat):Int)))=true:=by rw[hd.1,cH ae];rfl
  rw[q,fK];unfold Hs;rw[aB ⟨hd.1,ae⟩];rw[Big.all F,ah,lG,bH,ah,←zZ];refine(DJ (m:=a.natAbs/b.natAbs) (n:=1) ae).mono λv h8 ⟨e,U⟩=>?_
  subst e;refine jC (U.row F) λh9 r9 u9=>?_
  rw[r9.all,ah];refine(pX (m:=a.natAbs/b.natAbs+1) (b:=lH a b) ae).mono λv H ⟨e,A⟩=>?_
  exact⟨e,((D.trans U).upd k2 u9).trans A⟩
 ·have q:(lH a b&&decide ((0:Int)<((a.natAbs%b.natAbs:Nat):Int)))=false:=by
   rw[←Bool.not_eq_true,dt,dH];rintro⟨x,y⟩;exact hd ⟨x,ae⟩
  rw[q,cg];unfold Hs;rw[aA (by rintro⟨x,y⟩;exact hd ⟨x,ae⟩)];rw[Big.all F,ah];refine(pX (m:=a.natAbs/b.natAbs) (b:=lH a b) ae).mono λv H ⟨e,A⟩=>?_
  exact⟨e,D.trans A⟩
theorem jF {h:ai}{a b d:Int}(L:I64 a)(U:I64 b)(hd:I64 d):ag prog dE #[af a,af b,af d] h λr h'=>r=af (df a b d)∧Ext h h':=by
 apply MF;unfold BL;simp only[go_sem];unfold df;refine aq (λh0=>?_) (λh0=>?_)
 ·rw[aB h0];exact⟨rfl,Ext.refl _⟩
 rw[aA h0];have A:=jV L;have D:=jV U;have G:=jV hd;refine(uf L).mono λI h1 ⟨F,w1⟩=>?_
 subst F w1;refine(uf U).mono λI h1 ⟨F,w1⟩=>?_
 subst F w1;refine(SJ A D).mono λv h2 ⟨e,e2⟩=>?_
 subst e;refine lF (n:=a.natAbs*b.natAbs) λb2 h3 r3 e3 n3=>?_
 simp only[go_sem,YL];refine aQ (Ext h3) (Ext.refl _) ?_;refine aF _ (λh' e=>Big.all (e.row r3)) ?_;refine(uf hd).mono λI h4 ⟨W,w4⟩=>?_
 subst W w4;refine⟨Ext.refl _,?_⟩;refine(W1 (bl:= !(lH a b==decide (d<0))) (JC A D) G ae).mono λv aa ⟨e,H⟩=>?_
 refine⟨?_,e2.trans (e3.trans H)⟩;rw[e];rfl
theorem Nz {i:Nat}(h:i<128):2^i<340282366920938463463374607431768211456:=by
 have:=Nat.pow_lt_pow_right (a:=2) ae h;exact this
theorem Ln {h:ai}{x n:Int}(hx:I64 x)(hn:I64 n):ag prog nF #[af x,af n] h λr h'=>r=af (pA x n)∧Ext h h':=by
 apply OF;unfold Cy;simp only[go_sem];refine aq (λh0=>?_) (λh0=>?_)
 ·unfold pA;rw[aB ae];exact⟨rfl,Ext.refl _⟩
 refine aq (λh1=>?_) (λh1=>?_)
 ·unfold pA;rw[aA ae,aB ae];exact⟨rfl,Ext.refl _⟩
 obtain⟨k,rfl⟩:∃k:Nat,n=(k:Int):=⟨n.toNat,ae⟩
 rw[w64 (n:=(k:Int)-1) ae ae];rw[lG,bH,ah,←zZ];refine lF (n:=1) λb1 h1 r1 e1 n1=>?_
 -- half
 refine bO (α:=Unit) (k-1) 0 (λi _=>[af (i:Int)]) (λi _ h'=>Big h' b1 351 (2^i)∧Ext h h') () rfl ae ⟨r1,e1⟩ λi _ h2 again ρj _ hi ⟨r2,e2⟩ H=>?_
 simp only[go_sem];refine aq (λhc=>?_) (λhc=>?_)
 ·rw[Big.all r2,ah];have hp:=Nz (i:=i+1) ae;have au:2^(i+1)=2*2^i:=Ug;refine(oT (n:=2^i) (bit:=0) ae ae).mono λv h3 ⟨e,e3⟩=>?_
  subst e;refine jC (e3.row r2) λh4 r4 u4=>?_
  rw[w64 ae ae];rw[ic,←au]at r4;exact H () h4 ae ⟨r4,(e2.trans e3).upd n1 u4⟩
 have:i=k-1:=ae;subst this;have A:=e2;refine(uf hx).mono λv1 h3 ⟨e3,w3⟩=>?_
 subst e3 w3;have be:=jV hx;rw[lG,bH,ah,←Es be];refine lF (n:=x.natAbs) λb2 h4 r4 e4 n4=>?_
 try simp only[go_sem]
 rw[ii,bH,ah,←Eh];refine lF (n:=0) λb3 h5 r5 e5 n5=>?_
 have l1:=aW r2;have l2:=aW r4;have k2:h.size≤b2:=bA A.1 n4;have k3:h.size≤b3:=bA (A.trans e4).1 n5;have ar:x.natAbs<340282366920938463463374607431768211456:=ae;have D:=zay hx (n:=k) ae ae;have b7:x.natAbs≤9223372036854775808:=rG hx;generalize b6:x.natAbs=m at*
 -- the quotient
 refine bO (α:=Unit) (128-k) 0 (λi _=>[af (127-(i:Int))])
  (λi _ h'=>Big h' b1 351 (2^(k-1))∧Big h' b2 351 m∧Big h' b3 351 (m/2^(128-i))∧Ext h h')
  () rfl ae ⟨(e4.trans e5).row r2,e5.row r4,by rw[show m/2^(128-0)=0 from uw (by simpa using ar)];exact r5,A.trans (e4.trans e5)⟩ λi _ h6 again ρj _ hi ⟨U,q2,I,e6⟩ H=>?_
 simp only[go_sem];refine aq (λhc=>?_) (λhc=>?_)
 ·have H:=λh'=>H () h' ae
  have hv:=Wu m (127-i);rw[show 127-i+1=128-i by omega]at hv;rw[show 128-(i+1)=127-i by omega,show(127:Int)-((i+1:Nat):Int)=((127-i:Nat):Int)-1 by omega]at H;have a7:m/2^(127-i)≤m:=ka _ _;have hb:m/2^(127-i)%2≤1:=ae;rw[show(127:Int)-(i:Int)=((127-i:Nat):Int)by omega];refine aQ (Ext h6) (Ext.refl _) ?_;refine aF _ (λh' e=>Big.all (e.row I)) ?_;refine aF _ (λh' e=>Big.all (e.row q2)) ?_;refine(ER ar (i:=127-i) ae).mono λv h7 ⟨e,e7⟩=>?_
  subst e;refine⟨e7,?_⟩;refine(oT (n:=m/2^(128-i)) (bit:=m/2^(127-i)%2) hb ae).mono λv h8 ⟨e,e8⟩=>?_
  subst e;have am:=e7.trans e8;refine jC (am.row I) λh9 r9 u9=>?_
  rw[w64 ae ae];rw[←hv]at r9;exact H h9 ⟨u9.row ae (am.row U),u9.row ae (am.row q2),r9,(e6.trans am).upd k3 u9⟩
 have ay:i=128-k:=ae;subst ay;rw[show 128-(128-k)=k by omega]at I;rw[Big.all q2,ah];refine lF (n:=m) λb4 h7 r7 e7 n7=>?_
 have l3:=aW I;have l1:=aW U;have l2:=aW q2;have k4:h.size≤b4:=bA e6.1 n7
 -- the rest
 refine bO (α:=Unit) 128 k (λi _=>[af (i:Int)])
  (λi _ h'=>Big h' b1 351 (2^(k-1))∧Big h' b2 351 m∧Big h' b3 351 (m/2^k)∧Big h' b4 351 (m%2^k+m/2^i*2^i)∧Ext h h')
  () rfl ae ⟨e7.row U,e7.row q2,e7.row I,by rw[show m%2^k+m/2^k*2^k=m by rw[fG];exact Nat.mod_add_div _ _];exact r7,e6.trans e7⟩ λi _ h8 again ρj ay hi ⟨U,q2,I,W,e8⟩ H=>?_
 simp only[go_sem];refine aq (λhc=>?_) (λhc=>?_)
 ·have H:=λh'=>H () h' ae
  rw[Big.all q2,ah];have an:=zaC m k i;have a7:m%2^k+m/2^i*2^i≤2*m:=by
   have a1:=Nat.mod_le m (2^k);have a2:=JK m (2^i);omega
  refine(ER ar (i:=i) ae).mono λv h9 ⟨e,L⟩=>?_
  subst e;simp only[go_sem];have U:=L.row U;have q2:=L.row q2;have I:=L.row I;have W:=L.row W;have L:=e8.trans L;have l4:=aW W;refine aq (λhd=>?_) (λhd=>?_)
  ·have hd:m/2^i%2=1:=ae;rw[hd,uv]at an
   try rw[lG,bH,ah,←zZ]
   refine lF (n:=1) λb5 a9 bk F n10=>?_
   have k5:h.size≤b5:=bA L.1 n10;refine bO (α:=Unit) i 0 (λj _=>[af (j:Int)]) (λj _ h'=>Big h' b1 351 (2^(k-1))∧Big h' b2 351 m∧Big h' b3 351 (m/2^k)∧Big h' b4 351 (m%2^k+m/2^i*2^i)∧Big h' b5 351 (2^j)∧Ext h h')
    () rfl ae ⟨F.row U,F.row q2,F.row I,F.row W,bk,L.trans F⟩ λj _ bv bd ρj2 _ hj ⟨U,q2,I,W,q5,al⟩ H2=>?_
   simp only[go_sem];refine aq (λbo=>?_) (λbo=>?_)
   ·rw[Big.all q5,ah];have hp:=Nz (i:=j+1) ae;have au:2^(j+1)=2*2^j:=Ug;refine(oT (n:=2^j) (bit:=0) ae ae).mono λv a8 ⟨e,A⟩=>?_
    subst e;refine jC (A.row q5) λad aa G=>?_
    rw[w64 ae ae];rw[ic,←au]at aa;exact H2 () ad ae ⟨G.row ae (A.row U),G.row ae (A.row q2),G.row ae (A.row I),G.row ae (A.row W),aa,(al.trans A).upd k5 G⟩
   ·have:j=i:=ae;subst this;rw[Big.all W,ah,Big.all q5,ah];refine(SK (m:=m%2^k+m/2^j*2^j) (n:=2^j) ae ae).mono λv a8 ⟨e,A⟩=>?_
    subst e;refine jC (A.row W) λad aa G=>?_
    rw[w64 ae ae];rw[an,AQ]at aa;exact H ad ⟨G.row ae (A.row U),G.row ae (A.row q2),G.row ae (A.row I),aa,(al.trans A).upd k4 G⟩
  ·have hd:m/2^i%2=0:=ae;rw[hd,AR,ic]at an;rw[w64 ae ae];exact H h9 ⟨U,q2,I,by rw[←an];exact W,L⟩
 have:i=128:=ae;subst this;rw[show m%2^k+m/2^128*2^128=m%2^k by rw[uw (a:=m) (b:=2^128) (by simpa using ar)];simp]at W;rw[Big.all W,ah,Big.all U,ah];refine DK.mono λv h9 ⟨e,L⟩=>?_
 subst e;have U:=L.row U;have I:=L.row I;have W:=L.row W;have L:=e8.trans L;have k1:=n1;simp only[go_sem];refine bB (λxs h'=>xs=[.bool (upS m k (decide (x<0)))]∧Ext h h'∧Big h' b3 351 (m/2^k)) ?_ ?_
 ·unfold upS;refine aq (λhc=>?_) (λhc=>?_)
  ·rw[Big.all U,ah,Big.all W,ah];refine DK.mono λv a9 ⟨e,F⟩=>?_
   subst e;rw[cH hc];exact⟨by simp only[cV],L.trans F,F.row I⟩
  ·rw[b9 hc];refine⟨?_,L,I⟩;simp only[ig,cS]
   congr 2
   exact iB.2 ae
 ·rintro xs ρj a9 ⟨rfl,F,I⟩;simp only[go_sem];have a7:m/2^k≤m:=ka _ _;refine iQ (λhc=>?_) (λhc=>?_)
  ·rw[hc,aB rfl]at D;rw[Big.all I,ah]
   try rw[lG,bH,ah,←zZ]
   try rw[ah]
   refine(DJ (m:=m/2^k) (n:=1) ae).mono λv bv ⟨e,al⟩=>?_
   subst e;refine jC (al.row I) λa8 bg b0=>?_
   rw[bg.all,ah];refine(pX (m:=m/2^k+1) (b:=decide (x<0)) ae).mono λv ad ⟨e,ax⟩=>?_
   exact⟨by rw[e,D],((F.trans al).upd k3 b0).trans ax⟩
  ·rw[hc]at D;simp only[ig,cS,ic]at D;rw[Big.all I,ah];refine(pX (m:=m/2^k) (b:=decide (x<0)) ae).mono λv ad ⟨e,ax⟩=>?_
   exact⟨by rw[e,D],F.trans ax⟩
theorem UQ {h:ai}{a b n:Int}(ha:I64 a)(hb:I64 b)(hn:I64 n):ag prog sh #[af a,af b,af n] h λr h'=>r=af (rH a b n)∧Ext h h':=by
 apply Jo;unfold xZ;simp only[go_sem];have am:=jV ha;have ar:=jV hb;refine bB (λxs h'=>xs=[af (n.toNat:Int)]∧h'=h) ?_ ?_
 ·refine aq (λhc=>?_) (λhc=>?_)
  ·exact⟨by rw[Int.toNat_of_nonpos ae];rfl,rfl⟩
  ·exact⟨by rw[AK ae],rfl⟩
 rintro xs ρj h1 ⟨rfl,hh⟩;have hh:=hh.symm;subst hh;simp only[go_sem,YL];unfold rH;refine aq (λh0=>?_) (λh0=>?_)
 ·rw[aB ae];exact⟨rfl,Ext.refl _⟩
 rw[aA ae];generalize n.toNat=k at*;refine(uf ha).mono λv1 h1 ⟨e1,w1⟩=>?_
 have w1:=w1.symm;subst e1 w1;refine(uf hb).mono λv1 h1 ⟨e1,w1⟩=>?_
 have w1:=w1.symm;subst e1 w1;refine(SJ am ar).mono λv G ⟨e,e2⟩=>?_
 subst e;have D:=JC am ar;generalize lH a b=bl at*;generalize a.natAbs*b.natAbs=m at*;refine lF (n:=m) λb2 h3 r3 e3 n3=>?_
 have L:=e2.trans e3
 try simp only[go_sem]
 refine aq (λhk=>?_) (λhk=>?_)
 ·obtain rfl:k=0:=ae;rw[Big.all r3,ah];refine(pX (m:=m) (b:=bl) D).mono λv h4 ⟨e,e4⟩=>?_
  exact⟨by rw[e];rfl,L.trans e4⟩
 rw[ii,bH,ah,←Eh];refine lF (n:=0) λb3 h5 r5 e5 n5=>?_
 have l2:=aW r3;have k2:h.size≤b2:=bA e2.1 n3;have k3:h.size≤b3:=bA L.1 n5;refine bO (α:=Unit) (128-k) 0 (λi _=>[af (127-(i:Int))])
  (λi _ h'=>Big h' b2 351 m∧Big h' b3 351 (m/2^(128-i))∧Ext h h')
  () rfl ae ⟨e5.row r3,by rw[show m/2^(128-0)=0 from uw (by simpa using D)];exact r5,L.trans e5⟩ λi _ h6 again ρj _ hi ⟨I,F,e6⟩ H=>?_
 simp only[go_sem];refine aq (λhc=>?_) (λhc=>?_)
 ·have H:=λh'=>H () h' ae
  have hv:=Wu m (127-i);rw[show 127-i+1=128-i by omega]at hv;rw[show 128-(i+1)=127-i by omega,show(127:Int)-((i+1:Nat):Int)=((127-i:Nat):Int)-1 by omega]at H;have a7:m/2^(127-i)≤m:=ka _ _;have hb:m/2^(127-i)%2≤1:=ae;rw[show(127:Int)-(i:Int)=((127-i:Nat):Int)by omega];refine aQ (Ext h6) (Ext.refl _) ?_;refine aF _ (λh' e=>Big.all (e.row F)) ?_;refine aF _ (λh' e=>Big.all (e.row I)) ?_;refine(ER D (i:=127-i) ae).mono λv h7 ⟨e,e7⟩=>?_
  subst e;refine⟨e7,?_⟩;refine(oT (n:=m/2^(128-i)) (bit:=m/2^(127-i)%2) hb ae).mono λv h8 ⟨e,A⟩=>?_
  subst e;have U:=e7.trans A;refine jC (U.row F) λh9 r9 u9=>?_
  rw[w64 ae ae];rw[←hv]at r9;exact H h9 ⟨u9.row ae (U.row I),r9,(e6.trans U).upd k3 u9⟩
 have ay:i=128-k:=ae;subst ay;rw[show 128-(128-k)=k by omega]at F;rw[w64 (n:=(k:Int)-1) ae ae];refine bO (α:=Unit) (k-1) 0 (λi _=>[.bool (decide (m%2^i≠0)),af (i:Int)])
  (λi _ h'=>Big h' b2 351 m∧Big h' b3 351 (m/2^k)∧Ext h h')
  () (by simp[Nat.mod_one]) ae ⟨I,F,e6⟩ λi _ h7 again ρj _ hi ⟨I,F,e7⟩ H=>?_
 simp only[go_sem];refine aq (λhc=>?_) (λhc=>?_)
 ·have H:=λh'=>H () h' ae
  have al:=zcg m i;have hp:0<2^i:=yu ae;rw[Big.all I];by_cases hz:m%2^i=0
  ·have q:decide (m%2^i≠0)=false:=b9 ae;rw[q];simp only[go_sem];refine(ER D (i:=i) ae).mono λv h8 ⟨e,A⟩=>?_
   subst e;simp only[go_sem];rw[w64 ae ae];have qq:decide (m%2^(i+1)≠0)=decide (((m/2^i%2:Nat):Int)=1):=iB.2 (by
    rw[al,hz];rcases Nat.mod_two_eq_zero_or_one (m/2^i)with hh|hh
    ·rw[hh];simp
    ·rw[hh];simp)
   have H:=H h8 ⟨A.row I,A.row F,e7.trans A⟩;rw[qq]at H;exact H
  ·have q:decide (m%2^i≠0)=true:=cH hz;rw[q];simp only[go_sem];rw[w64 ae ae];have H:=H h7 ⟨I,F,e7⟩;rw[show decide (m%2^(i+1)≠0)=true from cH (by rw[al];omega)]at H;exact H
 have:i=k-1:=ae;subst this;rw[Big.all I,ah,show(k:Int)-1=((k-1:Nat):Int)by omega];refine(ER D (i:=k-1) ae).mono λv h8 ⟨e,A⟩=>?_
 subst e;have F:=A.row F;have A:=e7.trans A;have a7:m/2^k≤m/2:=by
  refine Uf ?_ ae;have:=Nat.pow_le_pow_right (n:=2) ae (show 1≤k by omega);omega
 have ad:∀c:Bool,(c=true↔(m/2^(k-1)%2=1∧¬(bl=true∧m%2^(k-1)=0)))→aG (.bool c)
   (ag prog jq #[pZ (m/2^k),pZ 1] h8 λbk bv=>stK 2 (.pointer (some ⟨b3,0,none⟩)) bk bv λb5 aa=>vK (aM 2 aa (.pointer (some ⟨b3,0,none⟩))) λbe=>
    ag prog ed #[be,.bool bl] aa λax a9=>ax=af (ko (NJ m k bl) bl)∧Ext h a9)
   (ag prog ed #[pZ (m/2^k),.bool bl] h8 λbd b0=>bd=af (ko (NJ m k bl) bl)∧Ext h b0):=by
  intro c au;unfold NJ;rw[aA ae];refine iQ (λhc=>?_) (λhc=>?_)
  ·rw[aB (au.1 hc)];refine(DJ (m:=m/2^k) (n:=1) ae).mono λv b4 ⟨e,an⟩=>?_
   subst e;refine jC (an.row F) λb1 a8 bg=>?_
   rw[a8.all,ah];refine(pX (m:=m/2^k+1) (b:=bl) ae).mono λv bo ⟨e,W⟩=>?_
   exact⟨e,((A.trans an).upd k3 bg).trans W⟩
  ·rw[aA (λhh=>by rw[au.2 hh]at hc;cases hc)];refine(pX (m:=m/2^k) (b:=bl) ae).mono λv bo ⟨e,W⟩=>?_
   exact⟨e,A.trans W⟩
 simp only[go_sem,Big.all F];rw[zeh,bH,ah,←zZ];refine ad _ ?_;rw[dt,sK,dH,dH];constructor
 ·rintro⟨h1,G⟩;refine⟨ae,?_⟩;rintro⟨h3,h4⟩;rcases G with G|G
  ·exact G h4
  ·rw[h3]at G;cases G
 ·rintro⟨h1,G⟩;refine⟨ae,?_⟩;by_cases h3:bl=true
  ·exact .inl λh4=>G ⟨h3,h4⟩
  ·exact .inr (by simpa using h3)
theorem Vh (p m t:Int):IntKind.i64.wrap (p-IntKind.i64.wrap (m+t))=IntKind.i64.wrap (IntKind.i64.wrap (p-m)-t):=by
 rw[GA,An];congr 1;omega
theorem Vg (p m t:Int):IntKind.i64.wrap (IntKind.i64.wrap (p+t)-m)=IntKind.i64.wrap (IntKind.i64.wrap (p-m)+t):=by
 rw[An,wB];congr 1;omega
theorem zeu {h:ai}{t:Int}(ht:I64 t):ag prog Ea #[af t] h λr h'=>r=af (za2 t)∧Ext h h':=by
 apply TF;unfold IG
 try simp only[go_sem]
 unfold za2;have ad:0≤max 0 t∧max 0 t≤9223372036854775807:=by unfold I64 at ht;omega
 refine bB (λU h'=>U=[af (max 0 t)]∧h'=h) ?_ ?_
 ·refine aq (λhc=>?_) (λhc=>?_)
  ·exact⟨by rw[show max 0 t=0 by omega],rfl⟩
  ·exact⟨by rw[show max 0 t=t by omega],rfl⟩
 rintro U ρj h1 ⟨rfl,hh⟩;have hh:=hh.symm;subst hh;generalize max 0 t=T at*
 try simp only[go_sem]
 refine(SL (by unfold I64;omega) (by unfold I64;omega)).mono λW h1 ⟨e,e1⟩=>?_
 subst e;rw[rO (by unfold I64;omega) ae];simp only[go_sem];rw[w64 (n:=T/762123384786*762123384786) ae ae,w64 (n:=T-T/762123384786*762123384786) ae ae];rw[show T-T/762123384786*762123384786=T%762123384786 by omega];have hr:0≤T%762123384786∧T%762123384786<762123384786:=ae;generalize aa:T%762123384786=r at*;refine bO (α:=Int×Int) 16 0 (λi a=>[af a.1,af a.2,af (fY r i).2,af ((i:Int)+1)]) (λi a h'=>IntKind.i64.wrap (a.1-a.2)=(fY r i).1∧Ext h h') (1099511627776,0) rfl ae ⟨show IntKind.i64.wrap (1099511627776-0)=1099511627776 from w64 ae ae,e1⟩ λi a h2 again ρj _ hi ⟨F,I⟩ H=>?_
 obtain⟨P,M⟩:=a;simp only[go_sem];obtain⟨s1,s2⟩:=DC r i;refine aq (λh0=>?_) (λh0=>?_)
 ·rw[w64 (n:=((i:Int)+1)*1099511627776) ae ae];refine(jF s2 (by unfold I64;omega) (by unfold I64;omega)).mono λW L ⟨e,D⟩=>?_
  subst e;rw[dS _ _ _ _ ae,ah,jY ae];simp only[go_sem];have A:(fY r (i+1)).1=IntKind.i64.wrap (if i%2=0 then(fY r i).1-(fY r (i+1)).2 else(fY r i).1+(fY r (i+1)).2):=rfl;have G:(fY r (i+1)).2=df (fY r i).2 r (((i:Int)+1)*1099511627776):=rfl;rw[←G];rw[w64 (n:=(i:Int)+1+1) ae ae,show(i:Int)+1+1=((i+1:Nat):Int)+1 by omega];refine aq (λh4=>?_) (λh4=>?_)
  ·refine H (P,_) L ae ⟨?_,I.trans D⟩;rw[A,aB ae,←F];exact Vh _ _ _
  ·refine H (_,M) L ae ⟨?_,I.trans D⟩;rw[A,aA ae,←F];exact Vg _ _ _
 ·have:i=16:=ae;subst this;rw[F];refine(Ln s1 (by unfold I64;omega)).mono λW L ⟨e,D⟩=>?_
  exact⟨e,I.trans D⟩
theorem zba {h:ai}{d s:Int}(hd:I64 d)(D:I64 s):ag prog y8 #[af d,af s] h λr h'=>r=af (GH d s)∧Ext h h':=by
 apply OB;unfold Cu;simp only[go_sem];unfold GH;refine aq (λh0=>?_) (λh0=>?_)
 ·rw[aB ae];exact⟨rfl,Ext.refl _⟩
 ·rw[aA ae];have h1:=RT (d:=d) (B:=16384) ae ae;have A:=RT (d:=s) (B:=4194304) ae ae;rw[w64 (n:=d*d) ae ae,w64 (n:=d*d*2147483648) ae ae,w64 (n:=s*s) ae ae];exact jF (by unfold I64;omega) (by unfold I64;omega) (by unfold I64;omega)
theorem zbb {h:ai}{d s:Int}(hd:I64 d)(G:I64 s):ag prog y9 #[af d,af s] h λr h'=>r=af (Dz d s)∧Ext h h':=by
 apply OC;unfold Cv;refine(zba hd G).mono λA h1 ⟨e,F⟩=>?_
 subst e;refine(zeu (Oi _ _)).mono λA I ⟨e,H⟩=>?_
 subst e;refine(Ln (PO _) (by unfold I64;omega)).mono λA L ⟨e,D⟩=>?_
 exact⟨e,F.trans (H.trans D)⟩
theorem zet {h:ai}{p q:Int}(A:I64 p)(hq:I64 q):ag prog D0 #[af p,af q] h λr h'=>r=.bool (decide (MO p q))∧h'=h:=by
 apply TE;unfold IF;simp only[go_sem];unfold I64 at*;refine aq (λh0=>?_) (λh0=>?_)
 ·exact⟨by rw[b9];unfold MO;omega,trivial⟩
 ·refine⟨?_,trivial⟩
  congr 1
  rw[iB,w64 (n:= -4*q) ae ae,w64 (n:=4*q) ae ae];unfold MO;omega
theorem Qb {h:ai}{p q:Int}(hp:I64 p)(h0:p≠ -9223372036854775808)(hq:I64 q):ag prog qD #[af p,af q] h λr h'=>r=af (Aw p q)∧Ext h h':=by
 apply ME;unfold BK;unfold Aw;simp only[go_sem];unfold I64 at hp;refine bB (λI h'=>I=[af (max p (-p))]∧h'=h) ?_ ?_
 ·refine aq (λhc=>?_) (λhc=>?_)
  ·rw[w64 ae ae];exact⟨by rw[show max p (-p)=0-p by omega],rfl⟩
  ·exact⟨by rw[show max p (-p)=p by omega],rfl⟩
 rintro I ρj h1 ⟨rfl,hh⟩;have hh:=hh.symm;subst hh;have hm:I64 (max p (-p)):=by unfold I64 at*;omega
 simp only[go_sem];refine(jF (by unfold I64;omega) hm hq).mono λW h1 ⟨e,e1⟩=>?_
 subst e;refine(jF (gL _ _ _) hm hq).mono λW h2 ⟨e,e2⟩=>?_
 subst e;have hu:=gL (df 10851744800547 (max p (-p)) q) (max p (-p)) q;generalize df (df 10851744800547 (max p (-p)) q) (max p (-p)) q=u at*;refine bO (α:=Int×Int) 30 0 (λi a=>[af a.1,af a.2,af (cK u i).2,af ((i:Int)+1)]) (λi a h'=>IntKind.i64.wrap (a.1-a.2)=(cK u i).1∧Ext h h') (1099511627776,0) rfl ae ⟨show IntKind.i64.wrap (1099511627776-0)=1099511627776 from w64 ae ae,e1.trans e2⟩ λi a h3 again ρj _ hi ⟨F,D⟩ H=>?_
 obtain⟨P,M⟩:=a;simp only[go_sem];obtain⟨s1,s2⟩:=Av u i;refine aq (λh0=>?_) (λh0=>?_)
 ·have aa:=RT (d:=(i:Int)+1) (B:=30) ae ae;have he:=Vd ((i:Int)+1);rw[w64 (n:=2*((i:Int)+1)) ae ae,w64 (n:=2*((i:Int)+1)+1) ae ae,w64 (n:=2*((i:Int)+1)*(2*((i:Int)+1)+1)) ae ae,
   w64 (n:=2*((i:Int)+1)*(2*((i:Int)+1)+1)*1099511627776) ae ae]
  refine(jF s2 hu (by unfold I64;omega)).mono λW U ⟨e,L⟩=>?_
  subst e;rw[dS _ _ _ _ ae,ah,jY ae];simp only[go_sem];have A:(cK u (i+1)).1=IntKind.i64.wrap (if i%2=0 then(cK u i).1-(cK u (i+1)).2 else(cK u i).1+(cK u (i+1)).2):=rfl;have G:(cK u (i+1)).2=df (cK u i).2 u (2*((i:Int)+1)*(2*((i:Int)+1)+1)*1099511627776):=rfl;rw[←G];rw[w64 (n:=(i:Int)+1+1) ae ae,show(i:Int)+1+1=((i+1:Nat):Int)+1 by omega];refine aq (λh5=>?_) (λh5=>?_)
  ·refine H (P,_) U ae ⟨?_,D.trans L⟩;rw[A,aB ae,←F];exact Vh _ _ _
  ·refine H (_,M) U ae ⟨?_,D.trans L⟩;rw[A,aA ae,←F];exact Vg _ _ _
 ·have:i=30:=ae;subst this;exact⟨by rw[F],D⟩
theorem WZ {h:ai}{p q:Int}(D:I64 p)(hq:I64 q):ag prog uI #[af p,af q] h λr h'=>r=af (xj p q)∧Ext h h':=by
 apply K2;unfold zQ;unfold xj;refine(zet D hq).mono λA h1 ⟨F,w1⟩=>?_
 have w1:=w1.symm;subst F w1;by_cases G:MO p q
 ·have H:=G;unfold MO at H;simp only[go_sem,G];rw[w64 (n:=3*q) ae ae,w64 (n:= -3*q) ae ae];refine aq (λh0=>?_) (λh0=>?_)
  ·rw[aB ae];exact⟨rfl,Ext.refl _⟩
  ·rw[aA ae];refine(Qb D ae hq).mono λA h1 ⟨e,F⟩=>?_
   subst e;refine(Qb D ae (by unfold I64;omega)).mono λA h2 ⟨e,U⟩=>?_
   subst e;refine(UQ (yo _ _) (yo _ _) (by unfold I64;omega)).mono λA h3 ⟨e,L⟩=>?_
   subst e;refine(Ln (yT _ _ _) (by unfold I64;omega)).mono λA W ⟨e,I⟩=>?_
   exact⟨e,F.trans (U.trans (L.trans I))⟩
 ·simp only[go_sem,G];rw[aB trivial];exact⟨rfl,Ext.refl _⟩
end Go.Proofs.YtjljhnandbbldaaGreatDoor
namespace Go.Crisp
def inW (f n m i j:Int):Prop:=if f=0 then i*n<(j+1)*m∧j*m<(i+1)*n else
 2*m*j-(2*i+1)*n+m<dh f*(2*max n m)∧ -(dh f*(2*max n m))<2*m*j-(2*i+1)*n+m
instance (f n m i j:Int):Decidable (inW f n m i j):=by unfold inW;infer_instance
theorem ZN {f n m i j:Int}(h:xb f n m i):inW f n m i j↔rJ f n m i≤j∧j<oS f n m i:=by
 obtain⟨f0,f1,F,G,H,m1,D,I⟩:=h;unfold inW rJ oS PY;split
 ·have a1:= @Int.ediv_lt_iff_lt_mul (i*n) (j+1) m ae;have a2:= @Int.ediv_lt_iff_lt_mul (-((i+1)*n)) (-j) m ae;rw[Uo]at a2;constructor
  ·rintro⟨h1,A⟩;have:=a1.2 h1;have:=a2.2 ae;omega
  ·rintro⟨h1,A⟩;have:=a1.1 ae;have:=a2.1 ae;omega
 ·have a1:= @Int.ediv_lt_iff_lt_mul ((2*i+1)*n-m-dh f*2*max n m) j (2*m) ae;have a2:= @Int.ediv_lt_iff_lt_mul (-((2*i+1)*n-m+dh f*2*max n m)) (-j) (2*m) ae;rw[Uo]at a2;rw[gv j]at a1 a2;rw[oB (dh f)]at a1 a2;rw[oB (dh f)];constructor
  ·rintro⟨h1,A⟩;have:=a1.2 ae;have:=a2.2 ae;omega
  ·rintro⟨h1,A⟩;have:=a1.1 ae;have:=a2.1 ae;omega
theorem NG {f n m i:Int}(h:xb f n m i):rJ f n m i≤i*n/m∧i*n/m<oS f n m i:=by
 rw[←ZN h];obtain⟨f0,f1,n0,n1,m0,m1,i0,W⟩:=h;have hq:=xd (i*n) m;have hr:=kD (i*n) (show m≠0 by omega);have I:=iP (i*n) (show 0<m by omega);generalize i*n/m=j at*;generalize i*n%m=r at*;unfold inW;have H:(j+1)*m=m*j+m:=by rw[jX,kZ,gv]
 have L:(i+1)*n=i*n+n:=by rw[jX,kZ]
 have G:(2*i+1)*n=2*(i*n)+n:=by rw[jX,kZ,oB]
 have D:2*m*j=2*(m*j):=oB _ _ _;have U:j*m=m*j:=gv _ _;split
 ·rw[H,L,U];omega
 ·rw[G,D];have A:dh f=2∨dh f=3:=by unfold dh;rename_i F;rw[aA F];split<;>omega
  rcases A with A|A<;>rw[A]<;>omega
end Go.Crisp
namespace Go.Proofs.YtjljhnandbbldaaGreatDoor
open Go Go.Crisp
attribute [local irreducible] ag cO aT stK aG vK qK bL gK eM bC mkK cR HA JA Ep bsK
open _root_.Go.Proofs.Tryz
theorem zer {h:ai}{f n m i:Int}:ag prog DZ #[af f,af n,af m,af i] h λr h'=>r=.bool (decide (xb f n m i))∧h'=h:=by
 apply TD;unfold IE;simp only[go_sem];refine⟨?_,trivial⟩
 congr 1
 rw[iB];unfold xb;omega
abbrev jB (j:Int):Prop:= -137438953472≤j∧j≤137438953472
theorem Kv {h:ai}{f n m i j:Int}(F:xb f n m i)(hj:jB j):ag prog mF #[af n,af m,af i,af j] h λr h'=>
  r=.tuple #[af (2*m*j-(2*i+1)*n+m),af (2*max n m)]∧h'=h:=by
 apply Jn;unfold xY;simp only[go_sem];have I:=X0 F;obtain⟨b1,W,b3,U,b5⟩:=I;obtain⟨f0,f1,n0,n1,m0,m1,i0,L⟩:=F;have G:=MU (a:=j) (A:=137438953472) (b:=m) (B:=65536) ae ae ae ae;have H:2*m*j=2*(j*m):=by rw[oB,gv m j]
 rw[w64 (n:=2*m) ae ae,w64 (n:=2*n) ae ae,w64 (n:=2*m*j) ae ae,w64 (n:=2*i) ae ae,w64 (n:=2*i+1) ae ae,w64 (n:=(2*i+1)*n) ae ae,
  w64 (n:=2*m*j-(2*i+1)*n) ae ae,w64 (n:=2*m*j-(2*i+1)*n+m) ae ae]
 refine bB (λD h'=>D=[af (2*max n m)]∧h'=h) ?_ ?_
 ·refine aq (λhc=>?_) (λhc=>?_)
  ·exact⟨by rw[show max n m=m by omega],rfl⟩
  ·exact⟨by rw[show max n m=n by omega],rfl⟩
 rintro D ρj h1 ⟨rfl,hh⟩;exact⟨rfl,hh⟩
theorem zes {h:ai}{f n m i j:Int}(G:xb f n m i)(L:jB j):ag prog rZ #[af f,af n,af m,af i,af j] h λr h'=>
  r=.bool (decide (inW f n m i j))∧h'=h:=by
 apply VT;unfold LN;simp only[go_sem];have F:=G;have W:=X0 G;obtain⟨b1,b2,b3,b4,b5⟩:=W;obtain⟨f0,f1,n0,n1,m0,m1,i0,i1⟩:=G;have H:=MU (a:=j) (A:=137438953472) (b:=m) (B:=65536) ae ae ae ae;have U:(j+1)*m=j*m+m:=by rw[jX,kZ]
 refine aq (λD=>?_) (λD=>?_)
 ·rw[w64 (n:=i+1) ae ae,w64 (n:=(i+1)*n) ae ae,w64 (n:=j+1) ae ae,w64 (n:=(j+1)*m) ae ae,w64 (n:=i*n) ae ae,w64 (n:=j*m) ae ae];refine⟨?_,trivial⟩
  congr 1
  rw[iB];unfold inW;rw[aB D]
 ·refine(Kv F L).mono λv1 h1 ⟨I,w1⟩=>?_
  have w1:=w1.symm;subst I w1;simp only[go_sem];rw[w64 (n:=2*(2*max n m)) ae ae,w64 (n:=3*(2*max n m)) ae ae,w64 (n:=0-2*(2*max n m)) ae ae,w64 (n:=0-3*(2*max n m)) ae ae];refine aq (λhc=>?_) (λhc=>?_)
  ·refine⟨?_,trivial⟩
   congr 1
   rw[iB];unfold inW dh;rw[aA D,aA D,aA ae];omega
  ·refine⟨?_,trivial⟩
   congr 1
   rw[iB];unfold inW dh;rw[aA D,aA D,aB ae];omega
theorem Yt {h:ai}{f n m i j:Int}(A:xb f n m i)(D:jB j):ag prog rZ #[af f,af n,af m,af i,af j] h λr h'=>
  r=.bool (decide (rJ f n m i≤j∧j<oS f n m i))∧h'=h:=
 (zes A D).mono λv h1 ⟨e,w⟩=>⟨by rw[e];congr 1;exact iB.2 (ZN A),w⟩
theorem zcX {h:ai}{p q:Int}(F: -4611686018427387904≤p∧p≤4611686018427387904)(hq:I64 q):ag prog Bi #[af p,af q] h λr h'=>r=af (Kh p q)∧Ext h h':=by
 apply Rj;unfold FT
 try simp only[go_sem]
 unfold Kh;refine aq (λh0=>?_) (λh0=>?_)
 ·rw[aB ae];exact⟨rfl,Ext.refl _⟩
 rw[w64 (n:=2*q) ae ae,w64 (n:= -2*q) ae ae];refine aq (λh1=>?_) (λh1=>?_)
 ·rw[aB ae];exact⟨rfl,Ext.refl _⟩
 rw[aA ae];refine bB (λD h'=>D=[af (max p (-p))]∧h'=h) ?_ ?_
 ·refine aq (λhc=>?_) (λhc=>?_)
  ·rw[w64 ae ae];exact⟨by rw[show max p (-p)=0-p by omega],rfl⟩
  ·exact⟨by rw[show max p (-p)=p by omega],rfl⟩
 rintro D ρj G ⟨rfl,hh⟩;have hh:=hh.symm;subst hh;generalize max p (-p)=a
 try simp only[go_sem]
 simp only[Ao,GB,wB,rA,An,GA];unfold Ym;refine aq (λh1=>?_) (λh1=>?_)
 ·rw[aA ae];have A:3*(a*a*a)-5*(a*a)*q+2*(q*q*q)=3*(a*a*a)-5*(a*a*q)+2*(q*q*q):=by grind
  rw[A];exact jF (kL _) (by unfold I64;omega) (kL _)
 ·rw[aB ae];have A:5*(a*a)*q-a*a*a-8*a*(q*q)+4*(q*q*q)=4*(q*q*q)+5*(a*a*q)-a*a*a-8*(a*q*q):=by grind
  rw[A];exact jF (kL _) (by unfold I64;omega) (kL _)
theorem Ys {h:ai}{f n m i j:Int}(H:xb f n m i)(hj:jB j):ag prog xE #[af f,af n,af m,af i,af j] h λr h'=>
  r=af (As f n m i j)∧Ext h h':=by
 apply MD;unfold BJ
 try simp only[go_sem]
 have F:=H;have hb:=X0 H;obtain⟨b1,b2,b3,b4,b5⟩:=hb;obtain⟨f0,f1,n0,n1,m0,m1,i0,i1⟩:=H;unfold As;have L:=MU (a:=j) (A:=137438953472) (b:=m) (B:=65536) ae ae ae ae;have aa:(j+1)*m=j*m+m:=by rw[jX,kZ]
 have W:2*m*j=2*(j*m):=by rw[oB,gv m j]
 refine aq (λG=>?_) (λG=>?_)
 ·rw[aB G];rw[w64 (n:=i+1) ae ae,w64 (n:=(i+1)*n) ae ae,w64 (n:=j+1) ae ae,w64 (n:=(j+1)*m) ae ae,w64 (n:=i*n) ae ae,w64 (n:=j*m) ae ae];refine bB (λI h'=>I=[af (max (i*n) (j*m))]∧h'=h) ?_ ?_
  ·refine aq (λhc=>?_) (λhc=>?_)
   ·exact⟨by rw[show max (i*n) (j*m)=j*m by omega],rfl⟩
   ·exact⟨by rw[show max (i*n) (j*m)=i*n by omega],rfl⟩
  rintro I ρj h2 ⟨rfl,hh⟩;have hh:=hh.symm;subst hh;simp only[go_sem];refine aq (λhc=>?_) (λhc=>?_)
  ·rw[w64 ae ae,show min ((i+1)*n) ((j+1)*m)=(j+1)*m by omega];exact jF (by unfold I64;omega) (by unfold I64;omega) (by unfold I64;omega)
  ·rw[w64 ae ae,show min ((i+1)*n) ((j+1)*m)=(i+1)*n by omega];exact jF (by unfold I64;omega) (by unfold I64;omega) (by unfold I64;omega)
 rw[aA G];refine(Kv F hj).mono λv1 h1 ⟨U,w1⟩=>?_
 have w1:=w1.symm;subst U w1;simp only[go_sem];refine aq (λD=>?_) (λD=>?_)
 ·rw[aB D];exact zcX ae (by unfold I64;omega)
 ·rw[aA D];exact WZ (by unfold I64;omega) (by unfold I64;omega)
theorem zeq {h:ai}{f n m i:Int}:ag prog yH #[af f,af n,af m,af i] h λr h'=>
  ∃v,r=.tuple #[af (fI f n m i),v]∧New (Rp.int .i64) h h' v (dp f n m i):=by
 apply TC;unfold ID;refine zer.mono λv1 h1 ⟨I,w1⟩=>?_
 have w1:=w1.symm;subst I w1;unfold fI dp;by_cases A:xb f n m i
 ·rw[aB A,aB A];simp only[go_sem,A];have ar:=Pn A;have an:=NG A;have al:=X0 A;obtain⟨b1,b2,b3,b4,b5⟩:=al;have ad:=A;obtain⟨f0,f1,n0,n1,m0,m1,i0,i1⟩:=ad;have am:=ue (a:=i*n) (b:=m) (L:=0) (U:=4294967296) ae ae ae ae ae;rw[w64 (n:=i*n) ae ae,nD _ _ _ _ ae,ah,yt b1.1,w64 ae ae];generalize D:rJ f n m i=lo at*;generalize F:oS f n m i=hi at*;generalize i*n/m=W at*;refine kB (λk=>[af (W-(k:Int))]) (W-lo).toNat 0 (by simp) (bZ _) λk again ρj _ hk H=>?_
  simp only[go_sem];rw[w64 (n:=W-(k:Int)-1) ae ae];refine(Yt A ae).mono λv1 h1 ⟨I,w1⟩=>?_
  have w1:=w1.symm;subst I w1;rw[D,F];refine aq (λhc=>?_) (λhc=>?_)
  ·have H:=H ae;rw[show W-((k+1:Nat):Int)=W-(k:Int)-1 by omega]at H;exact H
  have hk:W-(k:Int)=lo:=ae;rw[hk];refine kB (λk=>[af lo]) 0 0 rfl (ck _) λk2 aa ρj2 _ au _=>?_
  simp only[go_sem];refine(Yt A ae).mono λv1 h1 ⟨I,w1⟩=>?_
  have w1:=w1.symm;subst I w1;rw[D,F,cH ae];simp only[go_sem];refine bO (hi-lo).toNat 0 (λk v=>[af (lo+(k:Int)),v]) (λk v h'=>New (Rp.int .i64) h h' v ((EZ f n m i).take k)) (.slice none 0 0) (by simp) (bZ _) (New.nil (Ext.refl _)) λk v h2 again ρj _ hk hI H=>?_
  simp only[go_sem];have hl:(EZ f n m i).length=(hi-lo).toNat:=by unfold EZ;rw[da,fF,D,F]
  refine(Yt A ae).mono λv1 h3 ⟨I,w1⟩=>?_
  have w1:=w1.symm;subst I w1;rw[D,F];refine aq (λh0=>?_) (λh0=>?_)
  ·refine(Ys A ae).mono λv2 h3 ⟨e2,w2⟩=>?_
   subst e2;have G:((EZ f n m i).take k).length=k:=by rw[di];omega
   refine(hI.ext w2).push_int rfl (by rw[G];omega) (by rw[G];omega) λs' h' H'=>?_
   try simp only[go_sem]
   rw[w64 ae ae];have:=H s' h' ae (by
    have e:=pu (λk:Nat=>As f n m i (rJ f n m i+k)) (oS f n m i-rJ f n m i).toNat k ae;unfold EZ at H' ⊢;rw[e,D];rw[D]at H';exact H')
   rw[show lo+((k+1:Nat):Int)=lo+(k:Int)+1 by omega]at this;exact this
  ·rw[fg ae]at hI;exact⟨v,rfl,hI⟩
 ·rw[aA A,aA A];simp only[go_sem,A];exact⟨_,rfl,New.nil (Ext.refl _)⟩
end Go.Proofs.YtjljhnandbbldaaGreatDoor
namespace Go.Proofs.YtjljhnandbbldaaGreatDoor
open Go Go.Crisp
attribute [local irreducible] ag cO aT stK aG vK qK bL gK eM bC mkK cR HA JA Ep bsK clK
open _root_.Go.Proofs.Tryz
theorem WX {h:ai}{a b:Int}(A:I64 a)(D:I64 b):ag prog vX #[af a,af b] h λr h'=>r=af (Fq a b)∧h'=h:=by
 apply Re;unfold FO;simp only[go_sem,jA];unfold Fq I64 at*;refine aq (λh0=>?_) (λh0=>?_)
 ·exact⟨by congr 1;omega,trivial⟩
 refine aq (λh1=>?_) (λh1=>?_)
 ·exact⟨by congr 1;omega,trivial⟩
 ·exact⟨by congr 1;omega,trivial⟩
theorem WY {h:ai}{x:Int}(A:I64 x):ag prog vY #[af x] h λr h'=>r=af (oN x)∧h'=h:=by
 apply Rg;unfold FQ;rw[Im A];simp only[go_sem,jA];unfold I64 at*;refine aq (λh0=>?_) (λh0=>?_)
 ·exact⟨by congr 1;omega,trivial⟩
 refine aq (λh1=>?_) (λh1=>?_)
 ·exact⟨by congr 1;omega,trivial⟩
 ·exact⟨by congr 1;omega,trivial⟩
theorem zep {Z:Nat→Prop}{h:ai}{v:Value}{l:List Int}(H:SlI Z h v l)(D:∀x∈l,I64 x)(hl:l.length<4611686018427387904):ag prog DY #[v] h λr h'=>r=af (nW l)∧h'=h:=by
 apply TB;unfold IC;obtain⟨a,cap,e⟩:=H.isSl;have U:aD v=some (af (l.length:Int)):=by rw[e];rfl
 rw[U,ah];refine kB (λi=>[af ((l.take i).foldl Fq 0),af (i:Int)]) l.length 0 rfl (bZ _) λi again ρj _ hi F=>?_
 simp only[go_sem];refine aq (λh0=>?_) (λh0=>?_)
 ·have A:i<l.length:=ae;obtain⟨p,I,G⟩:=H.int_at (k':=.i64) A;simp only[go_sem,I,G];refine(WX (rN Ak _ _ Al) (D _ (cQ _))).mono λW h1 ⟨L,w1⟩=>?_
  subst L w1;rw[w64 ae ae];have:=F A;rw[Ei A]at this;exact this
 ·rw[fg ae];exact⟨rfl,trivial⟩
theorem za9 {Z:Nat→Prop}{h:ai}{v:Value}{l:List Int}(H:SlI Z h v l)(F:∀x∈l,I64 x)(hl:l.length<4611686018427387904):ag prog y7 #[v] h λr h'=>r=af (oe l)∧h'=h:=by
 apply OA;unfold Ct;obtain⟨a,cap,e⟩:=H.isSl;have e2:aD v=some (af (l.length:Int)):=by rw[e];rfl
 rw[e2,ah];refine kB (λi=>[af ((l.take i).foldl (λs x=>Fq s (oN x)) 0),af (i:Int)]) l.length 0 rfl (bZ _) λi again ρj _ hi G=>?_
 simp only[go_sem];refine aq (λh0=>?_) (λh0=>?_)
 ·have A:i<l.length:=ae;obtain⟨p,W,L⟩:=H.int_at (k':=.i64) A;simp only[go_sem,W,L];have I:=F _ (cQ A);refine(WY I).mono λU h1 ⟨D,w1⟩=>?_
  subst D w1;refine(WX (rN (λa b=>Ak a (oN b)) _ _ Al) (RV I)).mono λU h1 ⟨D,w1⟩=>?_
  subst D w1
  try simp only[go_sem]
  rw[w64 ae ae];have:=G A;rw[Ei A]at this;exact this
 ·rw[fg ae];exact⟨rfl,trivial⟩
theorem QH (l:List Int):0≤oe l∨¬ ∀x∈l,I64 x:=by
 by_cases h:∀x∈l,I64 x
 ·left;unfold oe;have:∀(l:List Int) (s:Int),(∀x∈l,I64 x)→0≤s→0≤l.foldl (λs x=>Fq s (oN x)) s:=by
   intro l;induction l with
   |nil=>intro s _ A;exact A
   |cons x l F=>
    intro s h A;refine F _ (λy G=>h y (by simp[G])) ?_;have D:=Im (h x (by simp));show 0≤Fq s (oN x);rw[D];unfold Fq;omega
  exact this l 0 h (gj _)
 ·exact .inr h
theorem Qa {Z:Nat→Prop}{h:ai}{v:Value}{l:List Int}(H:SlI Z h v l)(F:∀x∈l,I64 x)(hl:l.length<4611686018427387904):
  ag prog qC #[v] h λr h'=>∃u,r=.tuple #[u,af (Ci l)]∧New (Rp.int .i64) h h' u (te l):=by
 apply Rf;unfold FP;refine(za9 H F hl).mono λv1 h1 ⟨e1,w1⟩=>?_
 have w1:=w1.symm;subst e1 w1;obtain⟨a,cap,e⟩:=H.isSl;have U:aD v=some (af (l.length:Int)):=by rw[e];rfl
 simp only[go_sem,U];rw[dS _ _ _ _ ae,ah,jY ae];simp only[go_sem,U];unfold Ci te;have hs:=NH l;have aa:0≤oe l:=(QH l).resolve_right λhh=>hh F
 refine aq (λh0=>?_) (λh0=>?_)
 ·have:kq l:=by unfold kq;omega
  rw[aB this,aB this];exact⟨_,rfl,New.nil (Ext.refl _)⟩
 ·have I:¬kq l:=by unfold kq;omega
  rw[aA I,aA I];refine bO l.length 0 (λk u=>[u,af (k:Int)]) (λk u h'=>New (Rp.int .i64) h h' u ((l.map λx=>df x 1073741824 (oe l)).take k)) (.slice none 0 0) rfl (bZ _) (New.nil (Ext.refl _)) λk u h2 again ρj _ hk G L=>?_
  simp only[go_sem];refine aq (λh0=>?_) (λh0=>?_)
  ·have D:k<l.length:=ae;obtain⟨p,e3,W⟩:=(H.ext G.2.1).int_at (k':=.i64) D;simp only[go_sem,e3,W];refine(jF (F _ (cQ _)) (by unfold I64;omega) hs).mono λv2 h3 ⟨e5,w5⟩=>?_
   subst e5;have A:((l.map λx=>df x 1073741824 (oe l)).take k).length=k:=by rw[di,da];omega
   unfold kq at I;refine(G.ext w5).push_int rfl (by rw[A];omega) (by rw[A];omega) λs' h' H'=>?_
   try rw[dD,ah]
   rw[w64 ae ae];have:=L s' h' D (by rw[Gu _ _ D];exact H');exact this
  ·rw[fg (by rw[da];omega)]at G;exact⟨u,rfl,G⟩
theorem UP {h:ai}{s:Int}(hs:I64 s):ag prog rY #[af s] h λr h'=>∃u,r=.tuple #[u,af (Hq s)]∧New (Rp.int .i64) h h' u (pW s):=by
 apply Jm;unfold xX;simp only[go_sem];unfold Hq pW;refine aq (λh0=>?_) (λh0=>?_)
 ·have:nC s:=h0;rw[aB this,aB this];exact⟨_,rfl,New.nil (Ext.refl _)⟩
 ·have I:¬nC s:=h0;rw[aA I,aA I];have hr:0≤ir s∧ir s≤193∧65536*ir s≥3*s∧65536*(ir s-1)<3*s:=by unfold ir;omega
  generalize ir s=q at*;refine kB (λk=>[af (k:Int)]) q.toNat 0 rfl (bZ _) λk again ρj _ W D=>?_
  simp only[go_sem];rw[w64 (n:=(k:Int)*65536) ae ae,w64 (n:=3*s) ae ae];refine aq (λh1=>?_) (λh1=>?_)
  ·rw[w64 ae ae];exact D ae
  have H:(k:Int)=q:=ae;rw[H,w64 (n:=0-q) ae ae];obtain⟨N,U⟩:∃N,N=(2*q+1).toNat:=⟨_,rfl⟩
  rw[←U];refine bO N 0 (λk u=>[u,af ((k:Int)-q)]) (λk u h'=>New (Rp.int .i64) h h' u (((List.range N).map λk:Nat=>Dz ((k:Int)-q) s).take k)) (.slice none 0 0) rfl (bZ _) (New.nil (Ext.refl _)) λk u h2 again ρj _ W G D=>?_
  simp only[go_sem];refine aq (λL=>?_) (λL=>?_)
  ·have F:k<N:=ae;refine(zbb (by unfold I64;omega) hs).mono λv2 L ⟨e5,w5⟩=>?_
   subst e5;have A:(((List.range N).map λk:Nat=>Dz ((k:Int)-q) s).take k).length=k:=by rw[di,da,fF];omega
   refine(G.ext w5).push_int rfl (by rw[A];omega) (by rw[A];omega) λs' h' H'=>?_
   try rw[dD,ah]
   rw[w64 ae ae];have:=D s' h' F (by rw[pu _ _ _ F];exact H');rw[show((k+1:Nat):Int)-q=(k:Int)-q+1 by omega]at this;exact this
  ·rw[fg (by rw[da,fF];omega)]at G;exact⟨u,rfl,G⟩
theorem zcW {h:ai}{r:Int}(hr:I64 r):ag prog Bh #[af r] h λw h'=>∃u,w=.tuple #[u,af (S0 r)]∧New (Rp.int .i64) h h' u (Ai r):=by
 apply Ri;unfold FS
 try simp only[go_sem]
 unfold S0 Ai;refine aq (λh0=>?_) (λh0=>?_)
 ·have:vQ r:=h0;rw[aB this,aB this];exact⟨_,rfl,New.nil (Ext.refl _)⟩
 ·have F:¬vQ r:=h0;rw[aA F,aA F];rw[w64 (n:=2*r) ae ae]
  try simp only[go_sem]
  rw[w64 (n:=2*r+1) ae ae];obtain⟨N,L⟩:∃N:Nat,N=(2*r+1).toNat:=⟨_,rfl⟩
  rw[←L,show 2*r+1=(N:Int)by omega];refine bO N 0 (λk u=>[u,af (k:Int)]) (λk u h'=>New (Rp.int .i64) h h' u (List.replicate k 1)) (.slice none 0 0) rfl (bZ _) (New.nil (Ext.refl _)) λk u h2 again ρj _ hk A D=>?_
  simp only[go_sem];refine aq (λH=>?_) (λH=>?_)
  ·refine A.push_int rfl (by rw[xc];omega) (by rw[xc];omega) λU h' G=>?_
   try rw[dD,ah]
   rw[w64 ae ae];rw[←List.replicate_succ']at G;exact D U h' ae G
  ·have:k=N:=ae;subst this;refine(Qa A.sl (λx W=>by rw[(M6.1 W).2];unfold I64;omega) (by rw[xc];omega)).mono λw H ⟨u,e,I⟩=>?_
   subst e
   try simp only[go_sem]
   exact⟨u,rfl,I.before A.2.1⟩
theorem Tn {k:IntKind}{Z:Nat→Prop}{h:ai}{v:Value}{l:List Int}(H:Rp.Ow (Rp.int k) Z h v l):Own 1 h v l.length (l.map λn=>Value.int k n):=by
 obtain⟨ds,A,_,F⟩:=H;have L:ds.length=l.length*1:=A.sl.1;have e:ds=l.map λn=>Value.int k n:=by
  apply pU
  ·simp;omega
  ·intro i h1 I;have G:=F i ae;have D:Rp.el 1 ds i=[Value.int k (l[i]'ae)]:=G;rw[Rp.el_one h1]at D;simpa using D
 rw[←e];exact A
structure QB (h0 h:ai)(x y:Value)(l m:List Int):Prop where
 ext:Ext h0 h
 ox:Rp.Ow (Rp.int .i64) (λ_=>False) h x l
 oy:Rp.Ow (Rp.int .i64) (λ_=>False) h y m
 nx:∀b,blk x b→h0.size≤b
 ny:∀b,blk y b→h0.size≤b
 dis:∀b,blk x b→¬blk y b
theorem QB.more {h0 h h':ai}{x y:Value}{l m:List Int}(T:QB h0 h x y l m)(e:Ext h h'):QB h0 h' x y l m:=⟨T.ext.trans e,T.ox.ext e,T.oy.ext e,T.nx,T.ny,T.dis⟩
theorem QB.push_x {h0 h:ai}{x y:Value}{l m:List Int}{n:Int}{t t':TypeId}{bytes:Nat}{K:Value→ai→Prop}(T:QB h0 h x y l m)(A:(l.length+1)*bytes≤140737488355328)(L:l.length+1≤9223372036854775807)
  (H:∀D h',QB h0 h' D y (l++[n]) m→K D h'):cO #[aj] t 1 [(0,1,af n)] h λI h3=>cR aj t' 1 bytes x I h3 K:=by
 refine Rp.push_ow1 (e:=Rp.int .i64) rfl T.ox (x:=n) rfl rfl A L (λb A=>A.elim) λU h' o' F n'=>H U h' ⟨T.ext.then_fr F T.nx,o',T.oy.fr F (λ_ _=>False.elim) λb A W=>T.dis b W A,λb A=>?_,T.ny,λb A G=>?_⟩
 ·rcases n' b A with h1|h1
  ·exact T.nx b h1
  ·exact bA T.ext.1 h1
 ·rcases n' b A with h1|h1
  ·exact T.dis b h1 G
  ·have:=T.oy.lt G;omega
theorem QB.swap {h0 h:ai}{x y:Value}{l m:List Int}(T:QB h0 h x y l m):QB h0 h y x m l:=⟨T.ext,T.oy,T.ox,T.ny,T.nx,λb A D=>T.dis b D A⟩
theorem uq {β:Type}(g:Nat→β)(n k:Nat)(h:k<n):(List.range (k+1)).map g=(List.range k).map g++[g k]:=by
 rw[rK,jW];rfl
theorem Gx {Z:Nat→Prop}{h:ai}{v:Value}{l:List Int}(H:SlI Z h v l)(al:∀x∈l,I64 x)(hl:l.length<4611686018427387904):
  ag prog jp #[v] h λr h'=>∃u,r=.tuple #[u,af (dj l)]∧New (Rp.int .i64) h h' u (cC l):=by
 apply GV;unfold wM;obtain⟨a,cap,e⟩:=H.isSl;have e2:aD v=some (af (l.length:Int)):=by rw[e];rfl
 simp only[go_sem,e2];refine aq (λh0=>?_) (λh0=>?_)
 ·have hB:HZ l:=by unfold HZ;rcases h0 with h2|h2;exact .inl ae;exact .inr (.inl ae)
  have hc:dj l=7:=by unfold dj;rw[aB hB]
  unfold cC;rw[hc,aA ae];exact⟨_,rfl,New.nil (Ext.refl _)⟩
 refine bO (α:=Unit) l.length 0 (λi _=>[af (i:Int)]) (λi _ h'=>(∀j (U:j<l.length),j<i→¬1099511627776<oN l[j])∧h'=h) () rfl (bZ _) ⟨λj _ U=>absurd U ae,rfl⟩ λi _ h1 again ρj _ hi ⟨hs,eh⟩ aa=>?_
 have eh:=eh.symm;subst eh;simp only[go_sem];refine aq (λh2=>?_) (λh2=>?_)
 ·have I:i<l.length:=ae;obtain⟨p,e3,e4⟩:=H.int_at (k':=.i64) I;simp only[go_sem,e3,e4];have hx:=al _ (cQ I);refine(WY hx).mono λv1 h1 ⟨e1,w1⟩=>?_
  have w1:=w1.symm;subst e1 w1;simp only[go_sem];refine aq (λD=>?_) (λD=>?_)
  ·have hB:HZ l:=.inr (.inr ⟨_,cQ I,D⟩);have hc:dj l=7:=by unfold dj;rw[aB hB]
   unfold cC;rw[hc,aA ae];exact⟨_,rfl,New.nil (Ext.refl _)⟩
  ·rw[w64 ae ae];refine aa () h I ⟨λj U cc=>?_,rfl⟩;by_cases a7:j=i
   ·subst a7;exact D
   ·exact hs j U ae
 have b3:i=l.length:=ae;subst b3;have hB:¬HZ l:=by
  unfold HZ;rintro(D|D|⟨x,hx,D⟩)
  ·omega
  ·omega
  ·obtain⟨j,U,rfl⟩:=List.getElem_of_mem hx;exact hs j U U D
 refine(zep H al hl).mono λv1 h1 ⟨e1,w1⟩=>?_
 have w1:=w1.symm;subst e1 w1;simp only[go_sem];refine aq (λD=>?_) (λD=>?_)
 ·have hc:dj l=8:=by unfold dj;rw[aA hB,aB D]
  unfold cC;rw[hc,aA ae];exact⟨_,rfl,New.nil (Ext.refl _)⟩
 have hc:dj l=0:=Me.2 ⟨hB,ae⟩;have G:=zco al hc;have s1:=G.sum;have b8:=Vj l;have hn:=G.len;have b6:=G.pos;unfold cC;rw[aB hc,hc];refine bO (α:=Value×Value) l.length 0 (λk a=>[a.1,a.2,af (xi l k),af (k:Int)]) (λk a h'=>QB h h' a.1 a.2 ((List.range k).map (gW l)) ((List.range k).map (eK l))) (.slice none 0 0,.slice none 0 0) rfl (bZ _)
  ⟨Ext.refl _,Rp.Ow.nil,Rp.Ow.nil,λb A=>A.elim,λb A=>A.elim,λb A=>A.elim⟩ λk a h1 again ρj _ hk T aa=>?_
 obtain⟨x,y⟩:=a;have T:QB h h1 x y ((List.range k).map (gW l)) ((List.range k).map (eK l)):=T;simp only[go_sem];refine aq (λh4=>?_) (λh4=>?_)
 ·have W:k<l.length:=ae;obtain⟨p,e3,e4⟩:=(H.ext T.ext).int_at (k':=.i64) W;simp only[go_sem,e3,e4];have eg:l.getD k 0=l[k]:=by simp[dr,W]
  have hx:=G.small k;rw[eg]at hx;rw[w64 (n:=l[k]*16384) ae ae];refine(SL (by unfold I64;omega) b8).mono λv1 h4 ⟨e5,w5⟩=>?_
  subst e5;rw[rO (by unfold I64;omega) ae];have eb:l[k]*16384/nW l=gW l k:=by unfold gW;rw[eg]
  have er:eK l k=l[k]*16384-gW l k*nW l:=by unfold eK;rw[←eb,eg,Int.emod_def,gv (nW l)]
  rw[eb];have a9:=Aj G k;have ca:=Pq G k;have bo:=Of G k;refine(T.more w5).push_x (by rw[da,fF];omega) (by rw[da,fF];omega) λx' h5 T=>?_
  try simp only[go_sem]
  have cb:gW l k*nW l=l[k]*16384-eK l k:=by rw[er];omega
  have cr:eK l k<nW l:=bo.2;have ci:nW l≤1152921504606846976:=by
   have h6:=Tk G l.length;rw[←RS G]at h6;have:(l.length:Int)*1099511627776≤1048576*1099511627776:=ae;omega
  rw[w64 (n:=gW l k*nW l) ae ae,←er,w64 (n:=eK l k) ae ae];refine T.swap.push_x (by rw[da,fF];omega) (by rw[da,fF];omega) λy' h6 T=>?_
  try simp only[go_sem]
  rw[w64 (n:=xi l k-gW l k) ae ae,w64 (n:=(k:Int)+1) ae ae];refine aa (x',y') h6 W ?_;rw[uq _ (k+1) k ae,uq _ (k+1) k ae];exact T.swap
 have a8:k=l.length:=ae;subst a8;obtain⟨L0,L1⟩:=left_bd G;obtain⟨m,hm⟩:∃m:Nat,Ae l=(m:Int):=⟨(Ae l).toNat,ae⟩
 have b0:xi l l.length=(m:Int):=hm;rw[b0];have o1:=Tn T.ox;have o2:=Tn T.oy;rw[da,fF,AZ]at o1 o2;have ar:=T.dis;have nx:=T.nx;have ny:=T.ny;have E1:=T.ext;obtain⟨ya,au,ey⟩:=o2.isSl;have ey:y=.slice ya l.length au:=ey;have bd:aD y=some (af (l.length:Int)):=by rw[ey];rfl
 refine bO (α:=Unit) m 0 (λk _=>[af ((m:Int)-(k:Int))])
  (λk _ h'=>Ext h h'∧Own 1 h' x l.length ((List.range l.length).map λi=>af (gW l i+(if(mN (eK l) l.length i:Int)<(k:Int)then 1 else 0)))∧Own 1 h' y l.length ((List.range l.length).map λi=>af (ku (eK l) l.length k i)))
  () (by simp) (bZ _) ⟨E1,by
   rw[ch (f:=λi=>af (gW l i)) (λi hi=>by rw[aA ae,Int.add_zero])];exact o1,by rw[VF];exact o2⟩ λk _ h2 ax ρj2 _ hk ⟨E2,q1,q2⟩ an=>?_
 simp only[go_sem];refine aq (λh5=>?_) (λh5=>?_)
 ·have bk:k<m:=ae;rw[bd,ah];have be:∀i,i<l.length→0≤eK l i:=λi _=>(Of G i).1
  refine bO (α:=Nat) l.length 0 (λj b=>[af (b:Int),af (j:Int)])
   (λj b h'=>h'=h2∧b<l.length∧(∀i,i<j→ku (eK l) l.length k i≤ku (eK l) l.length k b)∧(∀i,i<b→ku (eK l) l.length k i<ku (eK l) l.length k b)∧b≤j) 0 rfl (bZ _)
   ⟨rfl,b6,λi hi=>absurd hi ae,λi hi=>absurd hi ae,ck _⟩ λj b D ay ρj3 _ U ⟨eh,A,p1,p2,ct⟩ L=>?_
  have eh:=eh.symm;subst eh;simp only[go_sem];refine aq (λh6=>?_) (λh6=>?_)
  ·have F:j<l.length:=ae;obtain⟨pj,j1,j2,_⟩:=Own.at_map q2 (k:=.i64) F;obtain⟨pb,b1,b2,_⟩:=Own.at_map q2 (k:=.i64) A;simp only[go_sem,j1,j2,b1,b2];rw[w64 (n:=(j:Int)+1) ae ae];refine aq (λh7=>?_) (λh7=>?_)
   ·refine L j h2 F ⟨rfl,F,λi hi=>?_,λi hi=>?_,ae⟩
    ·by_cases ad:i=j
     ·rw[ad];exact gj _
     ·have:=p1 i ae;omega
    ·have:=p1 i hi;omega
   ·refine L b h2 F ⟨rfl,A,λi hi=>?_,p2,ae⟩;by_cases ad:i=j
    ·rw[ad];omega
    ·exact p1 i ae
  have bg:j=l.length:=ae;subst bg;have am:=zbB be (k:=k) ae A p1 p2;obtain⟨px,x1,x2,x3⟩:=Own.at_map q1 (k:=.i64) A;simp only[go_sem,x1,x2];have a9:=Aj G b;rw[w64 (n:=gW l b+(if(mN (eK l) l.length b:Int)<(k:Int)then 1 else 0)+1) (by split<;>omega) (by split<;>omega)];refine x3 _ _ λD b5 f3=>?_
  have bv:=q2.fr f3 λc hc hx=>ar c hx hc
  obtain⟨py,y1,y2,y3⟩:=Own.at_map bv (k:=.i64) A;simp only[go_sem,y1];refine y3 _ _ λh4 b7 f4=>?_
  have b4:=b5.fr f4 λc hc hy=>ar c hc hy
  rw[w64 ae ae,show(m:Int)-(k:Int)-1=(m:Int)-((k+1:Nat):Int)by omega];refine an () h4 bk ⟨(E2.then_fr f3 nx).then_fr f4 ny,?_,?_⟩
  ·rw[ch (f:=λj=>af (if j=b then gW l b+(if(mN (eK l) l.length b:Int)<(k:Int)then 1 else 0)+1 else gW l j+if(mN (eK l) l.length j:Int)<(k:Int)then 1 else 0)) (λi hi=>by
    congr 1
    by_cases he:i=b
    ·rw[aB he,he,aB ae,aA ae];omega
    ·rw[aA he];have cp:mN (eK l) l.length i≠k:=λe=>he (Jh hi A (e.trans am.symm))
     by_cases h8:mN (eK l) l.length i<k
     ·rw[aB ae,aB ae]
     ·rw[aA ae,aA ae])]
   exact b4
  ·rw[ch (f:=λj=>af (if j=b then-1 else ku (eK l) l.length k j)) (λi hi=>by rw[VG A am hi])];exact b7
 ·have:k=m:=ae;subst this;refine⟨x,rfl,⟨(nV l).map λn=>af n,?_,λc _=>id,λi hi=>?_⟩,E2,nx⟩
  ·rw[rD];unfold nV;rw[AZ];simp only[←hm]at q1;exact q1
  ·have e:Rp.el (Rp.int .i64).w ((nV l).map λn=>af n) i=[af (nV l)[i]]:=by
    have:=Rp.el_one (ds:=(nV l).map λn=>af n) (i:=i) (by simpa using hi);rw[eE]at this;exact this
   exact e
end Go.Proofs.YtjljhnandbbldaaGreatDoor
namespace Go.Proofs.YtjljhnandbbldaaGreatDoor
open Go Go.Crisp
attribute [local irreducible] ag cO aT stK aG vK qK bL gK eM bC mkK cR HA JA Ep bsK
open _root_.Go.Proofs.Tryz
theorem Lu (a:Option Addr)(n c:Nat):ak .sl .eql (.slice a n c) (.slice none 0 0)=some (.bool a.isNone):=by cases a<;>rfl
theorem zbw {h:ai}{Z:Nat→Prop}{v:Value}{l:List Int}(H:Rp.Sl rI Z h v l)(hl:l.length≤1000000000):
  ag prog dx #[v] h λr h'=>Rp.Sl rI (λb=>h.size≤b) h' r l∧Ext h h':=by
 apply jU;unfold gu;obtain⟨ds,⟨D,a,cap,rfl,F⟩,A,he⟩:=H;rw[Lu,ah];cases a with
 | none=>
  have:l=[]:=by
   rcases F with F|⟨b,o,h0,_⟩
   ·subst F;have W:([]:List Value).length=l.length*1:=D;exact lg (by simpa using W.symm)
   ·cases h0
  subst this;simp only[Ud,go_sem];exact⟨Rp.Sl.nil,Ext.refl _⟩
 | some a=>
  simp only[Uc,go_sem];refine cT (c':=#[]) rfl λb h1 r1 G n1=>?_
  have O:Rp.Ow rI (λ_=>False) h1 (.slice (some ⟨b,0,none⟩) 0 0) []:=⟨[],.inr ⟨b,0,[],_,rfl,ck _,rfl,rfl,r1⟩,λb hb I=>I,λi hi=>absurd hi (by simp)⟩
  have S1:SlC 1 h1 (.slice (some a) l.length cap) l.length ds:=SlC.ext ⟨D,some a,cap,rfl,F⟩ G;refine Rp.app_ow (e:=rI) (l:=[]) (l2:=l) O S1 (λi hi=>he i hi) rfl (by simp;omega) (by simp;omega) (λb hb=>hb.elim) λv2 W O2 f2 n2=>?_
  rw[eZ]at O2;have nb:∀k,blk (.slice (some ⟨b,0,none⟩) 0 0) k→h.size≤k:=λk U=>by have:k=b:=U;omega
  refine⟨O2.sl.mono λk U A=>?_,G.then_fr f2 nb⟩;rcases A with A|A
  ·exact A.elim
  ·rcases n2 k A with L|L
   ·exact nb k L
   ·exact bA G.1 L
end Go.Proofs.YtjljhnandbbldaaGreatDoor
namespace Go.Crisp
open Go
def dP (g:Nat→Int):Nat→Int
 |0=>0
 |k+1=>if dP g k≠0 then dP g k else g k
theorem Gv {g:Nat→Int}{k n:Nat}(h:dP g k≠0)(D:k≤n):dP g n=dP g k:=by
  induction n with
  | zero => have:k=0:=ae
            rw[this]
  | succ n A=>
    rcases pT n k with h1|h1
    · have:k=n+1:=ae
      rw[this]
    · have:=A h1
      show(if dP g n≠0 then dP g n else g n)=_;rw[this,aB h]
end Go.Crisp
namespace Go.Proofs.YtjljhnandbbldaaGreatDoor
open Go Go.Crisp
attribute [local irreducible] ag cO aT stK aG vK qK bL gK eM bC mkK cR HA JA Ep bsK clK
open _root_.Go.Proofs.Tryz
def bE (n:Int):Prop:=1≤n∧n≤65536
instance (n:Int):Decidable (bE n):=by unfold bE;infer_instance
theorem WG (f:Int):WH f=[]↔ ¬(0≤f∧f<3):=by
 unfold WH;split
 ·constructor
  ·intro h;cases h
  ·intro h;omega
 split
 ·constructor
  ·intro h;cases h
  ·intro h;omega
 split
 ·constructor
  ·intro h;cases h
  ·intro h;omega
 ·constructor
  ·intro _;omega
  ·intro _;rfl
def dK (f n m:Int):Int:=if¬(0≤f∧f<3)∨¬bE n∨¬bE m then 6 else dP (λi=>dj (dp f n m i)) m.toNat
def fX (f n m:Int):Tbl:=⟨n,(List.range m.toNat).map λi:Nat=>(fI f n m i,cC (dp f n m i))⟩
theorem w7 (f n m i:Int):∀x∈dp f n m i,I64 x:=by
 unfold dp;split
 ·intro x A;unfold EZ at A;obtain⟨k,_,rfl⟩:=gQ.1 A;exact Xv _ _ _ _ _
 ·simp
theorem Oe (f n m i:Int):(dp f n m i).length<4611686018427387904:=by
 unfold dp;split
 ·rename_i h;unfold EZ;rw[da,fF];have:=Pn h;omega
 ·simp
theorem rR {l:List Int}(A:∀x∈l,I64 x):(cC l).length≤1048576∧∀x∈cC l, -67108864≤x∧x≤67108865:=by
 unfold cC;split
 ·rename_i h;have G:=zco A h;exact⟨by rw[rD];exact G.len,zas G⟩
 ·simp
theorem Mo {l:List Int}(A:∀x∈l,I64 x):∀x∈cC l,I64 x:=λx D=>by
 have:=(rR A).2 x D;unfold I64;omega
def YO (h:ai)(code:Int)(t:Tbl)(r:Value)(h':ai):Prop:=∃p,r=.tuple #[p,.int .i64 code]∧Ext h h'∧(code≠0→p=.pointer none)∧(code=0→gd (λc=>h.size≤c∧c<h'.size) h' p t)
theorem Qj {h:ai}(G:fC h){f n m:Int}(hf:I64 f)(hn:I64 n)(hm:I64 m):ag prog mm #[af f,af n,af m] h (YO h (dK f n m) (fX f n m)):=by
 apply My;unfold BE;refine(SH G).mono λv1 h1 ⟨e1,w1⟩=>?_
 subst e1 w1;rw[zal,Qv,ah];unfold dK;have W:=WG f;have I:(¬(0≤f∧f<3)∨¬bE n∨¬bE m)→YO h1 (if¬(0≤f∧f<3)∨¬bE n∨¬bE m then 6 else dP (λi=>dj (dp f n m i)) m.toNat) (fX f n m) (.tuple #[.pointer none,af 6]) h1:=by
  intro hb;rw[aB hb];exact⟨_,rfl,Ext.refl _,λ_=>rfl,λh=>by cases h⟩
 by_cases h0:WH f=[]
 ·have A:=I (.inl (W.1 h0));simp only[go_sem,h0];exact A
 have an:0≤f∧f<3:=cA λh=>h0 (W.2 h)
 simp only[go_sem,h0];refine DG.mono λv1 h2 ⟨e1,w1⟩=>?_
 subst e1 w1;by_cases H:¬bE n
 ·have A:=I (.inr (.inl H));have q:(1≤n∧n≤65536)=False:=gk H;simp only[go_sem,q];exact A
 have H:bE n:=cA H;have q:(1≤n∧n≤65536)=True:=jZ H;simp only[go_sem,q];refine DG.mono λv1 h3 ⟨e1,w1⟩=>?_
 subst e1 w1;by_cases F:¬bE m
 ·have A:=I (.inr (.inr F));have q:(1≤m∧m≤65536)=False:=gk F;simp only[go_sem,q];exact A
 have F:bE m:=cA F;have q:(1≤m∧m≤65536)=True:=jZ F;simp only[go_sem,q,ZT (a:=af n) rfl,cU];rw[aA (by rintro(h|h|h);exact h an;exact h H;exact h F)]
 clear I q
 refine aI λb h4 r4 e4 n4=>?_
 have U:=H;have ad:=F;unfold bE at U ad;have D:∀k:Nat,((List.range k).map λi:Nat=>(fI f n m i,cC (dp f n m i))).length=k:=λk=>by simp
 refine bO m.toNat 0 (λk (_:Unit)=>[af (k:Int)]) (λk _ h'=>dP (λi=>dj (dp f n m i)) k=0∧∃Z lv,Gy h3 Z h' b 224 lv n ((List.range k).map λi:Nat=>(fI f n m i,cC (dp f n m i)))) () rfl (bZ _)
  ⟨rfl,λ_=>False,_,e4,r4,Rp.Ow.nil,n4,λc hc=>hc.elim,id,id,λc hc=>hc.elim⟩ λk _ h5 again ρj _ hk ⟨hg,Z,lv,T⟩ am=>?_
 try simp only[go_sem]
 refine aq (λh6=>?_) (λh6=>?_)
 ·have aa:k<m.toNat:=ae;have G5:=G.ext T.ext;refine(WV G5).mono λw h7 ⟨v,e,Nw⟩=>?_
  subst e
  try simp only[go_sem]
  refine(DN Nw.sl (w7 _ _ _ _) (Oe _ _ _ _)).mono λw h8 ⟨u,e,Nu⟩=>?_
  subst e
  try simp only[go_sem]
  refine aq (λL=>?_) (λL=>?_)
  ·have hc:dP (λi=>dj (dp f n m i)) (k+1)=dj (dp f n m k):=by
    show(if dP (λi=>dj (dp f n m i)) k≠0 then _ else _)=_;rw[aA (by rw[hg];simp)]
   have hs:=Gv (g:=λi=>dj (dp f n m i)) (k:=k+1) (n:=m.toNat) (by rw[hc];exact L) aa;rw[hs,hc];exact⟨_,rfl,(T.ext.trans Nw.2.1).trans Nu.2.1,λ_=>rfl,λh=>absurd h L⟩
  ·have L:dj (dp f n m k)=0:=cA L;have bd:=rR (w7 f n m k);have T2:Gy h3 (λc=>Z c∨blk u c) h8 b 224 lv n _:=T.more (Z':=λc=>Z c∨blk u c) (Nw.2.1.trans Nu.2.1) (λc=>.inl) λc hc hz=>by
    rcases hc with hc|hc
    ·exact absurd hc hz
    ·exact⟨bA Nw.2.1.1 (Nu.2.2 c hc),Nu.1.lt hc⟩
   refine(P4 T2 (Nu.sl.mono λc _ hc=>.inr hc) (Mo (w7 _ _ _ _)) ae (by rw[D];omega)).mono λw ar ⟨al,T3,_⟩=>?_
   rw[w64 ae ae];refine am () ar aa ⟨?_,λc=>Z c∨blk u c,al,?_⟩
   ·show(if dP (λi=>dj (dp f n m i)) k≠0 then _ else _)=_;rw[aA (by rw[hg];simp)];exact L
   ·rw[rK,jW];exact T3
 ·have:k=m.toNat:=ae;subst this;exact⟨_,by rw[hg],T.ext,λh=>absurd hg h,λ_=>T.done⟩
def jm (l:List Int)(n:Int):Int:=if¬bE n then 6 else if l.length%2=0 then 7 else dj l
def kG (l:List Int)(n:Int):Tbl:=⟨n,(List.range n.toNat).map λi:Nat=>((i:Int)-(l.length/2:Nat),cC l)⟩
theorem Xg {h:ai}{Z:Nat→Prop}{v:Value}{l:List Int}{n:Int}(H:SlI Z h v l)(F:∀x∈l,I64 x)(hl:l.length<4611686018427387904)(hn:I64 n):ag prog qh #[v,af n] h (YO h (jm l n) (kG l n)):=by
 apply Mz;unfold BF;refine DG.mono λv1 h1 ⟨e1,w1⟩=>?_
 subst e1 w1;unfold jm;obtain⟨a,cap,e⟩:=H.isSl;have e2:aD v=some (af (l.length:Int)):=by rw[e];rfl
 by_cases D:¬bE n
 ·rw[aB D];have q:(1≤n∧n≤65536)=False:=gk D;simp only[go_sem,q];exact⟨_,rfl,Ext.refl _,λ_=>rfl,λh=>by cases h⟩
 rw[aA D];have D:bE n:=cA D;have q:(1≤n∧n≤65536)=True:=jZ D;have L:=D;unfold bE at L;simp only[go_sem,q,e2];rw[dS _ _ _ _ ae,ah,jY ae];simp only[go_sem];refine aq (λh0=>?_) (λh0=>?_)
 ·rw[aB ae];exact⟨_,rfl,Ext.refl _,λ_=>rfl,λh=>by cases h⟩
 rw[aA ae];refine(DN H F hl).mono λw h2 ⟨u,e,G⟩=>?_
 subst e;simp only[go_sem];refine aq (λI=>?_) (λI=>?_)
 ·exact⟨_,rfl,G.2.1,λ_=>rfl,λh=>absurd h I⟩
 have I:dj l=0:=cA I;have aa:(cC l).length=l.length:=by unfold cC;rw[aB I,rD]
 have bd:=rR F;simp only[ZT (a:=af n) rfl,cU,ah,bF];refine aI λb h4 r4 W n4=>?_
 have A:∀k:Nat,((List.range k).map λi:Nat=>((i:Int)-(l.length/2:Nat),cC l)).length=k:=λk=>by simp
 refine bO n.toNat 0 (λk (_:Unit)=>[af (k:Int)]) (λk _ h'=>∃lv,Gy h1 (blk u) h' b 224 lv n ((List.range k).map λi:Nat=>((i:Int)-(l.length/2:Nat),cC l))∧SlI (blk u) h' u (cC l)) () rfl (bZ _)
  ⟨_,⟨G.2.1.trans W,r4,Rp.Ow.nil,bA G.2.1.1 n4,λc hc=>hc.elim,λhc=>by have:=G.1.lt hc;omega,id,λc hc=>⟨G.2.2 c hc,by have:=G.1.lt hc;have:=W.1;omega⟩⟩,G.sl.ext W⟩ λk _ h5 again ρj _ hk ⟨lv,T,Hu⟩ am=>?_
 try simp only[go_sem]
 refine aq (λh6=>?_) (λh6=>?_)
 ·have ad:k<n.toNat:=ae;obtain⟨au,cu,eu⟩:=Hu.isSl;have U:aD u=some (af (l.length:Int)):=by rw[eu,aa];rfl
  simp only[go_sem,U];rw[nD _ _ _ _ ae,ah,yt ae,w64 (n:=(l.length:Int)/2) ae ae];simp only[go_sem];rw[w64 (n:=(k:Int)-(l.length:Int)/2) ae ae,show(k:Int)-(l.length:Int)/2=(k:Int)-(l.length/2:Nat)by omega];refine(P4 T Hu (Mo F) ae (by rw[A];omega)).mono λw an ⟨al,T3,F3⟩=>?_
  try simp only[go_sem]
  rw[w64 ae ae];have hd:∀c,blk u c→¬(c=b∨blk lv c):=λc hc hm=>by
   rcases hm with rfl|hm
   ·exact T.zb hc
   ·obtain⟨ds,_,h2,_⟩:=T.ow;exact h2 c hm hc
  refine am () an ad ⟨al,?_,Hu.fr F3 λc _ hc=>hd c hc⟩;rw[rK,jW];exact T3
 ·have:k=n.toNat:=ae;subst this;exact⟨_,by rw[I],T.ext,λh=>absurd I h,λ_=>T.done⟩
theorem U4 {Z:Nat→Prop}{h:ai}{p:Value}{t:Tbl}(H:gd Z h p t):ag prog gx #[p] h λr h'=>r=af t.n∧h'=h:=by
 apply Ff;unfold uR;obtain⟨b,lv,rfl,A,G,D,F,I,_⟩:=H.open;simp only[go_sem,A];exact⟨by simp,by simp⟩
theorem Fp {Z:Nat→Prop}{h:ai}{p:Value}{t:Tbl}(H:gd Z h p t):ag prog bR #[p] h λr h'=>r=af (t.lines.length:Int)∧h'=h:=by
 apply Jj;unfold xU;obtain⟨b,lv,rfl,G,A,I,L,D,_⟩:=H.open;obtain⟨a,cap,e⟩:=D.isSl;have F:aD lv=some (af (t.lines.length:Int)):=by rw[e];rfl
 simp only[go_sem,A,F];exact⟨by simp,by simp⟩
theorem U3 {Z:Nat→Prop}{h:ai}{p:Value}{t:Tbl}(H:gd Z h p t):ag prog gw #[p] h λr h'=>r=af (bT t.lines)∧h'=h:=by
 apply Fc;unfold uP;obtain⟨b,lv,rfl,D,G,A,F,I,_⟩:=H.open;simp only[go_sem,A];exact⟨by simp,by simp⟩
structure _root_.Go.Crisp.Tbl.Wf (t:Tbl):Prop where
 len:t.lines.length≤65536
 taps:∀x∈t.lines,x.2.length≤1048576∧ -70368744177664≤x.1∧x.1≤70368744177664
def bK (t:Tbl)(i:Int):Int×List Int:=if 0≤i then t.lines.getD i.toNat (0,[])else(0,[])
theorem DM {Z:Nat→Prop}{h:ai}{p:Value}{t:Tbl}(H:gd Z h p t)(W:t.Wf){i:Int}:ag prog bM #[p,af i] h λr h'=>∃u,r=.agg #[af (bK t i).1,u]∧SlI (λb=>h.size≤b∧b<h'.size) h' u (bK t i).2∧Ext h h':=by
 apply Fe;unfold uQ;refine aI λbv h1 r1 F n1=>?_
 obtain⟨b,lv,rfl,c0,I,c2,c3,hl,_⟩:=gd.open (H.ext F);obtain⟨a,cap,e⟩:=hl.isSl;have e2:aD lv=some (af (t.lines.length:Int)):=by rw[e];rfl
 simp only[go_sem,I,e2];unfold bK;refine aq (λh0=>?_) (λh0=>?_)
 ·have L:(if 0≤i then t.lines.getD i.toNat (0,[])else((0,[]):Int×List Int))=(0,[]):=by
   split
   ·rw[dr,AJ ae];rfl
   ·rfl
  rw[L,ii,cU,ah];refine bI (l:=[aj,.slice none 0 0]) r1 rfl (az rfl (az rfl aU)) rfl λh2 r2 u2=>?_
  rw[aL r2 2 rfl,ah];exact⟨_,rfl,Rp.Sl.nil,F.upd n1 u2⟩
 ·obtain⟨k,rfl⟩:∃k:Nat,i=(k:Int):=⟨i.toNat,ae⟩
  have U:k<t.lines.length:=ae;have L:(if(0:Int)≤(k:Int)then t.lines.getD (k:Int).toNat (0,[])else((0,[]):Int×List Int))=t.lines[k]:=by
   rw[aB ae,dJ,dr,gN U];rfl
  rw[L];obtain⟨b2,o2,cs,A,i2,i3,⟨u,rfl,hu⟩,D⟩:=Rp.Sl.atp (e:=ns) hl (show 0<2 by omega) (k:=.i64) U;have A:bh 2 lv (af (k:Int))=some (.pointer (some ⟨b2,o2,none⟩)):=A;have j0:=i3 0 (by simp);have j1:=i3 1 (by simp);simp only[EB,List.getElem_cons_succ]at j0 j1;refine aQ (λh'=>Ext h1 h') (Ext.refl _) ?_;refine aF lv (λh' e=>e.cell I) ?_;rw[A];simp only[go_sem];refine aF _ (λh' e=>e.cell j0) ?_;refine aF lv (λh' e=>e.cell I) ?_;rw[A];simp only[go_sem];refine aF _ (λh' e=>e.cell j1) ?_;have aa:=(W.taps _ (cQ U)).1;refine(zbw hu ae).mono λw h3 ⟨hw,G⟩=>?_
  refine⟨G,?_⟩;have one:=hw.one;rw[A5 (a:=af t.lines[k].1) rfl one,cU,ah];refine bI (l:=[af t.lines[k].1,w]) (G.row r1) rfl (az rfl (az one aU)) rfl λh5 r5 u5=>?_
  rw[aL r5 2 rfl,ah];have hb:=aW r1;refine⟨w,rfl,?_,(F.trans G).upd n1 u5⟩;obtain⟨ds,hs,D,he⟩:=hw.fr (M:=λc=>c=bv) u5.fr λc hc D he=>by have:=he▸D;omega
  refine⟨ds,hs,λh0 c hc=>⟨?_,?_⟩,λi hi=>he i hi⟩
  ·have:=D h0 c hc;have:=F.1;omega
  ·exact hs.lt h0 hc
def GG (ls:List (Int×List Int))(x0:Int):Int:=ls.foldl (λm x=>min m x.1) x0
def KN (ls:List (Int×List Int))(x0:Int):Int:=ls.foldl (λm x=>max m (x.1+(x.2.length:Int))) x0
def Td (t:Tbl)(i k:Nat):List (Int×List Int):=(t.lines.drop i).take (k-i)
def yO (t:Tbl)(i k:Int):Int×Int:=
 if(min k (t.lines.length:Int))≤max i 0 then(0,0)
 else let i':=(max i 0).toNat;let k':=(min k (t.lines.length:Int)).toNat;let x0:=(t.lines.getD i' (0,[])).1
  (GG (Td t i' k') x0,KN (Td t i' k') x0-GG (Td t i' k') x0)
theorem DB {β γ:Type}(f:γ→β→γ)(l:List β){k:Nat}(h:k<l.length)(s:γ):(l.take (k+1)).foldl f s=f ((l.take k).foldl f s) l[k]:=by
 rw[jE h,AM];rfl
theorem zbX {ls:List (Int×List Int)}{x0:Int}(h0: -70368744177664≤x0∧x0≤70368744177664)(h:∀x∈ls,x.2.length≤1048576∧ -70368744177664≤x.1∧x.1≤70368744177664):
  (-70368744177664≤GG ls x0∧GG ls x0≤70368744177664)∧ -70368744177664≤KN ls x0∧KN ls x0≤70369000000000:=by
 unfold GG KN;have H:∀(ls:List (Int×List Int)) (m:Int),(∀x∈ls,x.2.length≤1048576∧ -70368744177664≤x.1∧x.1≤70368744177664)→ -70368744177664≤m∧m≤70368744177664→ -70368744177664≤ls.foldl (λm x=>min m x.1) m∧ls.foldl (λm x=>min m x.1) m≤70368744177664:=by
  intro ls;induction ls with
  |nil=>intro m _ h;exact h
  |cons x ls A=>intro m h G;have:=h x (by simp);exact A _ (λy D=>h y (by simp[D])) (by dsimp only;omega)
 have F:∀(ls:List (Int×List Int)) (m:Int),(∀x∈ls,x.2.length≤1048576∧ -70368744177664≤x.1∧x.1≤70368744177664)→ -70368744177664≤m∧m≤70369000000000→ -70368744177664≤ls.foldl (λm x=>max m (x.1+(x.2.length:Int))) m∧ls.foldl (λm x=>max m (x.1+(x.2.length:Int))) m≤70369000000000:=by
  intro ls;induction ls with
  |nil=>intro m _ h;exact h
  |cons x ls A=>intro m h G;have:=h x (by simp);exact A _ (λy D=>h y (by simp[D])) (by dsimp only;omega)
 exact⟨H ls x0 h h0,F ls x0 h ae⟩
theorem UZ {Z:Nat→Prop}{h:ai}{p:Value}{t:Tbl}(H:gd Z h p t)(W:t.Wf){i k:Int}(hi:I64 i)(hk:I64 k):ag prog iu #[p,af i,af k] h λr h'=>r=.tuple #[af (yO t i k).1,af (yO t i k).2]∧Ext h h':=by
 apply Dd;unfold tu;obtain⟨b,lv,rfl,c0,c1,c2,c3,hl,_,_,⟨la,ln,lc,el,ax⟩⟩:=H.open;have e2:aD lv=some (af (t.lines.length:Int)):=by
  obtain⟨a,cap,e⟩:=hl.isSl;rw[e];rfl
 simp only[go_sem,c1,e2];unfold yO;refine aq (λh0=>?_) (λh0=>?_)
 ·rw[aB h0];exact⟨rfl,Ext.refl _⟩
 rw[aA h0];obtain⟨A,a7⟩:∃A:Nat,max i 0=(A:Int):=⟨(max i 0).toNat,ae⟩
 obtain⟨k',al⟩:∃k':Nat,min k (t.lines.length:Int)=(k':Int):=⟨(min k (t.lines.length:Int)).toNat,ae⟩
 simp only[a7,al,dJ]at h0 ⊢;have a8:A<k':=ae;have an:k'≤t.lines.length:=ae;have I:A<t.lines.length:=ae;have eg:t.lines.getD A (0,[])=t.lines[A]:=by rw[dr,gN I];rfl
 rw[eg];obtain⟨b2,o2,cs,q1,q2,q3,⟨u,rfl,hu⟩,hz⟩:=Rp.Sl.atp (e:=ns) hl (show 0<2 by omega) (k:=.i64) I;have q1:bh 2 lv (af (A:Int))=some (.pointer (some ⟨b2,o2,none⟩)):=q1;have j0:=q3 0 (by simp);simp only[EB]at j0;obtain⟨L,s1,s2⟩:=hl.part (show A≤k' by omega) an el ax (k:=.i64) (k':=.i64);have s1:ni 2 lv (some (af (A:Int))) (some (af (k':Int)))=some L:=s1;simp only[go_sem,q1,j0,c1,s1];have U:(t.lines.drop A).take (k'-A)=Td t A k':=rfl;rw[U]at s2;have bg:(Td t A k').length=k'-A:=by unfold Td;rw[di,ib];omega
 have G:∀x∈Td t A k',x∈t.lines:=λx hx=>Ui (AT hx)
 obtain⟨a3,bd,e3⟩:=s2.isSl;have e4:aD L=some (af ((Td t A k').length:Int)):=by rw[e3];rfl
 rw[e4,ah];generalize ar:t.lines[A].1=x0;have aa:=W.taps _ (cQ I);rw[ar]at aa;generalize be:Td t A k'=F at*;refine bO F.length 0 (λk (_:Unit)=>[af (GG (F.take k) x0),af (KN (F.take k) x0),af (k:Int)]) (λk _ h'=>Ext h h') () rfl (bZ _) (Ext.refl _) λk _ h2 again ρj _ hk E2 am=>?_
 simp only[go_sem];refine aq (λh3=>?_) (λh3=>?_)
 ·have D:k<F.length:=ae;obtain⟨p2,a9,z1,z2,⟨u2,rfl,ad⟩⟩:=Rp.Sl.atw (e:=ns) (s2.ext E2) (show 0<2 by omega) (k:=.i64) D;have z1:bh 2 L (af (k:Int))=some p2:=z1;have z2:aM 2 h2 p2=some (.agg #[af F[k].1,u2]):=z2;rw[z1,ah,z2,ah];refine cX (cs:=[af F[k].1,u2]) rfl (az rfl (az ad.one aU)) rfl λbv h4 r4 e5 n5=>?_
  obtain⟨au,cu,eu⟩:=ad.isSl;have ay:aD u2=some (af (F[k].2.length:Int)):=by rw[eu];rfl
  have d0:aE h4 ⟨bv,0,none⟩=some (af F[k].1):=ao r4;have d1:aE h4 ⟨bv,1,none⟩=some u2:=ao r4;have hw:=W.taps _ (G _ (cQ D));simp only[go_sem,d0,d1,ay];rw[w64 (n:=F[k].1+(F[k].2.length:Int)) ae ae,w64 (n:=(k:Int)+1) (by have:=W.len;omega) (by have:=W.len;omega)];have:=am () h4 D (E2.trans e5);unfold GG KN at this ⊢;rw[DB _ _ D,DB _ _ D]at this;exact this
 ·rw[fg ae];have:=zbX (ls:=F) (x0:=x0) aa.2 (λx hx=>W.taps x (G x hx));rw[w64 ae ae];exact⟨rfl,E2⟩
theorem Xk (b:Int):Qx b=[]↔ ¬(0≤b∧b<3):=by
 unfold Qx;split
 ·constructor
  ·intro h;cases h
  ·intro h;omega
 split
 ·constructor
  ·intro h;cases h
  ·intro h;omega
 split
 ·constructor
  ·intro h;cases h
  ·intro h;omega
 ·constructor
  ·intro _;omega
  ·intro _;rfl
def lE (o:OpD):Prop:=(0≤o.kind∧o.kind<4)∧(0≤o.border∧o.border<3)∧(o.kind=3→bE o.w∧bE o.hh∧0≤o.filter∧o.filter<3)
instance (o:OpD):Decidable (lE o):=by unfold lE;infer_instance
theorem Kw {h:ai}{n:Int}:ag prog wA #[af n] h λr h'=>r=.bool (decide (bE n))∧h'=h:=by
 apply XV;unfold NM;simp only[go_sem];exact⟨rfl,by first|rfl|trivial⟩
theorem zex {Z:Nat→Prop}{h:ai}(G:fC h){cs:List Value}{o:OpD}(H:rOp.R Z h cs o):ag prog QE #[.agg cs.toArray] h λr h'=>r=.bool (decide (lE o))∧Ext h h':=by
 apply zaG;unfold RW;obtain⟨s,t,rfl,Hx,Hy⟩:=H;simp only[bF];refine aI λb h1 r1 D n1=>?_
 have G1:=G.ext D;simp only[go_sem,ao r1];have I:=Xk o.border;by_cases hk:o.kind<0∨4≤o.kind
 ·have q:lE o=False:=gk (by unfold lE;omega);simp only[go_sem,hk,q];exact⟨by simp,D⟩
 simp only[go_sem,hk];refine(Kx G1).mono λv h2 ⟨e,w⟩=>?_
 subst e w
 try rw[zal]
 rw[Qv,ah];by_cases W:Qx o.border=[]
 ·have q:lE o=False:=gk (by unfold lE;exact λh=>I.1 W h.2.1);simp only[go_sem,W,q];exact⟨by simp,D⟩
 have L:0≤o.border∧o.border<3:=cA λh=>W (I.2 h)
 simp only[go_sem,W,ao r1];by_cases A:¬o.kind=3
 ·have q:lE o=True:=jZ ⟨ae,L,λh=>absurd h A⟩;simp only[go_sem,A,q];exact⟨by simp,D⟩
 have A:o.kind=3:=cA A;simp only[go_sem,A,ao r1];refine Kw.mono λv h3 ⟨e,w⟩=>?_
 subst e w;by_cases F:¬bE o.w
 ·have q:lE o=False:=gk (λh=>F (h.2.2 A).1);simp only[go_sem,F,q];exact⟨by simp,D⟩
 have F:bE o.w:=cA F;simp only[go_sem,F,ao r1];refine Kw.mono λv h4 ⟨e,w⟩=>?_
 subst e w;by_cases hh:¬bE o.hh
 ·have q:lE o=False:=gk (λh=>hh (h.2.2 A).2.1);simp only[go_sem,hh,q];exact⟨by simp,D⟩
 have hh:bE o.hh:=cA hh;simp only[go_sem,hh,ao r1];refine(SH G1).mono λv h5 ⟨e,w⟩=>?_
 subst e w
 try rw[zal]
 rw[Qu,ah];have U:=WG o.filter;simp only[go_sem];refine⟨?_,D⟩
 congr 1
 rw[iB];unfold lE;constructor
 ·intro hf;exact⟨ae,L,λ_=>⟨F,hh,cA λh=>hf (U.2 h)⟩⟩
 ·intro hf he;exact U.1 he (hf.2.2 A).2.2
def iI (o:OpD):Int:=if o.kind=0 then Hq o.sigma else if o.kind=1 then S0 o.radius else if Ci o.x≠0 then Ci o.x else Ci o.y
def eS (o:OpD):List Int:=if o.kind=0 then pW o.sigma else if o.kind=1 then Ai o.radius else te o.x
def cW (o:OpD):List Int:=if o.kind=0 then pW o.sigma else if o.kind=1 then Ai o.radius else te o.y
theorem Ar (o:OpD):∀x∈eS o,I64 x:=by
 unfold eS;split
 ·exact PJ _
 split
 ·exact SZ _
 ·exact KG _
theorem Aq (o:OpD):∀x∈cW o,I64 x:=by
 unfold cW;split
 ·exact PJ _
 split
 ·exact SZ _
 ·exact KG _
theorem zG (l:List Int):(te l).length≤1024:=by
 unfold te;split
 ·simp
 ·rename_i h;unfold kq at h;rw[da];omega
theorem Hp (s:Int):(pW s).length≤1024:=by
 unfold pW;split
 ·simp
 ·rename_i h;unfold nC at h;rw[da,fF];unfold ir;omega
theorem Lt (r:Int):(Ai r).length≤1024:=by
 unfold Ai;split
 ·simp
 ·exact zG _
theorem Ik (o:OpD):(eS o).length<4611686018427387904:=by
 unfold eS;split
 ·have:=Hp o.sigma;omega
 split
 ·have:=Lt o.radius;omega
 ·have:=zG o.x;omega
theorem Ij (o:OpD):(cW o).length<4611686018427387904:=by
 unfold cW;split
 ·have:=Hp o.sigma;omega
 split
 ·have:=Lt o.radius;omega
 ·have:=zG o.y;omega
abbrev gn (h h':ai)(c:Nat):Prop:=h.size≤c∧c<h'.size
theorem _root_.Go.Crisp.New.since {α:Type}{e:Rp α}{h0 h h':ai}{v:Value}{l:List α}(H:New e h h' v l)(k:Ext h0 h):Rp.Sl e (gn h0 h') h' v l:=H.sl.mono λb D A=>⟨bA k.1 (H.2.2 b A),D⟩
theorem za6 {Z:Nat→Prop}{h:ai}{cs:List Value}{o:OpD}(H:rOp.R Z h cs o)(W:o.Wf)(lx:o.x.length<4611686018427387904)(ly:o.y.length<4611686018427387904):
  ag prog Bq #[.agg cs.toArray] h λr h'=>∃u v,r=.tuple #[u,v,af (iI o)]∧Ext h h'∧(iI o=0→SlI (gn h h') h' u (eS o)∧SlI (gn h h') h' v (cW o)):=by
 apply Ru;unfold Ga;obtain⟨s,t,rfl,U,L⟩:=H;simp only[bF];refine aI λb h1 r1 D n1=>?_
 simp only[go_sem,ao r1];unfold iI eS cW;refine aq (λF=>?_) (λF=>?_)
 ·rw[aB F,aB F,aB F];refine(Qm W.sigma).mono λw G ⟨u,e,N⟩=>?_
  subst e;simp only[go_sem];exact⟨u,u,rfl,D.trans N.2.1,λ_=>⟨N.since D,N.since D⟩⟩
 rw[aA F,aA F,aA F];refine aq (λA=>?_) (λA=>?_)
 ·rw[aB A,aB A,aB A];refine(zf6 W.radius).mono λw G ⟨u,e,N⟩=>?_
  subst e;simp only[go_sem];exact⟨u,u,rfl,D.trans N.2.1,λ_=>⟨N.since D,N.since D⟩⟩
 rw[aA A,aA A,aA A];refine(HG (U.ext D) W.x lx).mono λw G ⟨u,e,N⟩=>?_
 subst e;simp only[go_sem];refine aq (λhu=>?_) (λhu=>?_)
 ·rw[aB hu];exact⟨_,_,rfl,D.trans N.2.1,λh=>absurd h hu⟩
 rw[aA hu];simp only[go_sem,ao (N.2.1.row r1)];refine(HG ((L.ext D).ext N.2.1) W.y ly).mono λw h3 ⟨v,e,M⟩=>?_
 subst e;simp only[go_sem];refine⟨u,v,rfl,(D.trans N.2.1).trans M.2.1,λ_=>⟨?_,M.since (D.trans N.2.1)⟩⟩;exact((N.since D).ext M.2.1).mono λc hc I=>⟨I.1,hc⟩
def jf (o:OpD)(w h:Int):Int:=
 if o.kind=3 then(if dK o.filter w o.w≠0 then dK o.filter w o.w else dK o.filter h o.hh)
 else if iI o≠0 then iI o else if jm (eS o) w≠0 then jm (eS o) w else jm (cW o) h
def kX (o:OpD)(w:Int):Tbl:=if o.kind=3 then fX o.filter w o.w else kG (eS o) w
def fQ (o:OpD)(h:Int):Tbl:=if o.kind=3 then fX o.filter h o.hh else kG (cW o) h
theorem zcQ {Z:Nat→Prop}{h:ai}(G:fC h){cs:List Value}{o:OpD}(H:rOp.R Z h cs o)(W:o.Wf)(lx:o.x.length<4611686018427387904)(ly:o.y.length<4611686018427387904){w hh:Int}(hw:I64 w)(U:I64 hh):
  ag prog Ec #[.agg cs.toArray,af w,af hh] h λr h'=>∃p q,r=.tuple #[p,q,af (jf o w hh)]∧Ext h h'∧(jf o w hh=0→gd (gn h h') h' p (kX o w)∧gd (gn h h') h' q (fQ o hh)):=by
 apply TM;unfold IN;have H0:=H;obtain⟨s,t,rfl,Hx,Hy⟩:=H;simp only[bF];refine aI λb h1 r1 A n1=>?_
 have G1:=G.ext A;simp only[go_sem,ao r1];unfold jf kX fQ;refine aq (λL=>?_) (λL=>?_)
 ·rw[aB L,aB L,aB L];refine(Qj G1 W.filter hw W.w).mono λr h2 ⟨p,e,D,p0,p1⟩=>?_
  subst e;simp only[go_sem];refine aq (λhc=>?_) (λhc=>?_)
  ·rw[aA (by simpa using hc)];simp only[go_sem,ao (D.row r1)];refine(Qj (G1.ext D) W.filter U W.hh).mono λr h3 ⟨q,e,I,q0,q1⟩=>?_
   subst e;simp only[go_sem];refine⟨p,q,rfl,(A.trans D).trans I,λh0=>⟨?_,?_⟩⟩
   ·exact((p1 hc).ext I).mono λc hc F=>⟨bA A.1 F.1,hc⟩
   ·exact(q1 h0).mono λc hc F=>⟨bA (A.trans D).1 F.1,F.2⟩
  ·rw[aB (by simpa using hc)];exact⟨p,_,rfl,A.trans D,λh0=>absurd h0 hc⟩
 rw[aA L,aA L,aA L];rw[aL r1 9 rfl,ah];refine(za6 (rOp.ext H0 A) W lx ly).mono λr h2 ⟨u,v,e,D,hu⟩=>?_
 subst e;simp only[go_sem];refine aq (λhc=>?_) (λhc=>?_)
 ·rw[aB hc];exact⟨_,_,rfl,A.trans D,λh0=>absurd h0 hc⟩
 have aa:iI o=0:=cA hc;rw[aA hc];obtain⟨Hu,Hv⟩:=hu aa;refine(Xg Hu (Ar o) (Ik o) hw).mono λr h3 ⟨p,e,I,p0,p1⟩=>?_
 subst e;simp only[go_sem];refine aq (λhc=>?_) (λhc=>?_)
 ·rw[aA (by simpa using hc)];refine(Xg (Hv.ext I) (Aq o) (Ij o) U).mono λr h4 ⟨q,e,e4,q0,q1⟩=>?_
  subst e;simp only[go_sem];refine⟨p,q,rfl,((A.trans D).trans I).trans e4,λh0=>⟨?_,?_⟩⟩
  ·exact((p1 hc).ext e4).mono λc hc F=>⟨bA (A.trans D).1 F.1,hc⟩
  ·exact(q1 h0).mono λc hc F=>⟨bA ((A.trans D).trans I).1 F.1,F.2⟩
 ·rw[aB (by simpa using hc)];exact⟨p,_,rfl,(A.trans D).trans I,λh0=>absurd h0 hc⟩
structure Stg where
 x:Tbl
 y:Tbl
 border:Int
def rl (Z:Nat→Prop)(h:ai)(v:Value)(s:Stg):Prop:=∃p q,v=.agg #[p,q,.int .i64 s.border]∧gd Z h p s.x∧gd Z h q s.y
theorem rl.mono {Z Z':Nat→Prop}{h:ai}{v:Value}{s:Stg}(H:rl Z h v s)(q:∀b,b<h.size→Z b→Z' b):rl Z' h v s:=by
 obtain⟨p,r,rfl,h1,A⟩:=H;exact⟨p,r,rfl,h1.mono q,A.mono q⟩
theorem rl.ext {Z:Nat→Prop}{h h':ai}{v:Value}{s:Stg}(H:rl Z h v s)(e:Ext h h'):rl Z h' v s:=by
 obtain⟨p,r,rfl,h1,A⟩:=H;exact⟨p,r,rfl,h1.ext e,A.ext e⟩
theorem nN {α:Type}{e:Rp α}{Z:Nat→Prop}{h:ai}{v:Value}{x:α}(H:Rp.Pt e Z h v x):aV v=true:=by
 obtain⟨b,ds,t,rfl,_⟩:=H;rfl
theorem zfA {a b c x y z:Value}(A:aV a=true)(D:aV b=true)(hc:aV c=true):aR #[x,y,z] [(0,1,a),(1,1,b),(2,1,c)]=some #[a,b,c]:=by
 simp only[aR,cJ A,cJ D,cJ hc];rfl
abbrev noStg:Value:=.agg #[.pointer none,.pointer none,.int .i64 0]
def fJ (o:OpD)(w h:Int):Int:=if¬lE o∨¬bE w∨¬bE h then 6 else jf o w h
def cB (o:OpD)(w h:Int):Stg:=⟨kX o w,fQ o h,o.border⟩
def zdr (h:ai)(code:Int)(s:Stg)(r:Value)(h':ai):Prop:=∃v,r=.tuple #[v,.int .i64 code]∧Ext h h'∧(code≠0→v=noStg)∧(code=0→rl (gn h h') h' v s)
theorem Lr {Z:Nat→Prop}{h:ai}(G:fC h){cs:List Value}{o:OpD}(H:rOp.R Z h cs o)(W:o.Wf)(lx:o.x.length<4611686018427387904)(ly:o.y.length<4611686018427387904){w hh:Int}(hw:I64 w)(ar:I64 hh):
  ag prog oZ #[.agg cs.toArray,af w,af hh] h (zdr h (fJ o w hh) (cB o w hh)):=by
 apply XX;unfold NO;have H0:=H;obtain⟨s,t,rfl,Hx,Hy⟩:=H;simp only[bF];refine aI λb h1 r1 e1 n1=>?_
 have l1:=aW r1;refine aI λb2 h2 r2 e2 n2=>?_
 have r1:=e2.row r1;have D:=e1.trans e2;have l2:=aW r2;have hb:b≠b2:=ae;rw[aL r1 9 rfl,ah];refine(zex (G.ext D) (rOp.ext H0 D)).mono λv h3 ⟨e,L⟩=>?_
 subst e;have U:∀(code:Int) (h4:ai),fJ o w hh=code→code≠0→Ext h2 h4→stK 3 (.pointer (some ⟨b2,0,none⟩)) (.agg #[.pointer none,.pointer none,aj]) h4 λ_ am=>vK (aM 3 am (.pointer (some ⟨b2,0,none⟩))) λan=>zdr h (fJ o w hh) (cB o w hh) (.tuple #[an,af code]) am:=by
  intro code h4 A hc e4;rw[A];refine bI (l:=[.pointer none,.pointer none,aj]) (e4.row r2) rfl (az rfl (az rfl (az rfl aU))) rfl λh5 r5 u5=>?_
  rw[aL r5 3 rfl,ah];exact⟨_,rfl,(D.trans e4).upd (bA e1.1 n2) u5,λ_=>rfl,λh=>absurd h hc⟩
 by_cases hm:¬lE o
 ·have A:fJ o w hh=6:=aB (.inl hm);simp only[go_sem,hm,ii,cU];exact U 6 h3 A ae L
 have hm:lE o:=cA hm;simp only[go_sem,hm];refine Kw.mono λv h4 ⟨e,w⟩=>?_
 subst e w;by_cases I:¬bE w
 ·have A:fJ o w hh=6:=aB (.inr (.inl I));simp only[go_sem,I,ii,cU];exact U 6 _ A ae L
 have I:bE w:=cA I;simp only[go_sem,I];refine Kw.mono λv h5 ⟨e,w⟩=>?_
 subst e w;by_cases F:¬bE hh
 ·have A:fJ o w hh=6:=aB (.inr (.inr F));simp only[go_sem,F,ii,cU];exact U 6 _ A ae L
 have F:bE hh:=cA F;have A:fJ o w hh=jf o w hh:=aA (by rintro(h|h|h);exact h hm;exact h I;exact h F);simp only[go_sem,F];rw[aL (L.row r1) 9 rfl,ah];refine(zcQ ((G.ext D).ext L) (rOp.ext (rOp.ext H0 D) L) W lx ly hw ar).mono λr h6 ⟨p,q,e,e6,hp⟩=>?_
 subst e;simp only[go_sem];refine aq (λhc=>?_) (λhc=>?_)
 ·simp only[ii,cU,ah];exact U _ _ A hc (L.trans e6)
 have aa:jf o w hh=0:=cA hc;obtain⟨al,ad⟩:=hp aa;have c1:aE h6 ⟨b,1,none⟩=some (af o.border):=ao (e6.row (L.row r1));simp only[go_sem,c1];rw[zfA (nN al) (nN ad) rfl,cU,ah];refine bI (l:=[p,q,af o.border]) (e6.row (L.row r2)) rfl (az (nN al) (az (nN ad) (az rfl aU))) rfl λh7 r7 u7=>?_
 rw[aL r7 3 rfl,ah];have hz:∀c,c<h6.size→gn h5 h6 c→¬c=b2:=λc _ hz he=>by
  have:=hz.1;have:=(L.1)
  subst he;omega
 have E:Ext h h6:=(D.trans L).trans e6;have fin:∀{t:Tbl} {p:Value},gd (gn h5 h6) h6 p t→gd (gn h h7) h7 p t:=λH=>by
  have:=Rp.Pt.fr H u7.fr hz;refine this.mono λc hc hz=>⟨?_,hc⟩
  exact bA (D.trans L).1 hz.1
 rw[A];exact⟨.agg #[p,q,af o.border],by rw[aa],E.upd (bA e1.1 n2) u7,λh=>absurd aa h,λ_=>⟨p,q,rfl,fin al,fin ad⟩⟩
def kc {α:Type}(e:Rp α)(h h':ai)(v:Value)(l:List α):Prop:=∃Z,Rp.Ow e Z h' v l∧Ext h h'∧(∀b,blk v b→h.size≤b)∧∀c,Z c→h.size≤c∧c<h'.size
theorem kc.nil {α:Type}{e:Rp α}{h h':ai}(k:Ext h h'):kc e h h' (.slice none 0 0) []:=⟨λ_=>False,Rp.Ow.nil,k,λb A=>A.elim,λc hc=>hc.elim⟩
theorem kc.ext {α:Type}{e:Rp α}{h h' A:ai}{v:Value}{l:List α}(H:kc e h h' v l)(k:Ext h' A):kc e h A v l:=by
 obtain⟨Z,o,x,n,z⟩:=H;exact⟨Z,o.ext k,x.trans k,n,λc hc=>⟨(z c hc).1,ce (z c hc).2 k.1⟩⟩
theorem kc.exts {α:Type}{e:Rp α}{h h':ai}{v:Value}{l:List α}(H:kc e h h' v l):Ext h h':=by obtain⟨Z,o,x,n,z⟩:=H;exact x
theorem kc.sl {α:Type}{e:Rp α}{h h':ai}{v:Value}{l:List α}(H:kc e h h' v l):Rp.Sl e (gn h h') h' v l:=by
 obtain⟨Z,o,x,n,z⟩:=H;exact o.sl.mono λc hc A=>by
  rcases A with A|A
  ·exact z c A
  ·exact⟨n c A,hc⟩
theorem kc.isSl {α:Type}{e:Rp α}{h h':ai}{v:Value}{l:List α}(H:kc e h h' v l):∃a cap,v=.slice a l.length cap:=by obtain⟨Z,o,x,n,z⟩:=H;exact o.isSl
theorem kc.push {α:Type}{e:Rp α}{z:Value}{c:Array Value}{t t':TypeId}{bytes:Nat}{h h1:ai}{v:Value}{l:List α}{cs:List Value}{x:α}{Y:Nat→Prop}{K:Value→ai→Prop}(H:kc e h h1 v l)
  (hx:e.R Y h1 cs x) (hY:∀b,Y b→h.size≤b∧b<h1.size∧¬blk v b) (hc:c.size=e.w) (D:z.cells.size=e.w) (A:(l.length+1)*bytes≤140737488355328) (W:l.length+1≤9223372036854775807)
  (HK:∀F h',kc e h h' F (l++[x])→Fr (blk v) h1 h'→(∀b,blk F b→blk v b∨h1.size≤b)→K F h'):cO c t 1 [(0,e.w,.agg cs.toArray)] h1 λU h3=>cR z t' e.w bytes v U h3 K:=by
 obtain⟨Z,o,ex,n,zf⟩:=H;have L:∀b,blk v b→¬Z b:=by obtain⟨ds,_,d,_⟩:=o;exact d
 have o2:Rp.Ow e (λb=>Z b∨Y b) h1 v l:=o.mono (λb _ A=>.inl A) λb A D=>by
  rcases D with D|D
  ·exact L b A D
  ·exact(hY b D).2.2 A
 refine Rp.push_ow o2 (e.mono hx λb _ A=>.inr A) hc D A W (λb A=>?_) λF h' o' G n'=>HK F h' ⟨λb=>Z b∨Y b,o',ex.then_fr G n,λb A=>?_,λb A=>?_⟩ G n'
 ·rcases A with A|A
  ·exact(zf b A).2
  ·exact(hY b A).2.1
 ·rcases n' b A with I|I
  ·exact n b I
  ·exact bA ex.1 I
 ·have hl:=G.1;rcases A with A|A
  ·have:=zf b A;omega
  ·have:=hY b A;omega
theorem kc.lt {α:Type}{e:Rp α}{h h':ai}{v:Value}{l:List α}(H:kc e h h' v l){b:Nat}(A:blk v b):b<h'.size:=by obtain⟨Z,o,x,n,z⟩:=H;exact o.lt A
theorem _root_.Go.Crisp.New.lt {α:Type}{e:Rp α}{h h':ai}{v:Value}{l:List α}(H:New e h h' v l){b:Nat}(A:blk v b):b<h'.size:=H.1.lt A
theorem P7 {h:ai}{n:Int}:ag prog qy #[af n] h λr h'=>r=.bool (decide (bE n))∧h'=h:=by
 apply Rc;unfold FN;simp only[go_sem];exact⟨rfl,trivial⟩
def Xs (h:ai)(code:Int)(ls:List (Int×List Int))(r:Value)(h':ai):Prop:=∃v,r=.tuple #[v,.int .i64 code]∧Ext h h'∧(code≠0→v=.slice none 0 0)∧(code=0→kc ns h h' v ls)
theorem P8 {h:ai}{f n m:Int}(hf:I64 f)(hn:I64 n)(hm:I64 m):ag prog qA #[af f,af n,af m] h (Xs h (dK f n m) (fX f n m).lines):=by
 apply MB;unfold BH;have rc:dK f n m=if¬(0≤f∧f<3)∨¬bE n∨¬bE m then 6 else dP (λi=>dj (dp f n m i)) m.toNat:=rfl
 have H:∀b:Bool,(b=true↔(¬(0≤f∧f<3)∨¬bE n∨¬bE m))→∀X:Prop,((0≤f∧f<3)→bE n→bE m→X)→aG (.bool b)
   (Xs h (dK f n m) (fX f n m).lines (.tuple #[.slice none 0 0,af 6]) h) X:=by
  intro b U X hX;refine iQ (λhc=>?_) (λhc=>?_)
  ·rw[rc,aB (U.1 hc)];exact⟨_,rfl,Ext.refl _,λ_=>rfl,λh=>by cases h⟩
  ·have L:¬(¬(0≤f∧f<3)∨¬bE n∨¬bE m):=λhh=>by rw[U.2 hh]at hc;cases hc
   exact hX (cA λhh=>L (.inl hh)) (cA λhh=>L (.inr (.inl hh))) (cA λhh=>L (.inr (.inr hh)))
 have rest:(0≤f∧f<3)→bE n→bE m→bC [.slice none 0 0,aj] h λF b6 ax D=>
   vK (ak .i .lss (ix F 1) (af m)) λa8=>aG a8 (
    ag prog yH #[af f,af n,af m,(ix F 1)] ax λad b1=>
    vK (aP ad 0) λbk=>vK (aP ad 1) λb2=>
    ag prog jp #[b2] b1 λaa an=>
    vK (aP aa 0) λbo=>vK (aP aa 1) λar=>
    vK (ak .i .neq ar aj) λbe=>aG be (
     Xs h (dK f n m) (fX f n m).lines (.tuple #[(.slice none 0 0),ar]) an) (
     vK ((aR #[aj,(.slice none 0 0)] [(0,1,bk),(1,1,bo)]).map .agg) λa9=>
     cO #[aj,(.slice none 0 0)] 240 1 [(0,2,a9)] an λb0 ay=>
     cR (.agg #[aj,.slice none 0 0]) 240 2 32 (ix F 0) b0 ay λbd bg=>
     vK (ak .i .add (ix F 1) aJ) λa7=>D [bd,a7] bg)) (
    Xs h (dK f n m) (fX f n m).lines (.tuple #[(ix F 0),aj]) ax):=by
  intro G A am;rw[aA (by rintro(h|h|h);exact h G;exact h A;exact h am)]at rc;rw[rc];have au:=am;unfold bE at au;refine bO m.toNat 0 (λk v=>[v,af (k:Int)]) (λk v h'=>dP (λi=>dj (dp f n m i)) k=0∧kc ns h h' v ((List.range k).map λi:Nat=>(fI f n m i,cC (dp f n m i)))) (.slice none 0 0) rfl (bZ _)
   ⟨rfl,kc.nil (Ext.refl _)⟩ λk v h5 again ρj _ hk ⟨hg,T⟩ bv=>?_
  simp only[go_sem];refine aq (λh6=>?_) (λh6=>?_)
  ·have al:k<m.toNat:=ae;refine zeq.mono λw h7 ⟨u,e,Nw⟩=>?_
   subst e
   try simp only[go_sem]
   refine(Gx Nw.sl (w7 _ _ _ _) (Oe _ _ _ _)).mono λw h8 ⟨u,e,I⟩=>?_
   subst e
   try simp only[go_sem]
   refine aq (λW=>?_) (λW=>?_)
   ·have hc:dP (λi=>dj (dp f n m i)) (k+1)=dj (dp f n m k):=by
     show(if dP (λi=>dj (dp f n m i)) k≠0 then _ else _)=_;rw[aA (by rw[hg];simp)]
    have hs:=Gv (g:=λi=>dj (dp f n m i)) (k:=k+1) (n:=m.toNat) (by rw[hc];exact W) al;rw[hs,hc];exact⟨_,rfl,(T.exts.trans Nw.2.1).trans I.2.1,λ_=>rfl,λh=>absurd h W⟩
   ·have W:dj (dp f n m k)=0:=cA W;rw[A5 (a:=af (fI f n m k)) (b:=u) rfl I.sl.one,cU,ah];have T2:=T.ext (Nw.2.1.trans I.2.1);refine kc.push (e:=ns) (cs:=[af (fI f n m k),u]) (x:=(fI f n m k,cC (dp f n m k))) (Y:=blk u) T2 ⟨u,rfl,I.sl⟩ (λb U=>⟨bA (T.exts.trans Nw.2.1).1 (I.2.2 b U),I.lt U,λhv=>?_⟩) rfl rfl (by simp;omega) (by simp;omega) λs' h' N' _ _=>?_
    ·have b5:=T.lt hv;have b4:=I.2.2 b U;have b3:=Nw.2.1.1;omega
    ·try simp only[go_sem]
     rw[w64 ae ae];refine bv s' h' al ⟨?_,?_⟩
     ·show(if dP (λi=>dj (dp f n m i)) k≠0 then _ else _)=_;rw[aA (by rw[hg];simp)];exact W
     ·rw[rK,jW];exact N'
  ·have:k=m.toNat:=ae;subst this;exact⟨_,by rw[hg],T.exts,λh=>absurd hg h,λ_=>T⟩
 by_cases G:0≤f∧f<3
 ·have q1:(f<0)=False:=gk ae;have q2:(2<f)=False:=gk ae;simp only[go_sem,q1,q2];refine P7.mono λv1 h2 ⟨e1,w1⟩=>?_
  have w1:=w1.symm;subst e1 w1;by_cases A:bE n
  ·simp only[go_sem,A];refine P7.mono λv1 h2 ⟨e1,w1⟩=>?_
   have w1:=w1.symm;subst e1 w1;simp only[go_sem];refine H _ ?_ _ rest;rw[dH];constructor
   ·exact λhh=>.inr (.inr hh)
   ·rintro(hh|hh|hh)
    ·exact absurd G hh
    ·exact absurd A hh
    ·exact hh
  ·simp only[go_sem,A];exact(fK _ _).mp (H true ⟨λ_=>.inr (.inl A),λ_=>rfl⟩ True λ_ _ _=>trivial)
 ·have q1:(f<0∨2<f)=True:=jZ ae;simp only[go_sem,q1];exact(fK _ _).mp (H true ⟨λ_=>.inl G,λ_=>rfl⟩ True λ_ _ _=>trivial)
theorem P9 {h:ai}{Z:Nat→Prop}{v:Value}{l:List Int}{n:Int}(H:SlI Z h v l)(W:∀x∈l,I64 x)(hl:l.length<4611686018427387904)(hn:I64 n):ag prog qB #[v,af n] h (Xs h (jm l n) (kG l n).lines):=by
 apply MC;unfold BI;refine P7.mono λv1 h1 ⟨e1,w1⟩=>?_
 have w1:=w1.symm;subst e1 w1;unfold jm kG;obtain⟨a,cap,e⟩:=H.isSl;have e2:aD v=some (af (l.length:Int)):=by rw[e];rfl
 by_cases A:¬bE n
 ·rw[aB A];simp only[go_sem,A];exact⟨_,rfl,Ext.refl _,λ_=>rfl,λh=>by cases h⟩
 rw[aA A];have A:bE n:=cA A;have U:=A;unfold bE at U;simp only[go_sem,A,e2];rw[dS _ _ _ _ ae,ah,jY ae];simp only[go_sem];refine aq (λh0=>?_) (λh0=>?_)
 ·rw[aB ae];exact⟨_,rfl,Ext.refl _,λ_=>rfl,λh=>by cases h⟩
 rw[aA ae];refine(Gx H W hl).mono λw h2 ⟨u,e,L⟩=>?_
 subst e;simp only[go_sem];refine aq (λI=>?_) (λI=>?_)
 ·exact⟨_,rfl,L.2.1,λ_=>rfl,λh=>absurd h I⟩
 have I:dj l=0:=cA I;have al:(cC l).length=l.length:=by unfold cC;rw[aB I,rD]
 have bd:=rR W;refine bO n.toNat 0 (λk v=>[v,af (k:Int)]) (λk v h'=>kc ns h h' v ((List.range k).map λi:Nat=>((i:Int)-(l.length/2:Nat),cC l))∧SlI (blk u) h' u (cC l)∧Ext h2 h'∧(∀b,blk v b→h2.size≤b)∧∀b,blk u b→¬blk v b) (.slice none 0 0) rfl (bZ _)
  ⟨kc.nil L.2.1,L.sl,Ext.refl _,λb F=>F.elim,λb _ F=>F⟩ λk v h5 again ρj _ hk ⟨T,Hu,E,NV,D⟩ ad=>?_
 try simp only[go_sem]
 refine aq (λh6=>?_) (λh6=>?_)
 ·have aa:k<n.toNat:=ae
  try simp only[go_sem,e2]
  rw[nD _ _ _ _ ae,ah,yt ae,w64 (n:=(l.length:Int)/2) ae ae]
  try simp only[go_sem]
  rw[w64 (n:=(k:Int)-(l.length:Int)/2) ae ae,show(k:Int)-(l.length:Int)/2=(k:Int)-(l.length/2:Nat)by omega];rw[A5 (a:=af ((k:Int)-(l.length/2:Nat))) (b:=u) rfl Hu.one,cU,ah];refine kc.push (e:=ns) (cs:=[af ((k:Int)-(l.length/2:Nat)),u]) (x:=((k:Int)-(l.length/2:Nat),cC l)) (Y:=blk u) T ⟨u,rfl,Hu⟩ (λb F=>⟨L.2.2 b F,ce (L.lt F) E.1,D b F⟩) rfl rfl (by simp;omega) (by simp;omega) λs' h' N' F' n'=>?_
  try simp only[go_sem]
  rw[w64 ae ae];refine ad s' h' aa ⟨?_,Hu.fr F' λb _ F=>D b F,?_,?_,λb F hs=>?_⟩
  ·rw[rK,jW];exact N'
  ·exact E.then_fr F' NV
  ·intro b F;rcases n' b F with G|G
   ·exact NV b G
   ·exact bA E.1 G
  ·rcases n' b hs with G|G
   ·exact D b F G
   ·have:=L.lt F;have:=E.1;omega
 ·have:k=n.toNat:=ae;subst this;exact⟨_,by rw[I],T.exts,λh=>absurd I h,λ_=>T⟩
def nH (side:Int)(o:OpD):Prop:=40<o.x.length∨40<o.y.length∨(262144<o.sigma∧o.sigma≤4194304)∨(20<o.radius∧o.radius<512)∨(side<o.w∧o.w≤65536)∨(side<o.hh∧o.hh≤65536)
instance (side:Int)(o:OpD):Decidable (nH side o):=by unfold nH;infer_instance
def oR (side:Int)(l:List OpD):Prop:=∀o∈l,¬nH side o
instance (side:Int)(l:List OpD):Decidable (oR side l):=by unfold oR;infer_instance
theorem zdf {Z:Nat→Prop}{h:ai}{v:Value}{l:List OpD}{side:Int}(H:Rp.Sl rOp Z h v l)(hl:l.length<4611686018427387904):
  ag prog xH #[v,af side] h λr h'=>r=.bool (decide (oR side l))∧Ext h h':=by
 apply MJ;unfold BP;obtain⟨a,cap,e⟩:=H.isSl;have e2:aD v=some (af (l.length:Int)):=by rw[e];rfl
 rw[e2,ah];refine bO l.length 0 (λk (_:Unit)=>[af (k:Int)]) (λk _ h'=>Ext h h'∧∀o∈l.take k,¬nH side o) () rfl (bZ _) ⟨Ext.refl _,by simp⟩ λk _ h1 again ρj _ hk ⟨F,G⟩ aa=>?_
 simp only[go_sem];refine aq (λh0=>?_) (λh0=>?_)
 ·have A:k<l.length:=ae;obtain⟨p,cs,q1,L,Ho⟩:=Rp.Sl.atw (e:=rOp) (H.ext F) (show 0<9 by omega) (k:=.i64) A;have q1:bh 9 v (af (k:Int))=some p:=q1;have L:aM 9 h1 p=some (.agg cs.toArray):=L;rw[q1,ah,L,ah];have ad:=Ho;have W:=rOp.one Ho;obtain⟨s,t,rfl,Hx,Hy⟩:=Ho;refine cX (cs:=[af l[k].kind,af l[k].border,af l[k].sigma,af l[k].radius,s,t,af l[k].filter,af l[k].w,af l[k].hh]) rfl W rfl λb h2 r2 e3 n3=>?_
  obtain⟨ax,cx,ex⟩:=Hx.isSl;have I:aD s=some (af (l[k].x.length:Int)):=by rw[ex];rfl
  obtain⟨ay,cy,ey⟩:=Hy.isSl;have U:aD t=some (af (l[k].y.length:Int)):=by rw[ey];rfl
  simp only[go_sem,ao r2,I,U];refine aq (λh3=>?_) (λh3=>?_)
  ·refine⟨?_,F.trans e3⟩
   congr 1
   rw[Eq.comm,Ew];intro hh;refine hh _ (cQ A) ?_;unfold nH;omega
  ·rw[w64 ae ae];refine aa () h2 A ⟨F.trans e3,λo D=>?_⟩;rw[jE A]at D;rcases gP.1 D with D|D
   ·exact G o D
   ·rw[ia.1 D];unfold nH;omega
 ·rw[fg ae]at G;refine⟨?_,F⟩
  congr 1
  rw[Eq.comm,dH];exact G
theorem zc3 {Z:Nat→Prop}{h:ai}{cs:List Value}{o:OpD}(H:rOp.R Z h cs o){w hh:Int}:ag prog LC #[.agg cs.toArray,af w,af hh] h λr h'=>
  r=.tuple #[af (if o.kind=3 then o.w else w),af (if o.kind=3 then o.hh else hh)]∧Ext h h':=by
 apply XW;unfold NN;obtain⟨s,t,rfl,I,G⟩:=H;simp only[bF];refine aI λb h1 r1 D F=>?_
 simp only[go_sem,ao r1];refine aq (λA=>?_) (λA=>?_)
 ·rw[aB A,aB A];simp only[go_sem,ao r1];exact⟨by simp,D⟩
 ·rw[aA A,aA A];exact⟨rfl,D⟩
def yP:Rp Stg where
 w:=5
 R:=λZ h cs s=>∃x y,cs=[x,y,.int .i64 s.x.n,.int .i64 s.y.n,.int .i64 s.border]∧Rp.Sl ns Z h x s.x.lines∧Rp.Sl ns Z h y s.y.lines
 len:=by rintro _ _ _ _ ⟨x,y,rfl,_⟩;rfl
 one:=by
  rintro _ _ _ _ ⟨x,y,rfl,H,K⟩;exact az H.one (az K.one (az rfl (az rfl (az rfl aU))))
 fr:=by rintro _ _ _ _ _ _ ⟨x,y,rfl,H,K⟩ f q;exact⟨x,y,rfl,H.fr f q,K.fr f q⟩
 mono:=by rintro _ _ _ _ _ ⟨x,y,rfl,H,K⟩ q;exact⟨x,y,rfl,H.mono q,K.mono q⟩
abbrev zcb:List Value:=[.slice none 0 0,.slice none 0 0,.int .i64 0,.int .i64 0,.int .i64 0]
def U7 (h:ai)(code:Int)(s:Stg)(r:Value)(h':ai):Prop:=∃cs,r=.tuple #[.agg cs.toArray,.int .i64 code]∧Ext h h'∧(code≠0→cs=zcb)∧(code=0→yP.R (gn h h') h' cs s)
theorem ES {h:ai}{n:Int}:ag prog mE #[af n] h λr h'=>r=.bool (decide (bE n))∧h'=h:=by
 apply Q8;unfold FJ;simp only[go_sem];exact⟨rfl,trivial⟩
theorem zcF {a b c v w x y z:Value}(A:aV a=true)(D:aV b=true)(hc:aV c=true):aR #[v,w,x,y,z] [(2,1,a),(3,1,b),(4,1,c)]=some #[v,w,a,b,c]:=by
 simp only[aR,cJ A,cJ D,cJ hc];rfl
theorem zbj {Z:Nat→Prop}{h:ai}{cs:List Value}{o:OpD}(H:rOp.R Z h cs o)(W:o.Wf)(lx:o.x.length<4611686018427387904)(ly:o.y.length<4611686018427387904){w hh:Int}(hw:I64 w)(be:I64 hh):
  ag prog Bg #[.agg cs.toArray,af w,af hh] h (U7 h (fJ o w hh) (cB o w hh)):=by
 apply Ra;unfold FL;have H0:=H;obtain⟨s,t,rfl,Hx,Hy⟩:=H;simp only[bF];refine aI λb h1 r1 e1 n1=>?_
 have l1:=aW r1;refine aI λb2 h2 r2 e2 n2=>?_
 have r1:=e2.row r1;have a7:=e1.trans e2;have l2:=aW r2;have hb:b≠b2:=ae;have k2:h.size≤b2:=bA e1.1 n2;have L:∀(code:Int) (I:ai),fJ o w hh=code→code≠0→Ext h2 I→stK 5 (.pointer (some ⟨b2,0,none⟩)) (.agg #[.slice none 0 0,.slice none 0 0,aj,aj,aj]) I λ_ bv=>vK (aM 5 bv (.pointer (some ⟨b2,0,none⟩))) λb4=>U7 h (fJ o w hh) (cB o w hh) (.tuple #[b4,af code]) bv:=by
  intro code I D hc e4;rw[D];refine bI (l:=zcb) (e4.row r2) rfl (az rfl (az rfl (az rfl (az rfl (az rfl aU))))) rfl λU r5 u5=>?_
  rw[aL r5 5 rfl,ah];exact⟨zcb,rfl,(a7.trans e4).upd k2 u5,λ_=>rfl,λh=>absurd h hc⟩
 have m6:(¬lE o∨¬bE w∨¬bE hh)→fJ o w hh=6:=λhc=>aB hc
 by_cases hm:((o.kind<0∨3<o.kind)∨o.border<0)∨2<o.border
 ·have D:=m6 (.inl (by unfold lE;omega));simp only[go_sem,ao r1,hm];simp only[ii,cU,ah];exact L 6 h2 D ae (Ext.refl _)
 have bo:0≤o.kind∧o.kind<4:=ae;have bg:0≤o.border∧o.border<3:=ae;simp only[go_sem,ao r1,hm];refine ES.mono λv I ⟨e,wq⟩=>?_
 have wq:=wq.symm;subst e wq;by_cases am:¬bE w
 ·have D:=m6 (.inr (.inl am));simp only[go_sem,am,ii,cU];exact L 6 _ D ae (Ext.refl _)
 have am:bE w:=cA am;simp only[go_sem,am];refine ES.mono λv U ⟨e,wq⟩=>?_
 have wq:=wq.symm;subst e wq;by_cases ad:¬bE hh
 ·have D:=m6 (.inr (.inr ad));simp only[go_sem,ad,ii,cU];exact L 6 _ D ae (Ext.refl _)
 have ad:bE hh:=cA ad;have mt:lE o→fJ o w hh=jf o w hh:=λhm=>aA (by rintro(h|h|h);exact h hm;exact h am;exact h ad)
 simp only[go_sem,ad,ao r1];rw[zcF rfl rfl rfl,cU,ah];refine cX (cs:=[.slice none 0 0,.slice none 0 0,af w,af hh,af o.border]) rfl (az rfl (az rfl (az rfl (az rfl (az rfl aU))))) rfl λb3 h3 r3 e3 n3=>?_
 have r1:=e3.row r1;have r2:=e3.row r2;have al:=a7.trans e3;have l3:=aW r3;have k3:h.size≤b3:=bA a7.1 n3;have cc:b3≠b:=by have:=e2.1;omega
 have aa:b3≠b2:=ae
 -- a row of lines is stored
 have ay:∀{I:ai} {u:Value} {a c:Value} {K:Value→ai→Prop},aV u=true→I[b3]? =some (.cells #[a,c,af w,af hh,af o.border] 38 (0,0))→
   (∀U,U[b3]? =some (.cells #[u,c,af w,af hh,af o.border] 38 (0,0))→Upd b3 I U→K undef U)→stK 1 (.pointer (some ⟨b3,0,none⟩)) u I K:=by
  intro I u a c K hu r HK;exact bG r (by simp) hu λU r5 u5=>HK U r5 u5
 have ax:∀{I:ai} {u:Value} {a c:Value} {K:Value→ai→Prop},aV u=true→I[b3]? =some (.cells #[a,c,af w,af hh,af o.border] 38 (0,0))→
   (∀U,U[b3]? =some (.cells #[a,u,af w,af hh,af o.border] 38 (0,0))→Upd b3 I U→K undef U)→stK 1 (.pointer (some ⟨b3,1,none⟩)) u I K:=by
  intro I u a c K hu r HK;exact bG r (by simp) hu λU r5 u5=>HK U r5 u5
 -- the end
 have fin:∀{h6:ai} {x y:Value},Ext h h6→h6[b2]? =some (.cells #[.slice none 0 0,.slice none 0 0,aj,aj,aj] 38 (0,0))→h6[b3]? =some (.cells #[x,y,af w,af hh,af o.border] 38 (0,0))→
   Rp.Sl ns (gn h3 h6) h6 x (kX o w).lines→Rp.Sl ns (gn h3 h6) h6 y (fQ o hh).lines→(kX o w).n=w→(fQ o hh).n=hh→fJ o w hh=0→
   vK (aM 5 h6 (.pointer (some ⟨b3,0,none⟩))) λcb=>stK 5 (.pointer (some ⟨b2,0,none⟩)) cb h6 λ_ au=>vK (aM 5 au (.pointer (some ⟨b2,0,none⟩))) λa9=>U7 h (fJ o w hh) (cB o w hh) (.tuple #[a9,aj]) au:=by
  intro h6 x y E q2 q3 Hx Hy nx ny D;rw[aL (l:=[x,y,af w,af hh,af o.border]) q3 5 rfl,ah];have bd:∀v∈[x,y,af w,af hh,af o.border],aV v=true:=az Hx.one (az Hy.one (az rfl (az rfl (az rfl aU))));refine bI (l:=[x,y,af w,af hh,af o.border]) q2 rfl bd rfl λh7 r7 u7=>?_
  rw[aL r7 5 rfl,ah];have F:∀c,c<h6.size→gn h3 h6 c→¬c=b2:=λc _ F he=>by
   have:=F.1;have:=aW r2;omega
  refine⟨_,by rw[D],E.upd k2 u7,λh=>absurd D h,λ_=>⟨x,y,?_,?_,?_⟩⟩
  ·show _=[x,y,af (kX o w).n,af (fQ o hh).n,af o.border];rw[nx,ny]
  ·exact(Hx.fr u7.fr F).mono λc hc F=>⟨bA al.1 F.1,hc⟩
  ·exact(Hy.fr u7.fr F).mono λc hc F=>⟨bA al.1 F.1,hc⟩
 have nX:(kX o w).n=w:=by unfold kX;split<;>rfl
 have nY:(fQ o hh).n=hh:=by unfold fQ;split<;>rfl
 simp only[go_sem,ao r1];refine aq (λhk=>?_) (λhk=>?_)
 ·refine ES.mono λv U ⟨e,wq⟩=>?_
  have wq:=wq.symm;subst e wq;by_cases ar:¬bE o.w
  ·have D:=m6 (.inl (by unfold lE;rintro⟨_,_,hx⟩;exact ar (hx hk).1));simp only[go_sem,ar,ii,cU];exact L 6 _ D ae e3
  have ar:bE o.w:=cA ar;simp only[go_sem,ar,ao r1];refine ES.mono λv U ⟨e,wq⟩=>?_
  have wq:=wq.symm;subst e wq;by_cases an:¬bE o.hh
  ·have D:=m6 (.inl (by unfold lE;rintro⟨_,_,hx⟩;exact an (hx hk).2.1));simp only[go_sem,an,ii,cU];exact L 6 _ D ae e3
  have an:bE o.hh:=cA an;simp only[go_sem,an,ao r1];refine aq (λb7=>?_) (λb7=>?_)
  ·have D:=m6 (.inl (by unfold lE;rintro⟨_,_,hx⟩;have:=(hx hk).2.2;omega));simp only[ii,cU,ah];exact L 6 _ D ae e3
  have a8:lE o:=⟨bo,bg,λ_=>⟨ar,an,ae,ae⟩⟩
  have A:=mt a8;unfold jf at A;rw[aB hk]at A;have tX:(kX o w).lines=(fX o.filter w o.w).lines:=by unfold kX;rw[aB hk]
  have tY:(fQ o hh).lines=(fX o.filter hh o.hh).lines:=by unfold fQ;rw[aB hk]
  refine(P8 W.filter hw W.w).mono λr I ⟨p,e,e4,p0,p1⟩=>?_
  subst e;simp only[go_sem];have po:aV p=true:=by
   by_cases hc:dK o.filter w o.w=0
   ·obtain⟨_,_,e⟩:=(p1 hc).isSl;rw[e];rfl
   ·rw[p0 hc];rfl
  refine ay po (e4.row r3) λU r5 u5=>?_
  have E5:=(al.trans e4).upd k3 u5;have b0:=(e3.trans e4).upd n3 u5;refine aq (λhc=>?_) (λhc=>?_)
  ·rw[aB hc]at A;simp only[ii,cU,ah];exact L _ _ A hc b0
  have hc:dK o.filter w o.w=0:=cA hc;rw[aA (by simpa using hc)]at A;have b5:=u5.row (ie cc) (e4.row r1);simp only[go_sem,ao b5];refine(P8 W.filter be W.hh).mono λr h6 ⟨q,e,e6,q0,q1⟩=>?_
  subst e;simp only[go_sem];have qo:aV q=true:=by
   by_cases hc:dK o.filter hh o.hh=0
   ·obtain⟨_,_,e⟩:=(q1 hc).isSl;rw[e];rfl
   ·rw[q0 hc];rfl
  refine ax qo (e6.row r5) λh7 r7 u7=>?_
  have E7:=(E5.trans e6).upd k3 u7;have ca:=(b0.trans e6).upd n3 u7;refine aq (λG=>?_) (λG=>?_)
  ·simp only[ii,cU,ah];exact L _ _ A G ca
  have G:dK o.filter hh o.hh=0:=cA G;have zz:∀{a d:ai},h3.size≤a.size→∀c,c<d.size→gn a d c→¬c=b3:=λha c _ F he=>by
   have:=F.1;omega
  refine fin E7 (u7.row (ie aa) (e6.row (u5.row (ie aa) (e4.row r2)))) r7 ?_ ?_ nX nY (by rw[A,G])
  ·rw[tX];have a1:=(p1 hc).sl.fr u5.fr (zz (ck _));have a2:=(a1.ext e6).mono (Z':=gn h3 h6) λc _ F=>⟨F.1,by have:=F.2;have:=u5.1;have:=e6.1;omega⟩
   exact(a2.fr u7.fr (zz (ck _))).mono λc hc F=>⟨F.1,hc⟩
  ·rw[tY];have b1:h3.size≤U.size:=by have:=e4.1;have:=u5.1;omega
   exact((q1 G).sl.fr u7.fr (zz b1)).mono λc hc F=>⟨bA b1 F.1,hc⟩
 have a8:lE o:=⟨bo,bg,λh=>absurd h hk⟩
 have A:=mt a8;unfold jf at A;rw[aA hk]at A;have tX:(kX o w).lines=(kG (eS o) w).lines:=by unfold kX;rw[aA hk]
 have tY:(fQ o hh).lines=(kG (cW o) hh).lines:=by unfold fQ;rw[aA hk]
 refine bB (λxs I=>∃u v,xs=[af (iI o),u,v]∧Ext h3 I∧(iI o=0→SlI (gn h3 I) I u (eS o)∧SlI (gn h3 I) I v (cW o))) ?_ ?_
 ·refine aq (λk0=>?_) (λk0=>?_)
  ·refine(UP W.sigma).mono λr I ⟨u,e,N⟩=>?_
   subst e;simp only[go_sem];have c1:iI o=Hq o.sigma:=by unfold iI;rw[aB k0]
   have c2:eS o=pW o.sigma:=by unfold eS;rw[aB k0]
   have c3:cW o=pW o.sigma:=by unfold cW;rw[aB k0]
   rw[c1,c2,c3];exact⟨u,u,rfl,N.2.1,λ_=>⟨N.since (Ext.refl _),N.since (Ext.refl _)⟩⟩
  refine aq (λk1=>?_) (λk1=>?_)
  ·simp only[go_sem,ao r1];refine(zcW W.radius).mono λr I ⟨u,e,N⟩=>?_
   subst e;simp only[go_sem];have c1:iI o=S0 o.radius:=by unfold iI;rw[aA k0,aB k1]
   have c2:eS o=Ai o.radius:=by unfold eS;rw[aA k0,aB k1]
   have c3:cW o=Ai o.radius:=by unfold cW;rw[aA k0,aB k1]
   rw[c1,c2,c3];exact⟨u,u,rfl,N.2.1,λ_=>⟨N.since (Ext.refl _),N.since (Ext.refl _)⟩⟩
  have k2:(o.kind=2)=True:=jZ ae;simp only[go_sem,ao r1,k2];have c1:iI o=if Ci o.x≠0 then Ci o.x else Ci o.y:=by unfold iI;rw[aA k0,aA k1]
  have c2:eS o=te o.x:=by unfold eS;rw[aA k0,aA k1]
  have c3:cW o=te o.y:=by unfold cW;rw[aA k0,aA k1]
  refine(Qa (Hx.ext al) W.x lx).mono λr I ⟨u,e,N⟩=>?_
  subst e;simp only[go_sem,ao (N.2.1.row r1)];refine(Qa (Hy.ext (al.trans N.2.1)) W.y ly).mono λr U ⟨v,e,M⟩=>?_
  subst e;simp only[go_sem];have s1:SlI (gn h3 U) U u (te o.x):=((N.since (Ext.refl _)).ext M.2.1).mono λc hc F=>⟨F.1,ce F.2 M.2.1.1⟩
  have s2:SlI (gn h3 U) U v (te o.y):=M.since N.2.1;rw[c1,c2,c3];refine aq (λhc=>?_) (λhc=>?_)
  ·rw[aA (by simpa using hc)];exact⟨u,v,rfl,N.2.1.trans M.2.1,λ_=>⟨s1,s2⟩⟩
  ·rw[aB hc];exact⟨u,v,rfl,N.2.1.trans M.2.1,λ_=>⟨s1,s2⟩⟩
 rintro xs ρj I ⟨u,v,rfl,e4,hu⟩;have ci:=e4;simp only[go_sem];refine aq (λhc=>?_) (λhc=>?_)
 ·rw[aB hc]at A;simp only[ii,cU,ah];exact L _ _ A hc (e3.trans e4)
 have b8:iI o=0:=cA hc;rw[aA hc]at A;obtain⟨Hu,Hv⟩:=hu b8;refine(P9 Hu (Ar o) (Ik o) hw).mono λr U ⟨p,e,e5,p0,p1⟩=>?_
 subst e;simp only[go_sem];have po:aV p=true:=by
  by_cases hc:jm (eS o) w=0
  ·obtain⟨_,_,e⟩:=(p1 hc).isSl;rw[e];rfl
  ·rw[p0 hc];rfl
 refine ay po ((e4.trans e5).row r3) λh6 r6 u6=>?_
 have E6:=(al.trans (e4.trans e5)).upd k3 u6;have bk:=(e3.trans (e4.trans e5)).upd n3 u6;refine aq (λhc=>?_) (λhc=>?_)
 ·rw[aB hc]at A;simp only[ii,cU,ah];exact L _ _ A hc bk
 have hc:jm (eS o) w=0:=cA hc;rw[aA (by simpa using hc)]at A;have zz:∀{a d:ai},h3.size≤a.size→∀c,c<d.size→gn a d c→¬c=b3:=λha c _ F he=>by
  have:=F.1;omega
 refine(P9 ((Hv.ext e5).fr u6.fr λc _ F he=>by have:=F.1;omega) (Aq o) (Ij o) be).mono λr h7 ⟨q,e,e7,q0,q1⟩=>?_
 subst e;simp only[go_sem];have qo:aV q=true:=by
  by_cases hc:jm (cW o) hh=0
  ·obtain⟨_,_,e⟩:=(q1 hc).isSl;rw[e];rfl
  ·rw[q0 hc];rfl
 refine ax qo (e7.row r6) λh8 r8 u8=>?_
 have E8:=(E6.trans e7).upd k3 u8;have b6:=(bk.trans e7).upd n3 u8;refine aq (λG=>?_) (λG=>?_)
 ·simp only[ii,cU,ah];exact L _ _ A G b6
 have G:jm (cW o) hh=0:=cA G;refine fin E8 (u8.row (ie aa) (e7.row (u6.row (ie aa) ((e4.trans e5).row r2)))) r8 ?_ ?_ nX nY (by rw[A,G])
 ·rw[tX];have a1:=(p1 hc).sl.fr u6.fr (zz e4.1);have a2:=(a1.ext e7).mono (Z':=gn h3 h7) λc _ F=>⟨bA e4.1 F.1,by have:=F.2;have:=u6.1;have:=e7.1;omega⟩
  exact(a2.fr u8.fr (zz (ck _))).mono λc hc F=>⟨F.1,hc⟩
 ·rw[tY];have b1:h3.size≤h6.size:=by have:=e4.1;have:=e5.1;have:=u6.1;omega
  exact((q1 G).sl.fr u8.fr (zz b1)).mono λc hc F=>⟨bA b1 F.1,hc⟩
theorem zbi {Z:Nat→Prop}{h:ai}{cs:List Value}{o:OpD}(H:rOp.R Z h cs o){w hh:Int}:ag prog Bf #[.agg cs.toArray,af w,af hh] h λr h'=>
  r=.tuple #[af (if o.kind=3 then o.w else w),af (if o.kind=3 then o.hh else hh)]∧Ext h h':=by
 apply Q9;unfold FK;obtain⟨s,t,rfl,I,G⟩:=H;simp only[bF];refine aI λb h1 r1 D F=>?_
 simp only[go_sem,ao r1];refine aq (λA=>?_) (λA=>?_)
 ·rw[aB A,aB A];exact⟨rfl,D⟩
 ·rw[aA A,aA A];exact⟨rfl,D⟩
end Go.Proofs.YtjljhnandbbldaaGreatDoor
namespace Go.Proofs.YtjljhnandbbldaaGreatDoor
open Go Go.Crisp
attribute [local irreducible] ag cO aT stK aG vK qK bL gK eM bC mkK cR HA JA Ep bsK
open _root_.Go.Proofs.Tryz
theorem Y7 {Z:Nat→Prop}{h:ai}{v:Value}{l:List Int}(H:Rp.Sl rI Z h v l){i:Nat}(hi:i<l.length):
  ∃p,bh 1 v (af (i:Int))=some p∧ldV h p=some (af l[i]):=by
 obtain⟨p,c,D,hc,A⟩:=H.at1 rfl (k:=.i64) hi;have A:[c]=[af l[i]]:=A;obtain rfl:c=af l[i]:=by simpa using A
 exact⟨p,D,hc⟩
theorem Xd {h:ai}{Z Z':Nat→Prop}{v u:Value}{l:List Int}(H:Rp.Sl rI Z h v l)(K:Rp.Sl rI Z' h u l)(U:l.length≤4398046511104):
  ag prog vZ #[v,u] h λr h'=>r=.bool true∧h'=h:=by
 apply Rh;unfold FR;have I:=H;have K0:=K;obtain⟨a,c,rfl⟩:=H.isSl;obtain⟨L,c',rfl⟩:=K.isSl;simp only[go_sem];refine Hk l.length (λi G=>i≤l.length∧G=h) ⟨ae,rfl⟩ ?_;rintro i _ again ρj ⟨hi,rfl⟩ D;simp only[go_sem];refine aq (λh1=>?_) (λh1=>?_)
 ·have A:i<l.length:=ae;obtain⟨p,F,hc⟩:=Y7 I A;obtain⟨q,hq,hd⟩:=Y7 K0 A;simp only[go_sem,F,hc,hq,hd];rw[w64 ae ae];exact D _ A ⟨ae,rfl⟩
 ·exact⟨trivial,trivial⟩
theorem c_Ref {h:ai}{Z:Nat→Prop}{cs:List Value}{o:OpD}(H:rOp.R Z h cs o):
  ag prog Ed #[.agg cs.toArray] h λr h'=>r=.agg cs.toArray∧rOp.R Z h' cs o∧Ext h h':=by
 apply TO;unfold IQ;have G:=H;obtain⟨s,t,rfl,Hx,W⟩:=H;have os:=Hx.one;have U:=W.one;simp only[bF];refine aI λb1 h1 r1 D n1=>aI λb2 h2 r2 F n2=>?_
 have r1:=F.row r1;have e:=D.trans F;have s1:=D.1;simp only[go_sem,ao r1];have I:aR #[aj,aj,aj,aj,(.slice none 0 0),(.slice none 0 0),aj,aj,aj]
   [(0,1,(af o.kind)),(1,1,(af o.border)),(2,1,(af o.sigma)),(3,1,(af o.radius)),(4,1,s),(5,1,t),(6,1,(af o.filter)),(7,1,(af o.w)),(8,1,(af o.hh))]=
   some #[af o.kind,af o.border,af o.sigma,af o.radius,s,t,af o.filter,af o.w,af o.hh]:=by
  simp[aR,cJ os,cJ U,cJ (show aV (.int _ _)=true from rfl)]
 rw[I,cU,ah];refine bI (l:=[af o.kind,af o.border,af o.sigma,af o.radius,s,t,af o.filter,af o.w,af o.hh]) r2 rfl (rOp.one G) rfl λh3 L A=>?_
 rw[aL L 9 rfl,ah];exact⟨rfl,rOp.ext G (e.upd ae A),e.upd ae A⟩
end Go.Proofs.YtjljhnandbbldaaGreatDoor
namespace Go.Proofs.YtjljhnandbbldaaGreatDoor
open Go Go.Crisp
attribute [local irreducible] ag cO aT stK aG vK qK bL gK eM bC mkK cR HA JA Ep bsK clK
open _root_.Go.Proofs.Tryz
def gR (w h c:Int):Prop:=1≤w∧w≤65536∧1≤h∧h≤65536∧(c=1∨c=3)∧w*h*c≤268435456
instance (w h c:Int):Decidable (gR w h c):=by unfold gR;infer_instance
theorem YJ {h:ai}{x y c:Int}:ag prog nG #[af x,af y,af c] h λr h'=>r=.bool (decide (gR x y c))∧h'=h:=by
 apply OI;unfold CD;simp only[go_sem];refine⟨?_,trivial⟩
 congr 1
 rw[iB];unfold gR;by_cases h1:1≤x∧x≤65536∧1≤y∧y≤65536∧(c=1∨c=3)
 ·have D:=kz (a:=x) (A:=65536) (b:=y) (B:=65536) ae ae ae ae;rw[w64 (n:=x*y) ae ae,w64 (n:=x*y*c) (by rcases h1.2.2.2.2 with h|h<;>subst h<;>omega) (by rcases h1.2.2.2.2 with h|h<;>subst h<;>omega)];omega
 ·omega
theorem WW {h:ai}{x y c:Int}:ag prog vW #[af x,af y,af c] h λr h'=>r=.bool (decide (gR x y c))∧h'=h:=by
 apply Rb;unfold FM;simp only[go_sem];refine aq (λh0=>?_) (λh0=>?_)
 ·refine⟨?_,trivial⟩;rw[b9];unfold gR;omega
 refine aq (λh1=>?_) (λh1=>?_)
 ·refine⟨?_,trivial⟩;rw[b9];unfold gR;omega
 have D:=kz (a:=x) (A:=65536) (b:=y) (B:=65536) ae ae ae ae;rw[w64 (n:=x*y) ae ae,nD _ _ _ _ ae,ah];simp only[go_sem];refine⟨?_,trivial⟩
 congr 1
 rw[iB];unfold gR;have hc:c=1∨c=3:=ae;rcases hc with hc|hc<;>subst hc
 ·rw[show Int.tdiv 268435456 1=268435456 from by decide,w64 ae ae];omega
 ·rw[show Int.tdiv 268435456 3=89478485 from by decide,w64 ae ae];omega
def qR (o:OpD)(w:Int):Int:=if o.kind=3 then o.w else w
def uM (o:OpD)(h:Int):Int:=if o.kind=3 then o.hh else h
def Ia (c:Int):List OpD→Int→Int→Int
 | [],_,_=>0
 |o::l,w,h=>if fJ o w h≠0 then fJ o w h else if¬gR (qR o w) (uM o h) c then 5 else Ia c l (qR o w) (uM o h)
def y4:List OpD→Int→Int→List Stg
 | [],_,_=>[]
 |o::l,w,h=>cB o w h::y4 l (qR o w) (uM o h)
def BZ (l:List OpD)(w h c:Int):Int:=if 16<l.length then 6 else if¬gR w h c then 5 else Ia c l w h
def Gp:Rp Stg where
 w:=3
 R:=λZ h cs s=>∃p q,cs=[p,q,.int .i64 s.border]∧gd Z h p s.x∧gd Z h q s.y
 len:=by rintro _ _ _ _ ⟨x,y,rfl,_⟩;rfl
 one:=by
  rintro _ _ _ _ ⟨x,y,rfl,H,K⟩;exact az (nN H) (az (nN K) (az rfl aU))
 fr:=by rintro _ _ _ _ _ _ ⟨x,y,rfl,H,K⟩ f q;exact⟨x,y,rfl,Rp.Pt.fr H f q,Rp.Pt.fr K f q⟩
 mono:=by rintro _ _ _ _ _ ⟨x,y,rfl,H,K⟩ q;exact⟨x,y,rfl,Rp.Pt.mono H q,Rp.Pt.mono K q⟩
def zdv (e:Rp Stg)(h:ai)(code:Int)(l:List Stg)(r:Value)(h':ai):Prop:=∃v,r=.tuple #[v,.int .i64 code]∧Ext h h'∧(code≠0→v=.slice none 0 0)∧(code=0→kc e h h' v l)
structure Gz (l:List OpD):Prop where
 wf:∀o∈l,o.Wf
 len:∀o∈l,o.x.length≤17592186044416∧o.y.length≤17592186044416
 few:l.length≤4398046511104
theorem Vq {o:OpD}(W:o.Wf){w h:Int}(A:I64 w)(hh:I64 h):I64 (qR o w)∧I64 (uM o h):=by
 unfold qR uM;constructor
 ·split;exact W.w;exact A
 ·split;exact W.hh;exact hh
theorem Sx {α:Type}{l:List α}{k:Nat}(h:k<l.length):l.drop k=l[k]::l.drop (k+1):=AS h
theorem zey {Z:Nat→Prop}{h:ai}(G:fC h){v:Value}{l:List OpD}(H:Rp.Sl rOp Z h v l)(W:Gz l){w hh c:Int}(hw:I64 w)(am:I64 hh):
  ag prog QF #[v,af w,af hh,af c] h (zdv Gp h (BZ l w hh c) (y4 l w hh)):=by
 apply zaH;unfold RX;obtain⟨a,cap,e⟩:=H.isSl;have e2:aD v=some (af (l.length:Int)):=by rw[e];rfl
 rw[e2,ah];have few:=W.few;have ro:BZ l w hh c=if 16<l.length then 6 else if¬gR w hh c then 5 else Ia c l w hh:=rfl
 simp only[go_sem];refine aq (λh0=>?_) (λh0=>?_)
 ·rw[aB ae]at ro;rw[ro];exact⟨_,rfl,Ext.refl _,λ_=>rfl,λh=>by cases h⟩
 rw[aA ae]at ro;refine YJ.mono λr h1 ⟨e,wq⟩=>?_
 have wq:=wq.symm;subst e wq;simp only[go_sem];refine aq (λh1=>?_) (λh1=>?_)
 ·rw[aB h1]at ro;rw[ro];exact⟨_,rfl,Ext.refl _,λ_=>rfl,λh=>by cases h⟩
 rw[aA h1]at ro
 try rw[e2,ah]
 refine bO (α:=Int×Int×Value) l.length 0 (λk a=>[af a.1,af a.2.1,a.2.2,af (k:Int)])
  (λk a h'=>I64 a.1∧I64 a.2.1∧BZ l w hh c=Ia c (l.drop k) a.1 a.2.1∧∃done,done.length=k∧y4 l w hh=done++y4 (l.drop k) a.1 a.2.1∧kc Gp h h' a.2.2 done) (w,hh,.slice none 0 0) rfl (bZ _)
  ⟨hw,am,ro,[],rfl,rfl,kc.nil (Ext.refl _)⟩ λk a h2 again ρj _ hk ⟨iw,ih,hc,done,dl,hd,N⟩ an=>?_
 obtain⟨w1,A,out⟩:=a;simp only[go_sem];have N:kc Gp h h2 out done:=N;have iw:I64 w1:=iw;have ih:I64 A:=ih;refine aq (λh3=>?_) (λh3=>?_)
 ·have I:k<l.length:=ae;have hc:BZ l w hh c=Ia c (l.drop k) w1 A:=hc;have hd:y4 l w hh=done++y4 (l.drop k) w1 A:=hd;rw[Sx I]at hc hd;have hm:=cQ I;have Wo:=W.wf _ hm;have Lo:=W.len _ hm;obtain⟨p,cs,q1,q2,Ho⟩:=Rp.Sl.atw (e:=rOp) (H.ext N.exts) (show 0<9 by omega) (k:=.i64) I;have q1:bh 9 v (af (k:Int))=some p:=q1;have q2:aM 9 h2 p=some (.agg cs.toArray):=q2;rw[q1,ah,q2,ah];have F:cs.length=9:=rOp.len Ho;refine cX (cs:=cs) F (rOp.one Ho) F λb h4 r4 e4 n4=>?_
  rw[aL r4 9 F,ah];have G4:=G.ext (N.exts.trans e4);have ad:=rOp.ext Ho e4;generalize l[k]=o at*;refine(Lr G4 ad Wo ae ae iw ih).mono λr h5 ⟨sv,e,e5,s0,s1⟩=>?_
  subst e;simp only[go_sem];have so:∃ds:List Value,sv=.agg ds.toArray∧ds.length=3∧(∀x∈ds,aV x=true)∧(fJ o w1 A=0→Gp.R (gn h4 h5) h5 ds (cB o w1 A)):=by
   by_cases hm:fJ o w1 A=0
   ·obtain⟨p,q,e,t1,t2⟩:=s1 hm;exact⟨[p,q,af (cB o w1 A).border],e,rfl,az (nN t1) (az (nN t2) (az rfl aU)),λ_=>⟨p,q,rfl,t1,t2⟩⟩
   ·exact⟨[.pointer none,.pointer none,aj],s0 hm,rfl,az rfl (az rfl (az rfl aU)),λh=>absurd h hm⟩
  obtain⟨ds,rfl,U,d1,dR⟩:=so;refine cX (cs:=ds) U d1 U λb2 h6 r6 e6 n6=>?_
  have aa:Ext h2 h6:=e4.trans (e5.trans e6);refine aq (λD=>?_) (λD=>?_)
  ·unfold Ia at hc;rw[aB D]at hc;rw[hc];exact⟨_,rfl,N.exts.trans aa,λ_=>rfl,λh=>absurd h D⟩
  have D:fJ o w1 A=0:=cA D;unfold Ia at hc;rw[aA (by simpa using D)]at hc;have ar:=(e5.trans e6).row r4;rw[aL ar 9 F,ah];refine(zc3 (rOp.ext ad (e5.trans e6))).mono λr h7 ⟨e,e7⟩=>?_
  subst e;simp only[go_sem];refine YJ.mono λr L ⟨e,wq⟩=>?_
  have wq:=wq.symm;subst e wq;simp only[go_sem];refine aq (λL=>?_) (λL=>?_)
  ·have L:¬gR (qR o w1) (uM o A) c:=L;rw[aB L]at hc;rw[hc];exact⟨_,rfl,N.exts.trans (aa.trans e7),λ_=>rfl,λh=>by cases h⟩
  have L:¬ ¬gR (qR o w1) (uM o A) c:=L;rw[aA L]at hc;rw[aL (e7.row r6) 3 U,ah];have au:=aa.trans e7;have N7:=N.ext au;have R7:=Gp.ext (dR D) (e6.trans e7);refine kc.push (e:=Gp) (Y:=gn h4 h5) N7 R7 (λb hb=>⟨bA (N.exts.trans e4).1 hb.1,?_,λhv=>?_⟩) rfl rfl (by rw[dl];omega) (by rw[dl];omega) λs' h' N' _ _=>?_
  ·have:=hb.2;have:=e6.1;have:=e7.1;omega
  ·have h9:=N.lt hv;have ay:=hb.1;have ax:=e4.1;omega
  ·try simp only[go_sem]
   rw[w64 ae ae];have hs:=Vq Wo iw ih;refine an (qR o w1,uM o A,s') h' I ⟨hs.1,hs.2,hc,done++[cB o w1 A],by simp[dl],?_,N'⟩;rw[cL];exact hd
 ·have al:k=l.length:=ae;subst al;have hc:BZ l w hh c=Ia c (l.drop l.length) w1 A:=hc;have hd:y4 l w hh=done++y4 (l.drop l.length) w1 A:=hd;rw[List.drop_length]at hc hd;have hc:BZ l w hh c=0:=hc;rw[hc,hd];refine⟨_,rfl,N.exts,λh=>absurd rfl h,λ_=>?_⟩;rw[show y4 [] w1 A=[]from rfl,iC];exact N
theorem zc1 {Z:Nat→Prop}{h:ai}{v:Value}{l:List OpD}(H:Rp.Sl rOp Z h v l)(W:Gz l){w hh c:Int}(hw:I64 w)(am:I64 hh):
  ag prog DX #[v,af w,af hh,af c] h (zdv yP h (BZ l w hh c) (y4 l w hh)):=by
 apply TA;unfold IB;obtain⟨a,cap,e⟩:=H.isSl;have e2:aD v=some (af (l.length:Int)):=by rw[e];rfl
 rw[e2,ah];have few:=W.few;have U:BZ l w hh c=if 16<l.length then 6 else if¬gR w hh c then 5 else Ia c l w hh:=rfl
 simp only[go_sem];refine aq (λh0=>?_) (λh0=>?_)
 ·rw[aB ae]at U;rw[U];exact⟨_,rfl,Ext.refl _,λ_=>rfl,λh=>by cases h⟩
 rw[aA ae]at U;refine WW.mono λr h1 ⟨e,wq⟩=>?_
 have wq:=wq.symm;subst e wq;simp only[go_sem];refine aq (λh1=>?_) (λh1=>?_)
 ·rw[aB h1]at U;rw[U];exact⟨_,rfl,Ext.refl _,λ_=>rfl,λh=>by cases h⟩
 rw[aA h1]at U
 try rw[e2,ah]
 refine bO (α:=Int×Int×Value) l.length 0 (λk a=>[af a.1,af a.2.1,a.2.2,af (k:Int)])
  (λk a h'=>I64 a.1∧I64 a.2.1∧BZ l w hh c=Ia c (l.drop k) a.1 a.2.1∧∃done,done.length=k∧y4 l w hh=done++y4 (l.drop k) a.1 a.2.1∧kc yP h h' a.2.2 done) (w,hh,.slice none 0 0) rfl (bZ _)
  ⟨hw,am,U,[],rfl,rfl,kc.nil (Ext.refl _)⟩ λk a h2 again ρj _ hk ⟨iw,ih,hc,done,dl,hd,N⟩ an=>?_
 obtain⟨w1,A,out⟩:=a;simp only[go_sem];have N:kc yP h h2 out done:=N;have iw:I64 w1:=iw;have ih:I64 A:=ih;refine aq (λh3=>?_) (λh3=>?_)
 ·have G:k<l.length:=ae;have hc:BZ l w hh c=Ia c (l.drop k) w1 A:=hc;have hd:y4 l w hh=done++y4 (l.drop k) w1 A:=hd;rw[Sx G]at hc hd;have hm:=cQ G;have Wo:=W.wf _ hm;have Lo:=W.len _ hm;obtain⟨p,cs,q1,q2,Ho⟩:=Rp.Sl.atw (e:=rOp) (H.ext N.exts) (show 0<9 by omega) (k:=.i64) G;have q1:bh 9 v (af (k:Int))=some p:=q1;have q2:aM 9 h2 p=some (.agg cs.toArray):=q2;rw[q1,ah,q2,ah];have F:cs.length=9:=rOp.len Ho;refine cX (cs:=cs) F (rOp.one Ho) F λb h4 r4 e4 n4=>?_
  rw[aL r4 9 F,ah];have ad:=rOp.ext Ho e4;generalize l[k]=o at*;refine(zbj ad Wo ae ae iw ih).mono λr h5 ⟨ds,e,e5,s0,dR⟩=>?_
  subst e;simp only[go_sem];have so:ds.length=5∧(∀x∈ds,aV x=true):=by
   by_cases hm:fJ o w1 A=0
   ·exact⟨yP.len (dR hm),yP.one (dR hm)⟩
   ·rw[s0 hm];exact⟨rfl,az rfl (az rfl (az rfl (az rfl (az rfl aU))))⟩
  obtain⟨L,d1⟩:=so;refine cX (cs:=ds) L d1 L λb2 h6 r6 e6 n6=>?_
  have aa:Ext h2 h6:=e4.trans (e5.trans e6);refine aq (λD=>?_) (λD=>?_)
  ·unfold Ia at hc;rw[aB D]at hc;rw[hc];exact⟨_,rfl,N.exts.trans aa,λ_=>rfl,λh=>absurd h D⟩
  have D:fJ o w1 A=0:=cA D;unfold Ia at hc;rw[aA (by simpa using D)]at hc;have ar:=(e5.trans e6).row r4;rw[aL ar 9 F,ah];refine(zbi (rOp.ext ad (e5.trans e6))).mono λr h7 ⟨e,e7⟩=>?_
  subst e;simp only[go_sem];refine WW.mono λr I ⟨e,wq⟩=>?_
  have wq:=wq.symm;subst e wq;simp only[go_sem];refine aq (λI=>?_) (λI=>?_)
  ·have I:¬gR (qR o w1) (uM o A) c:=I;rw[aB I]at hc;rw[hc];exact⟨_,rfl,N.exts.trans (aa.trans e7),λ_=>rfl,λh=>by cases h⟩
  have I:¬ ¬gR (qR o w1) (uM o A) c:=I;rw[aA I]at hc;rw[aL (e7.row r6) 5 L,ah];have au:=aa.trans e7;have N7:=N.ext au;have R7:=yP.ext (dR D) (e6.trans e7);refine kc.push (e:=yP) (Y:=gn h4 h5) N7 R7 (λb hb=>⟨bA (N.exts.trans e4).1 hb.1,?_,λhv=>?_⟩) rfl rfl (by rw[dl];omega) (by rw[dl];omega) λs' h' N' _ _=>?_
  ·have:=hb.2;have:=e6.1;have:=e7.1;omega
  ·have h9:=N.lt hv;have ay:=hb.1;have ax:=e4.1;omega
  ·try simp only[go_sem]
   rw[w64 ae ae];have hs:=Vq Wo iw ih;refine an (qR o w1,uM o A,s') h' G ⟨hs.1,hs.2,hc,done++[cB o w1 A],by simp[dl],?_,N'⟩;rw[cL];exact hd
 ·have al:k=l.length:=ae;subst al;have hc:BZ l w hh c=Ia c (l.drop l.length) w1 A:=hc;have hd:y4 l w hh=done++y4 (l.drop l.length) w1 A:=hd;rw[List.drop_length]at hc hd;have hc:BZ l w hh c=0:=hc;rw[hc,hd];refine⟨_,rfl,N.exts,λh=>absurd rfl h,λ_=>?_⟩;rw[show y4 [] w1 A=[]from rfl,iC];exact N
theorem zfW {Z:Nat→Prop}{h:ai}{v:Value}{l:List OpD}(H:Rp.Sl rOp Z h v l)(few:l.length≤4398046):
  ag prog Bs #[v] h λr h'=>Rp.Sl rOp (λ_=>True) h' r l∧Ext h h':=by
 apply Ry;unfold Ge;obtain⟨a,cap,e⟩:=H.isSl;have e2:aD v=some (af (l.length:Int)):=by rw[e];rfl
 rw[e2,ah];have H:=H.mono (Z':=λc=>c<h.size) λc hc _=>hc
 refine bO (α:=Value) l.length 0 (λk a=>[a,af (k:Int)])
  (λk a h'=>Rp.Ow rOp (λc=>c<h.size) h' a (l.take k)∧Ext h h'∧∀b,blk a b→h.size≤b) (.slice none 0 0) rfl (bZ _)
  ⟨Rp.Ow.nil,Ext.refl _,λb hb=>hb.elim⟩ λk out h2 again ρj _ hk ⟨N,E,nb⟩ aa=>?_
 simp only[go_sem];refine aq (λh3=>?_) (λh3=>?_)
 ·have D:k<l.length:=ae;obtain⟨p,cs,q1,U,Ho⟩:=Rp.Sl.atw (e:=rOp) (H.ext E) (show 0<9 by omega) (k:=.i64) D;have q1:bh 9 v (af (k:Int))=some p:=q1;have U:aM 9 h2 p=some (.agg cs.toArray):=U;rw[q1,ah,U,ah];have A:cs.length=9:=rOp.len Ho;refine cX (cs:=cs) A (rOp.one Ho) A λb h4 r4 I n4=>?_
  rw[aL r4 9 A,ah];refine(c_Ref (rOp.ext Ho I)).mono λr h5 ⟨e,L,e5⟩=>?_
  subst e;have W:=(E.trans I).trans e5;have F:(l.take k).length=k:=by rw[di];omega
  refine Rp.push_ow (e:=rOp) (N.ext (I.trans e5)) L rfl rfl (by rw[F];omega) (by rw[F];omega) (λc hc=>ce hc W.1) λs' h' o' f' n'=>?_
  try simp only[go_sem]
  rw[w64 ae ae];rw[←jE D]at o';refine aa s' h' D ⟨o',W.then_fr f' nb,λc hc=>?_⟩;rcases n' c hc with G|G
  ·exact nb c G
  ·exact bA W.1 G
 ·rw[fg ae]at N;exact⟨N.sl.mono λ_ _ _=>trivial,E⟩
end Go.Proofs.YtjljhnandbbldaaGreatDoor
