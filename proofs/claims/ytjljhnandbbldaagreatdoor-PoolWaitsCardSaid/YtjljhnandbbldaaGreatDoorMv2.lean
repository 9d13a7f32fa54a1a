/- Several texts of this session, one behind the other, without what this claim does not need (put together by its program pack.py). Conditions: none. -/
import Derived.Test.YtjljhnandbbldaaGreatDoorMv1
set_option linter.unusedVariables false
set_option linter.unusedSimpArgs false
set_option maxRecDepth 100000
namespace Go.Proofs.YtjljhnandbbldaaGreatDoor
open Go Go.Crisp
attribute [local irreducible] ag df aW stK aF vK qK bJ gK eK aZ mkK di Fi GM CF bsK
open _root_.Go.Proofs.Tryz
theorem VT {a:Int}{n:Nat}(k':IntKind)(A:n≤64):ak .i .shl (af a) (.int k' (n:Int))=some (af (IntKind.i64.wrap (a*2^n))):=by
 show(if(n:Int)<0 then none else some (af (IntKind.i64.wrap (a*(2^(min (n:Int).toNat 64))))))=_;rw[az ae,eT,uj A]
theorem YF {a:Int}(k':IntKind):ak .i .shl (af a) (.int k' 40)=some (af (IntKind.i64.wrap (a*1099511627776))):=VT (n:=40) k' ae
theorem zcf {a:Int}(k':IntKind):ak .i .shl (af a) (.int k' 31)=some (af (IntKind.i64.wrap (a*2147483648))):=VT (n:=31) k' ae
theorem zac {h:ah}{a b:Int}(D:I64 a)(H:I64 b)(h0:0<b):ag prog sF #[af a,af b] h λr h'=>r=af (a%b)∧h'=h:=by
 apply QW;unfold Gf;have I:(b=0)=False:=fJ ae;have F:(b= -1)=False:=fJ ae;have U:(b<0)=False:=fJ ae;simp only[go_sem,I,F];rw[dP _ _ _ _ ae,aj];simp only[go_sem,U];have e:= @Int.emod_eq_tmod a b;have W:=ks a (show b≠0 by omega);have G:=iF a h0;unfold I64 at D H;by_cases hc:a.tmod b=0
 ·simp only[go_sem,hc];refine⟨?_,trivial⟩;rw[hc]at e;split at e
  ·rw[e];rfl
  ·rename_i L;exact absurd (Or.inr (Int.dvd_of_tmod_eq_zero hc)) L
 ·simp only[go_sem,hc];by_cases A:a.tmod b<0
  ·simp only[go_sem,A];split at e
   ·omega
   ·rw[w64 ae ae];refine⟨?_,trivial⟩
    congr 1;omega
  ·simp only[go_sem,A];refine⟨?_,trivial⟩
   congr 1
   split at e<;>omega
theorem W9 {h:ah}{x l u:Int}:ag prog q9 #[af x,af l,af u] h λr h'=>r=af (max l (min x u))∧h'=h:=by
 apply Mr;unfold Bi;simp only[go_sem];exact⟨by simp,by simp⟩
theorem Nv {h:ah}{a b:Int}(A:I64 a)(D:I64 b):ag prog xh #[af a,af b] h λr h'=>r=af (Dq a b)∧h'=h:=by
 apply QX;unfold Gg;simp only[go_sem,iW];unfold Dq I64 at*;refine ao (λh0=>?_) (λh0=>?_)
 ·exact⟨by congr 1;omega,trivial⟩
 refine ao (λh1=>?_) (λh1=>?_)
 ·exact⟨by congr 1;omega,trivial⟩
 ·exact⟨by congr 1;omega,trivial⟩
theorem Vz {h:ah}{a b:Int}(A:I64 a)(D:I64 b):ag prog Cu #[af a,af b] h λr h'=>r=af (zaV a b)∧h'=h:=by
 apply QV;unfold Ge;refine(nC A).mono λv1 h1 ⟨F,w1⟩=>?_
 subst F w1;refine(nC D).mono λv2 h2 ⟨I,G⟩=>?_
 subst I G;refine(Se (js A) (js D)).mono λv3 W ⟨H,L⟩=>?_
 subst H L;simp only[go_sem];unfold zaV;have U:=Qr A D;generalize a.natAbs*b.natAbs=m at*;refine ao (λh0=>?_) (λh0=>?_)
 ·refine(si (m:=18446744073709551615) (b:=kI a b) ae).mono λv h' ⟨e,w⟩=>⟨?_,w⟩
  rw[e,Py (n:=m) ae ae]
 ·rw[show m%18446744073709551616=m by omega];exact si ae
theorem c_Exp {h:ah}{t:Int}(F:I64 t):ag prog Fy #[af t] h λr h'=>r=af (XY t)∧h'=h:=by
 apply Tm;unfold Jz;simp only[go_sem];unfold XY;have A:0≤max 0 t∧max 0 t≤9223372036854775807:=by unfold I64 at F;omega
 generalize max 0 t=T at*;rw[mq _ _ _ _ ae,aj,dP _ _ _ _ ae,aj,wU A.1,jT A.1,w64 ae ae];have hr:0≤T%762123384786∧T%762123384786<762123384786:=ae;generalize G:T%762123384786=r at*;refine lG (λi=>[af (fC r i).1,af (fC r i).2,af (i:Int)]) 16 0 rfl ae λi again ρj _ hi H=>?_
 simp only[go_sem];obtain⟨I,D⟩:=BU r i;refine ao (λh0=>?_) (λh0=>?_)
 ·have H:=H ae;simp only[fC]at H;rw[w64 (n:=(i:Int)+1) ae ae,YF,aj,w64 ae ae];refine(oH D (by unfold I64;omega) (by unfold I64;omega)).mono λW h1 ⟨L,w1⟩=>?_
  subst L w1;rw[dP _ _ _ _ ae,aj,jT ae];simp only[go_sem];refine ao (λU=>?_) (λU=>?_)
  ·rw[aA ae]at H;rw[show((i+1:Nat):Int)=(i:Int)+1 by omega]at H;exact H
  ·rw[az ae]at H;rw[show((i+1:Nat):Int)=(i:Int)+1 by omega]at H;exact H
 ·have:i=16:=ae;subst this;exact Lb I (by unfold I64;omega)
theorem zbF {h:ah}{d s:Int}(hd:I64 d)(D:I64 s):ag prog zX #[af d,af s] h λr h'=>r=af (Et d s)∧h'=h:=by
 apply OI;unfold D3;simp only[go_sem];unfold Et;refine ao (λh0=>?_) (λh0=>?_)
 ·rw[aA ae];exact⟨rfl,trivial⟩
 ·rw[az ae,zcf,aj];have h1:=O0 (d:=d) (B:=16384) ae ae;have A:=O0 (d:=s) (B:=4194304) ae ae;rw[w64 (n:=d*d) ae ae,w64 (n:=d*d*2147483648) ae ae,w64 (n:=s*s) ae ae];exact oH (by unfold I64;omega) (by unfold I64;omega) (by unfold I64;omega)
theorem zbK {h:ah}{d s:Int}(hd:I64 d)(D:I64 s):ag prog zY #[af d,af s] h λr h'=>r=af (BQ d s)∧h'=h:=by
 apply OJ;unfold D4;refine(zbF hd D).mono λF h1 ⟨A,w1⟩=>?_
 subst A w1;refine(c_Exp (LN _ _)).mono λF h1 ⟨A,w1⟩=>?_
 subst A w1;exact Lb (M8 _) (by unfold I64;omega)
theorem Fm {h:ah}{p:Int}(A:I64 p)(h0:p≠ -9223372036854775808):ag prog xc #[af p] h λr h'=>r=af (max p (-p))∧h'=h:=by
 apply QA;unfold FM;unfold I64 at A;simp only[go_sem];rw[w64 ae ae];exact⟨by rw[RA],trivial⟩
theorem c_May {h:ah}{p q:Int}(A:I64 p)(hq:I64 q):ag prog Fv #[af p,af q] h λr h'=>r=.bool (decide (Kx p q))∧h'=h:=by
 apply Td;unfold Jq;simp only[go_sem];refine⟨?_,trivial⟩
 congr 1
 rw[gE];unfold Kx I64 at*;by_cases h1:1≤q∧q≤1048576
 ·rw[w64 (n:= -4*q) ae ae,w64 (n:=4*q) ae ae];omega
 ·omega
theorem Sr (x:Int):2*x*(2*x+1)=4*(x*x)+2*x:=by
 have e:2*x*(2*x)=4*(x*x):=by rw[oB 2 x (2*x),CL x 2 x];omega
 rw[GZ,Int.mul_one,e]
theorem TZ {h:ah}{p q:Int}(L:I64 p)(h0:p≠ -9223372036854775808)(hq:I64 q):ag prog qT #[af p,af q] h λr h'=>r=af (yO p q)∧h'=h:=by
 apply LW;unfold AN;unfold yO;refine(Fm L h0).mono λF h1 ⟨A,w1⟩=>?_
 subst A w1;have G:I64 (max p (-p)):=by unfold I64 at*;omega
 refine(oH (by unfold I64;omega) G hq).mono λF h1 ⟨A,w1⟩=>?_
 subst A w1;refine(oH (gk _ _ _) G hq).mono λF h1 ⟨A,w1⟩=>?_
 subst A w1;have hu:=gk (cS 10851744800547 (max p (-p)) q) (max p (-p)) q;generalize cS (cS 10851744800547 (max p (-p)) q) (max p (-p)) q=u at*;refine lG (λi=>[af (cA u i).1,af (cA u i).2,af (if i%2=0 then 1 else-1),af ((i:Int)+1)]) 30 0 rfl ae λi again ρj _ hi H=>?_
 simp only[go_sem];obtain⟨s1,I⟩:=yN u i;refine ao (λh0=>?_) (λh0=>?_)
 ·have H:=H ae;simp only[cA]at H;have U:=O0 (d:=(i:Int)+1) (B:=30) ae ae;have he:=Sr ((i:Int)+1);rw[w64 (n:=2*((i:Int)+1)) ae ae,w64 (n:=2*((i:Int)+1)+1) ae ae,w64 (n:=2*((i:Int)+1)*(2*((i:Int)+1)+1)) ae ae,YF,aj,w64 ae ae];refine(oH I hu (by unfold I64;omega)).mono λF h1 ⟨A,w1⟩=>?_
  subst A w1;rw[w64 (n:=(i:Int)+1+1) ae ae];have W:=gk (cA u i).2 u (2*((i:Int)+1)*(2*((i:Int)+1)+1)*1099511627776);simp only[go_sem];by_cases D:i%2=0
  ·rw[aA D,az ae]at H;rw[aA D];have A:IntKind.i64.wrap ((cA u i).1+IntKind.i64.wrap (IntKind.i64.wrap (0-1)*cS (cA u i).2 u (2*((i:Int)+1)*(2*((i:Int)+1)+1)*1099511627776)))=IntKind.i64.wrap ((cA u i).1-cS (cA u i).2 u (2*((i:Int)+1)*(2*((i:Int)+1)+1)*1099511627776)):=by
    rw[pX,w64 (n:=0-1) ae ae];congr 1;omega
   rw[A];exact H
  ·rw[az D,aA ae]at H;rw[az D];have A:IntKind.i64.wrap ((cA u i).1+IntKind.i64.wrap (IntKind.i64.wrap (0- -1)*cS (cA u i).2 u (2*((i:Int)+1)*(2*((i:Int)+1)+1)*1099511627776)))=IntKind.i64.wrap ((cA u i).1+cS (cA u i).2 u (2*((i:Int)+1)*(2*((i:Int)+1)+1)*1099511627776)):=by
    rw[pX,w64 (n:=0- -1) ae ae];congr 1;omega
   rw[A];exact H
 ·have:i=30:=ae;subst this;exact⟨rfl,trivial⟩
theorem Yn {h:ah}{p q:Int}(F:I64 p)(hq:I64 q):ag prog vN #[af p,af q] h λr h'=>r=af (vB p q)∧h'=h:=by
 apply Ki;unfold Af;unfold vB;refine(c_May F hq).mono λG h1 ⟨A,w1⟩=>?_
 subst A w1;by_cases D:Kx p q
 ·have H:=D;unfold Kx at H;by_cases h0:3*q≤max p (-p)
  ·rw[aA (.inr h0)];simp only[go_sem,D];refine(Fm F ae).mono λG h1 ⟨A,w1⟩=>?_
   subst A w1;rw[w64 (n:=3*q) ae ae];simp only[go_sem,h0];exact⟨by simp,by simp⟩
  ·rw[az (by rintro(I|I);exact I D;omega)];simp only[go_sem,D];refine(Fm F ae).mono λG h1 ⟨A,w1⟩=>?_
   subst A w1;rw[w64 (n:=3*q) ae ae];simp only[go_sem,h0];refine(TZ F ae hq).mono λG h1 ⟨A,w1⟩=>?_
   subst A w1;refine(TZ F ae (by unfold I64;omega)).mono λG h1 ⟨A,w1⟩=>?_
   subst A w1;refine(VB (wN _ _) (wN _ _) (by unfold I64;omega)).mono λG h1 ⟨A,w1⟩=>?_
   subst A w1;exact Lb (xr _ _ _) (by unfold I64;omega)
 ·rw[aA (.inl D)];simp only[go_sem,D];exact⟨by simp,by simp⟩
end Go.Proofs.YtjljhnandbbldaaGreatDoor
namespace Go.Crisp
open Go
theorem yG (a b:Int):IntKind.i64.wrap (IntKind.i64.wrap a*b)=IntKind.i64.wrap (a*b):=by
 obtain⟨k,A⟩:∃k,IntKind.i64.wrap a=a+18446744073709551616*k:=⟨(IntKind.i64.wrap a-a)/18446744073709551616,by rw[iW];omega⟩
 rw[A,jw,oB,iW,iW];generalize k*b=c;omega
theorem El (a b:Int):IntKind.i64.wrap (a*IntKind.i64.wrap b)=IntKind.i64.wrap (a*b):=by
 rw[fQ,yG,fQ]
theorem qA {a b:Int}(L:I64 a)(hb:0<b):IY a b=a/b:=by
 unfold IY Fg kI jK;rw[az ae];unfold I64 at L;have U:(b<0)=False:=fJ ae;simp only[U,KQ];obtain⟨B,rfl⟩:∃B:Nat,b=(B:Int):=⟨b.toNat,ae⟩
 simp only[Int.natAbs_natCast];by_cases h:a<0
 ·simp only[h,gm];obtain⟨A,rfl⟩:∃A:Nat,a= -(A:Int):=⟨(-a).toNat,ae⟩
  have e2:(-(A:Int)).natAbs=A:=ae;rw[e2];have W:0<B:=ae;have hd:=mW A B;have hm:=gT A W;have F:A/B≤A:=jy _ _;simp only[K4,beq_eq_false_iff_ne,ne_eq,Bool.true_eq_false,not_false_eq_true,CT,cJ];by_cases I:A%B=0
  ·rw[az (show¬ ¬A%B=0 from λh=>h I),iE];have G: -(A:Int)=(B:Int)* -((A/B:Nat):Int):=by
    have:(A:Int)=(B:Int)*((A/B:Nat):Int):=by exact_mod_cast (by omega:A=B*(A/B))
    rw[zc,←this]
   rw[G,Int.mul_ediv_cancel_left _ ae];split<;>omega
  ·rw[aA I];have D:2≤B:=ae;have h2:=ic (A/B) D;have G: -(A:Int)=((B:Int)-((A%B:Nat):Int))+(B:Int)* -((A/B+1:Nat):Int):=by
    have h3:(A:Int)=(B:Int)*((A/B:Nat):Int)+((A%B:Nat):Int):=by exact_mod_cast hd.symm
    rw[zc,show((A/B+1:Nat):Int)=((A/B:Nat):Int)+1 from rfl,GZ,Int.mul_one];omega
   rw[G,ug _ _ ae,qQ ae ae];split<;>omega
 ·simp only[h,KQ];obtain⟨A,rfl⟩:∃A:Nat,a=(A:Int):=⟨a.toNat,ae⟩
  simp only[Int.natAbs_natCast];have H:(!(false==false))=false:=rfl;rw[H];simp only[gF,false_and,cF,iE];have F:A/B≤A:=jy _ _;rw[az ae];rfl
def vY (f n m i:Int):Prop:=0≤f∧f<3∧1≤n∧n≤65536∧1≤m∧m≤65536∧0≤i∧i<m
instance (f n m i:Int):Decidable (vY f n m i):=by unfold vY;infer_instance
def Ng (a b:Int):Int:= -(-a/b)
def cU (f:Int):Int:=if f=0 then 0 else if f=1 then 2 else 3
def qk (f n m i:Int):Int:=if f=0 then i*n/m else((2*i+1)*n-m-cU f*2*max n m)/(2*m)+1
def nA (f n m i:Int):Int:=if f=0 then Ng ((i+1)*n) m else Ng ((2*i+1)*n-m+cU f*2*max n m) (2*m)
def Vl (p q:Int):Int:=if p≥q then 4*(q*q*q)+5*(p*p*q)-p*p*p-8*(p*q*q)else 3*(p*p*p)-5*(p*p*q)+2*(q*q*q)
def HE (p q:Int):Int:=if q<1∨262144<q∨2*q≤p∨p≤ -2*q then 0 else cS (IntKind.i64.wrap (Vl (max p (-p)) q)) 1073741824 (IntKind.i64.wrap (2*(q*q*q)))
theorem XT (p q:Int):I64 (HE p q):=by
 unfold HE;split
 ·unfold I64;omega
 ·exact gk _ _ _
def yK (f n m i j:Int):Int:=
 if f=0 then cS (min ((i+1)*n) ((j+1)*m)-max (i*n) (j*m)) 1073741824 n
 else if f=1 then HE (2*m*j-(2*i+1)*n+m) (2*max n m)
 else vB (2*m*j-(2*i+1)*n+m) (2*max n m)
theorem Uv (f n m i j:Int):I64 (yK f n m i j):=by
 unfold yK;split
 ·exact gk _ _ _
 split
 ·exact XT _ _
 ·exact RW _ _
def Er (f n m i:Int):List Int:=(List.range (nA f n m i-qk f n m i).toNat).map λk:Nat=>yK f n m i (qk f n m i+k)
theorem mT {a A b B:Int}(h0:0≤a)(h1:a≤A)(D:0≤b)(F:b≤B):0≤a*b∧a*b≤A*B:=
 ⟨mV h0 D,qn h1 F D ae⟩
theorem KD {a A b B:Int}(h0: -A≤a)(h1:a≤A)(D:0≤b)(F:b≤B): -(A*B)≤a*b∧a*b≤A*B:=by
 have G:0≤A:=ae;rcases CM 0 a with h|h
 ·have:=mT h h1 D F;have H:0≤A*B:=mV G ae;omega
 ·have:=mT (a:= -a) (A:=A) ae ae D F;rw[Rz]at this;have H:0≤A*B:=mV G ae;omega
theorem rZ {a b L U:Int}(A:1≤b)(h1: -L≤a)(D:a≤U)(hL:0≤L)(F:0≤U): -L≤a/b∧a/b≤U:=by
 constructor
 ·rw[ui ae];have: -L*b≤ -L*1:=RH ae A;omega
 ·apply G9;rw[wW ae];have:(U+1)*1≤(U+1)*b:=qR A ae;omega
structure MayB (f n m i:Int):Prop where
 inb:0≤i*n∧i*n≤4294967296
 in1:(i+1)*n=i*n+n
 tin:(2*i+1)*n=2*(i*n)+n
 rr:cU f*2*max n m=2*(cU f*max n m)
 rb:0≤cU f*max n m∧cU f*max n m≤196608
theorem UZ {f n m i:Int}(h:vY f n m i):MayB f n m i:=by
 obtain⟨f0,f1,G,H,I,m1,L,F⟩:=h;have:=mT (a:=i) (A:=65536) (b:=n) (B:=65536) ae ae ae ae;have D:0≤cU f∧cU f≤3:=by unfold cU;split;omega;split<;>omega
 have:=mT (a:=cU f) (A:=3) (b:=max n m) (B:=65536) D.1 D.2 ae ae;exact⟨ae,by rw[jw,kp],by rw[jw,kp,oB],by rw[Int.mul_right_comm,fQ],ae⟩
theorem MG {f n m i:Int}(h:vY f n m i): -1048576*65536≤qk f n m i∧qk f n m i≤1048576*65536∧ -1048576*65536≤nA f n m i∧nA f n m i≤1048576*65536:=by
 have F:=UZ h;obtain⟨H,b2,A,G,b5⟩:=F;obtain⟨f0,f1,n0,I,m0,m1,i0,W⟩:=h;unfold qk nA Ng;split
 ·have h1:=rZ (a:=i*n) (b:=m) (L:=0) (U:=4294967296) ae ae ae ae ae;have D:=rZ (a:= -((i+1)*n)) (b:=m) (L:=4295032832) (U:=0) ae ae ae ae ae;omega
 ·rw[A,G];have h1:=rZ (a:=2*(i*n)+n-m-2*(cU f*max n m)) (b:=2*m) (L:=8591000000) (U:=8591000000) ae ae ae ae ae;have D:=rZ (a:= -(2*(i*n)+n-m+2*(cU f*max n m))) (b:=2*m) (L:=8591000000) (U:=8591000000) ae ae ae ae ae;omega
def New {α:Type}(e:Rp α)(h h':ah)(v:Value)(l:List α):Prop:=Rp.Ow e (λ_=>False) h' v l∧Ext h h'∧∀b,blk v b→h.size≤b
theorem New.nil {α:Type}{e:Rp α}{h h':ah}(k:Ext h h'):New e h h' (.slice none 0 0) []:=⟨Rp.Ow.nil,k,λb A=>A.elim⟩
theorem New.ext {α:Type}{e:Rp α}{h h' A:ah}{v:Value}{l:List α}(H:New e h h' v l)(k:Ext h' A):New e h A v l:=⟨H.1.ext k,H.2.1.trans k,H.2.2⟩
theorem New.before {α:Type}{e:Rp α}{h0 h h':ah}{v:Value}{l:List α}(H:New e h h' v l)(k:Ext h0 h):New e h0 h' v l:=⟨H.1,k.trans H.2.1,λb A=>bh k.1 (H.2.2 b A)⟩
theorem New.sl {α:Type}{e:Rp α}{h h':ah}{v:Value}{l:List α}(H:New e h h' v l):Rp.Sl e (blk v) h' v l:=H.1.sl.mono λb _ A=>A.elim False.elim id
theorem New.isSl {α:Type}{e:Rp α}{h h':ah}{v:Value}{l:List α}(H:New e h h' v l):∃a cap,v=.slice a l.length cap:=H.1.isSl
theorem New.push {α:Type}{e:Rp α}{z F c:Value}{t t':TypeId}{bytes:Nat}{h h1:ah}{v:Value}{l:List α}{x:α}{K:Value→ah→Prop}(G:e.w=1)(H:New e h h1 v l)
  (W:e.R (λ_=>False) h1 [c] x) (hz:z.cells.size=1) (A:(l.length+1)*bytes≤140737488355328) (hn:l.length+1≤9223372036854775807)
  (I:∀D h',New e h h' D (l++[x])→K D h'):df #[F] t 1 [(0,1,c)] h1 λU L=>di z t' 1 bytes v U L K:=by
 refine Rp.push_ow1 G H.1 W hz A hn (λb A=>A.elim) λD h' o' f' n'=>I D h' ⟨o',H.2.1.then_fr f' H.2.2,λb A=>?_⟩
 rcases n' b A with h1|h1
 ·exact H.2.2 b h1
 ·exact bh H.2.1.1 h1
theorem New.push_int {k:IntKind}{z D:Value}{t U:TypeId}{bytes:Nat}{h h1:ah}{v:Value}{l:List Int}{x:Int}{K:Value→ah→Prop}(H:New (Rp.int k) h h1 v l)
  (W:z.cells.size=1) (L:(l.length+1)*bytes≤140737488355328) (hn:l.length+1≤9223372036854775807)
  (F:∀A h',New (Rp.int k) h h' A (l++[x])→K A h'):df #[D] t 1 [(0,1,.int k x)] h1 λI G=>di z U 1 bytes v I G K:=
 H.push rfl rfl W L hn F
theorem Rp.Sl.int_at {k:IntKind}{Z:Nat→Prop}{h:ah}{v:Value}{l:List Int}(H:Rp.Sl (Rp.int k) Z h v l){k':IntKind}{i:Nat}(hi:i<l.length):∃p,bu 1 v (.int k' (i:Int))=some p∧ldV h p=some (.int k l[i]):=by
 obtain⟨p,c,h1,D,A⟩:=H.at1 rfl (k:=k') hi;have A:[c]=[Value.int k l[i]]:=A;cases A;exact⟨p,h1,D⟩
theorem C9 (k:IntKind)(i d most:Nat)(h:i≤most):bdV (some (.int k (i:Int))) d most=some i:=by
 show(if 0≤(i:Int)∧(i:Int)≤(most:Int)then some (i:Int).toNat else none)=_;rw[aA ae,eT]
theorem SlC.part {w:Nat}{h:ah}{v:Value}{n:Nat}{cs:List Value}(H:SlC w h v n cs){lo hi:Nat}(h1:lo≤hi)(G:hi≤n){a:Option Addr}{cap:Nat}(I:v=.slice a n cap)(hc:n≤cap):
  SlC w h (.slice (if cap=lo then a else a.map (·.add (lo*w))) (hi-lo) (cap-lo)) (hi-lo) ((cs.drop (lo*w)).take ((hi-lo)*w)):=by
 subst I;obtain⟨W,a',F,e,H⟩:=H;cases e;have hm:lo*w+(hi-lo)*w=hi*w:=by rw[←ef];congr 1;omega
 have U:hi*w≤n*w:=ic w G;refine⟨by rw[c5,iZ];omega,_,_,rfl,?_⟩;by_cases D:(cs.drop (lo*w)).take ((hi-lo)*w)=[]
 ·exact .inl D
 ·refine .inr ?_;rcases H with rfl|⟨b,o,rfl,H⟩
  ·exact absurd (by simp) D
  ·have A:cap≠lo:=by
    intro e;have h0:(hi-lo)*w=0:=by rw[show hi-lo=0 by omega,zi]
    exact D (by rw[h0];rfl)
   rw[az A];refine⟨b,o+lo*w,by rw[cI,mG],λj L=>?_⟩;rw[c5,iZ]at L;have:=H (lo*w+j) ae;rw[←ul]at this;rw[this,yZ,w9]
theorem O9 {h:ah}{v:Value}{n:Nat}{cs:List Value}(w:Nat)(H:Own w h v n cs){k:IntKind}{hi:Nat}(F:hi≤n):∃D,xj w v none (some (.int k (hi:Int)))=some D∧SlC w h D hi (cs.take (hi*w))∧∀b,blk D b→blk v b:=by
 have hc:∃a cap,v=.slice a n cap∧n≤cap:=by
  rcases H with⟨rfl,rfl,_⟩|⟨b,cap,r,e,rfl,hc,_⟩
  ·exact⟨none,0,rfl,bU _⟩
  ·exact⟨_,cap,rfl,hc⟩
 obtain⟨a,cap,e,hc⟩:=hc;have:=H.sl.part (bZ hi) F e hc;subst e;refine⟨_,?_,by simpa using this,λb A=>?_⟩
 ·simp only[xj,C9 k hi n cap (show hi≤cap by omega)];simp only[bdV,zi,y9]
 ·cases a with
  |none=>simp at A;exact A
  | some a=>
   split at A
   ·exact A
   ·simp only[cI]at A;have e:(a.add 0).block=a.block:=by unfold Addr.add;split<;>rfl
    rw[show b=(a.add 0).block from A,e];rfl
theorem ZD {h:ah}{v s:Value}{n m k:Nat}{cs ds:List Value}(H:Own 1 h v n cs)(hm:m<n)(U:SlC 1 h s k ds)(ho:∀x∈ds,aQ x=true){kk:IntKind}:
  ∃d,xj 1 v (some (.int kk (m:Int))) none=some d∧∀K:Value→ah→Prop,(∀h',Own 1 h' v n (cs.take m++ds.take (n-m)++cs.drop (m+k))→Fr (blk v) h h'→K (af (Nat.min k (n-m):Nat)) h')→Fi 1 d s h K:=by
 have I:=U.load_some (k:=Nat.min k (n-m)) (Nat.min_le_left ..);obtain⟨ab,a',aa,rfl,al⟩:=U;rcases H with⟨rfl,rfl,rfl⟩|⟨b,cap,r,e,rfl,hc,hl,hr,W⟩
 ·omega
 ·refine⟨.slice (some ⟨b,m,none⟩) (n-m) (cap-m),?_,λK HK=>?_⟩
  ·simp only[xj,C9 kk m 0 cap (show m≤cap by omega)];have A:¬cap=m:=ae;have e0:bdV (some (Value.int kk (m:Int))) 0 n=some m:=C9 kk m 0 n ae;simp only[bdV,e0,az A,cI,mG,aK,lX];rw[aA ae];simp;exact λhh=>absurd hh A
  ·unfold Fi;simp only[OT];rw[I];have F:ds.take (Nat.min k (n-m)*1)=ds.take (n-m):=by
    rw[lX];rcases KV k (n-m)with h1|h1
    ·rw[show Nat.min k (n-m)=k from uj h1,eS ae,eS ae]
    ·rw[show Nat.min k (n-m)=n-m from Nat.min_eq_right h1]
   rw[F];have ad:(ds.take (n-m)).length≤n-m:=by rw[c5];omega
   have D:=mP (o:=m) (ds.take (n-m)) 0 h _ W (by simp;omega) (λv hv=>ho v (CP hv));simp only[D];have G:cs++r=cs.take m++(cs.drop m++r):=by rw[←cf,lW]
   have lt:(cs.take m).length=m:=by rw[c5];omega
   have L:=FA (ds.take (n-m)) (cs.take m) (cs.drop m++r) (by rw[ck,iZ];omega);rw[←G,lt]at L;rw[iE,L];refine HK _ (.inr ⟨b,cap,r,e,rfl,hc,?_,?_,?_⟩) Upd.set.fr
   ·simp only[ck,c5,iZ];omega
   ·simp only[ck,c5,iZ]at hr ⊢;omega
   ·rw[mC W]
    congr 3
    rw[cf,cf,cf]
    congr 2
    rw[c5,RJ];rcases KV k (n-m)with h1|h1
    ·rw[Hn,show min (n-m) ds.length=k by omega,iZ,show k-(cs.length-m)=0 by omega,KU]
    ·rw[Hn,show min (n-m) ds.length=n-m by omega,iZ,show n-m-(cs.length-m)=0 by omega,KU,qp (show cs.length≤m+(n-m)by omega),qp (show cs.length≤m+k by omega)]
theorem Rp.Sl.part {α:Type}{e:Rp α}{Z:Nat→Prop}{h:ah}{v:Value}{l:List α}(H:Rp.Sl e Z h v l){lo hi:Nat}(h1:lo≤hi)(h2:hi≤l.length){a:Option Addr}{n cap:Nat}(hv:v=.slice a n cap)(hc:n≤cap){k k':IntKind}:
  ∃v',xj e.w v (some (.int k (lo:Int))) (some (.int k' (hi:Int)))=some v'∧Rp.Sl e Z h v' ((l.drop lo).take (hi-lo)):=by
 obtain⟨ds,W,hz,he⟩:=H;obtain⟨a',aa,L⟩:=W.isSl;rw[L]at hv;cases hv;have hP:=W.part h1 h2 L hc;subst L;have A:((l.drop lo).take (hi-lo)).length=hi-lo:=by rw[c5,iZ];omega
 refine⟨_,?_,(ds.drop (lo*e.w)).take ((hi-lo)*e.w),by rw[A];exact hP,λI b F=>?_,λi D=>?_⟩
 ·simp only[xj,C9 k' hi _ cap (show hi≤cap by omega),C9 k lo 0 hi h1]
 ·have U:ds≠[]:=λh0=>I (by rw[h0];simp)
  refine hz U b ?_;cases a with
  |none=>simp only[KZ,ite_self]at F;exact F
  | some a=>
   split at F
   ·exact F
   ·simp only[cI]at F;have ea:(a.add (lo*e.w)).block=a.block:=by unfold Addr.add;split<;>rfl
    rw[show b=(a.add (lo*e.w)).block from F,ea];rfl
 ·have G:lo+i<l.length:=by rw[A]at D;omega
  have:=he (lo+i) G;rw[yZ,w9];have e2:Rp.el e.w ((ds.drop (lo*e.w)).take ((hi-lo)*e.w)) i=Rp.el e.w ds (lo+i):=by
   show(((ds.drop (lo*e.w)).take ((hi-lo)*e.w)).drop (i*e.w)).take e.w=(ds.drop ((lo+i)*e.w)).take e.w;have hm:i*e.w+e.w≤(hi-lo)*e.w:=by rw[←CQ];exact ic _ (by rw[A]at D;exact D)
   rw[List.drop_take,Hn,List.take_take,uj ae,←ef]
  rw[e2];exact this
def S (l:List UInt8):Value:=.string ⟨⟨l⟩⟩
theorem S_lit (l:List UInt8):Value.string ⟨l.toArray⟩=S l:=rfl
theorem Xf:Value.string ⟨#[]⟩=S []:=rfl
theorem one_S (l:List UInt8):aQ (S l)=true:=rfl
theorem NH (a b:List UInt8):ak .s .eql (S a) (S b)=some (.bool (decide (a=b))):=by
 show some (Value.bool ((ByteArray.mk (Array.mk a)).toList==(ByteArray.mk (Array.mk b)).toList))=_;rw[KP,KP]
 congr 2
 by_cases h:a=b
 ·subst h;simp
 ·rw[cB h];simpa using h
theorem NG (a b:List UInt8):ak .s .neq (S a) (S b)=some (.bool (!decide (a=b))):=by
 show some (Value.bool (!((ByteArray.mk (Array.mk a)).toList==(ByteArray.mk (Array.mk b)).toList)))=_;rw[KP,KP]
 congr 3
 by_cases h:a=b
 ·subst h;simp
 ·rw[cB h];simpa using h
theorem lenS (l:List UInt8):IR (S l)=some (af l.length):=rfl
namespace Rp
def bs:Rp (List UInt8) where
 w:=1
 R:=λ_ _ cs n=>cs=[S n]
 len:=by rintro _ _ _ _ rfl;rfl
 one:=by rintro _ _ _ _ rfl;simp[one_S]
 fr:=λH _ _=>H
 mono:=λH _=>H
end Rp
attribute [go_sem] S_lit NH NG lenS
end Go.Crisp
namespace Go.Proofs.YtjljhnandbbldaaGreatDoor
open Go Go.Crisp
attribute [local irreducible] ag df aW stK aF vK qK bJ gK eK aZ mkK di Fi
open _root_.Go.Proofs.Tryz
def NJ (b:Int):List UInt8:=if b=0 then[99,108,97,109,112]else if b=1 then[109,105,114,114,111,114]else if b=2 then[119,114,97,112]else[]
def TN (b:Int):List UInt8:=if b=0 then[98,111,120]else if b=1 then[99,117,98,105,99]else if b=2 then[108,97,110,99,122,111,115]else[]
theorem Ie {h:ah}(G:eB h){b:Int}:
  ag prog ri #[af b] h λr h'=>r=S (NJ b)∧h'=h:=by
 apply Mv;unfold Bo;obtain⟨v,D,H⟩:=G.names;obtain⟨a,cap,rfl⟩:=H.isSl;simp only[go_sem,D];refine ao (λh1=>?_) (λh1=>?_)
 ·refine⟨?_,trivial⟩;unfold NJ;rw[az ae,az ae,az ae]
 ·obtain⟨n,rfl⟩:∃n:Nat,b=(n:Int):=⟨b.toNat,ae⟩
  obtain⟨p,F,A⟩:=H.at1 (k:=.i64) (i:=n) ae;simp only[go_sem,F,A];refine⟨?_,trivial⟩;have I:n<3:=ae;have key:∀(i:Nat) (hi:i< [Value.string (jW 0),Value.string (jW 1),Value.string (jW 2)].length),[Value.string (jW 0),Value.string (jW 1),Value.string (jW 2)][i]=S (NJ (i:Int)):=λi hi=>by
   match i,hi with
   |0,_=>rfl
   |1,_=>rfl
   |2,_=>rfl
  exact key n _
theorem PM {h:ah}(G:eB h){b:Int}:
  ag prog zQ #[af b] h λr h'=>r=S (TN b)∧h'=h:=by
 apply Ti;unfold Jv;simp only[go_sem];refine ao (λh1=>?_) (λh1=>?_)
 ·refine⟨?_,trivial⟩;unfold TN;rw[az ae,az ae,az ae]
 ·obtain⟨n,rfl⟩:∃n:Nat,b=(n:Int):=⟨b.toNat,ae⟩
  have D:n<3:=ae;have A:=(G.kinds n D).1;have e:MV 3 2 (.pointer (some ⟨fH,0,none⟩)) (af (n:Int))=some (.pointer (some ⟨fH,2*n,none⟩)):=by
   show(if 0≤(n:Int)∧(n:Int)<((3:Nat):Int)then some (Value.pointer (some ((⟨fH,0,none⟩:Addr).add ((n:Int).toNat*2))))else none)=_;rw[aA ae,mG,eT,aK,eO]
  simp only[go_sem,e,iE,A];refine⟨?_,trivial⟩
  clear h1 A e
  match n,D with
  |0,_=>rfl
  |1,_=>rfl
  |2,_=>rfl
end Go.Proofs.YtjljhnandbbldaaGreatDoor
namespace Go.Proofs.YtjljhnandbbldaaGreatDoor
open Go Go.Crisp
attribute [local irreducible] ag df aW stK aF vK qK bJ gK eK aZ mkK di Fi GM CF bsK
open _root_.Go.Proofs.Tryz
theorem ZO {h:ah}{f n m i:Int}:ag prog Jl #[af f,af n,af m,af i] h λr h'=>r=.bool (decide (vY f n m i))∧h'=h:=by
 apply UT;unfold Lq
 try simp only[go_sem]
 refine⟨?_,trivial⟩
 congr 1
 rw[gE];unfold vY;omega
theorem Z4 {h:ah}{a b:Int}(G: -9223372036854775807≤a∧a≤9223372036854775807)(D:0<b)(A:I64 b):ag prog zO #[af a,af b] h λr h'=>r=af (Ng a b)∧h'=h:=by
 apply Th;unfold Ju
 try simp only[go_sem]
 rw[w64 ae ae,RA];have hi:I64 (-a):=by unfold I64;omega
 refine(Lc hi A).mono λH h1 ⟨F,w1⟩=>?_
 subst F w1
 try simp only[go_sem]
 rw[qA hi D];have:=rZ (a:= -a) (b:=b) (L:=9223372036854775807) (U:=9223372036854775807) ae ae ae ae ae;rw[w64 ae ae,RA];exact⟨rfl,trivial⟩
theorem UJ {h:ah}(G:eB h){f:Int}(f0:0≤f)(f1:f<3):∃p,MV 3 2 (.pointer (some ⟨fH,0,none⟩)) (af f)=some (.pointer (some ⟨fH,p,none⟩))∧aG h ⟨fH,p+1,none⟩=some (af (cU f)):=by
 obtain⟨n,rfl⟩:∃n:Nat,f=(n:Int):=⟨f.toNat,ae⟩
 have A:n<3:=ae;refine⟨2*n,?_,?_⟩
 ·show(if 0≤(n:Int)∧(n:Int)<((3:Nat):Int)then some (Value.pointer (some ((⟨fH,0,none⟩:Addr).add ((n:Int).toNat*2))))else none)=_;rw[aA ae,mG,eT,aK,eO]
 ·rw[(G.kinds n A).2]
  match n,A with
  |0,_=>rfl
  |1,_=>rfl
  |2,_=>rfl
def zcc (f n m i:Int):Value:=if vY f n m i then .tuple #[.int .i64 (qk f n m i),.int .i64 (nA f n m i-qk f n m i)]else .tuple #[.int .i64 0,.int .i64 0]
theorem Z6 {h:ah}(G:eB h){f n m i:Int}:ag prog zP #[af f,af n,af m,af i] h λr h'=>r=zcc f n m i∧h'=h:=by
 apply Oz;unfold DR zcc;refine ZO.mono λI h1 ⟨A,w1⟩=>?_
 subst A w1
 try simp only[go_sem]
 refine ao (λh0=>?_) (λh0=>?_)
 ·rw[az h0];exact⟨rfl,trivial⟩
 have H:vY f n m i:=co h0;rw[aA H];have U:=MG H;have hb:=UZ H;obtain⟨b1,b2,b3,b4,b5⟩:=hb;obtain⟨f0,f1,n0,n1,m0,m1,i0,i1⟩:=H;have F:I64 m:=by unfold I64;omega
 rw[w64 (n:=i*n) ae ae];refine(Lc (by unfold I64;omega) F).mono λI h1 ⟨A,w1⟩=>?_
 subst A w1;rw[qA (by unfold I64;omega) ae]
 try simp only[go_sem]
 rw[w64 (n:=i+1) ae ae,w64 (n:=(i+1)*n) ae ae];refine(Z4 ae ae F).mono λI h1 ⟨A,w1⟩=>?_
 subst A w1
 try simp only[go_sem]
 unfold qk nA at U ⊢;refine ao (λD=>?_) (λD=>?_)
 ·have D:f≠0:=D;rw[az D,az D]at*;obtain⟨p,W,L⟩:=UJ G f0 f1;simp only[go_sem,W,L];have hr:0≤cU f∧cU f≤3:=by unfold cU;split;omega;split<;>omega
  rw[w64 (n:=2*i) ae ae,w64 (n:=2*i+1) ae ae,w64 (n:=(2*i+1)*n) ae ae,w64 (n:=(2*i+1)*n-m) ae ae,w64 (n:=cU f*2) ae ae,
   w64 (n:=cU f*2*max n m) ae ae,w64 (n:=(2*i+1)*n-m-cU f*2*max n m) ae ae,w64 (n:=2*m) ae ae]
  refine(Lc (by unfold I64;omega) (by unfold I64;omega)).mono λI h1 ⟨A,w1⟩=>?_
  subst A w1;rw[qA (by unfold I64;omega) ae]
  try simp only[go_sem]
  rw[w64 (n:=((2*i+1)*n-m-cU f*2*max n m)/(2*m)+1) ae ae,w64 (n:=(2*i+1)*n-m+cU f*2*max n m) ae ae];refine(Z4 ae ae (by unfold I64;omega)).mono λI h1 ⟨A,w1⟩=>?_
  subst A w1
  try simp only[go_sem]
  rw[w64 ae ae];exact⟨rfl,trivial⟩
 ·have D:f=0:=co D;rw[aA D,aA D]at*;rw[w64 ae ae];exact⟨rfl,trivial⟩
theorem VC {h:ah}{p q:Int}(H: -4611686018427387904≤p∧p≤4611686018427387904)(hq:I64 q):ag prog vP #[af p,af q] h λr h'=>r=af (HE p q)∧h'=h:=by
 apply Tj;unfold Jw
 try simp only[go_sem]
 unfold HE;have D:(((q<1∨262144<q)∨IntKind.i64.wrap (2*q)≤p)∨p≤IntKind.i64.wrap (-2*q))↔(q<1∨262144<q∨2*q≤p∨p≤ -2*q):=by
  unfold I64 at hq;by_cases hc:q<1∨262144<q
  ·omega
  ·rw[w64 (n:=2*q) ae ae,w64 (n:= -2*q) ae ae];omega
 refine ao (λh0=>?_) (λh0=>?_)
 ·rw[aA (D.1 h0)];exact⟨rfl,trivial⟩
 rw[az λhh=>h0 (D.2 hh)];have G:IntKind.i64.wrap (0-p)= -p:=by rw[w64 ae ae];omega
 rw[G];generalize max p (-p)=a;simp only[yG,El,uJ,pX,yF,Ek];have F:2*q*q*q=2*(q*q*q):=by grind
 rw[F];unfold Vl;refine ao (λh1=>?_) (λh1=>?_)
 ·rw[aA h1];have A:(0-a)*a*a+5*a*a*q-8*a*q*q+4*q*q*q=4*(q*q*q)+5*(a*a*q)-a*a*a-8*(a*q*q):=by grind
  rw[A];exact oH (ka _) (by unfold I64;omega) (ka _)
 ·rw[az h1];have A:3*a*a*a-5*a*a*q+2*(q*q*q)=3*(a*a*a)-5*(a*a*q)+2*(q*q*q):=by grind
  rw[A];exact oH (ka _) (by unfold I64;omega) (ka _)
theorem zbj {h:ah}{f n m i j:Int}(G:vY f n m i)(hj: -1048576*65536≤j∧j≤1048576*65536):ag prog Cr #[af f,af n,af m,af i,af j] h λr h'=>r=af (yK f n m i j)∧h'=h:=by
 apply QN;unfold FY
 try simp only[go_sem]
 have L:=UZ G;obtain⟨W,b2,b3,b4,b5⟩:=L;obtain⟨f0,f1,n0,n1,m0,m1,i0,i1⟩:=G;unfold yK;have U:=KD (a:=j) (A:=1048576*65536) (b:=m) (B:=65536) ae ae ae ae;have I:(j+1)*m=j*m+m:=by rw[jw,kp]
 have H:2*m*j=2*(j*m):=by rw[oB,fQ m j]
 refine ao (λF=>?_) (λF=>?_)
 ·rw[aA F];rw[w64 (n:=i+1) ae ae,w64 (n:=(i+1)*n) ae ae,w64 (n:=j+1) ae ae,w64 (n:=(j+1)*m) ae ae,w64 (n:=i*n) ae ae,w64 (n:=j*m) ae ae,w64 ae ae];exact oH (by unfold I64;omega) (by unfold I64;omega) (by unfold I64;omega)
 rw[az F,w64 (n:=2*m) ae ae,w64 (n:=2*m*j) ae ae,w64 (n:=2*i) ae ae,w64 (n:=2*i+1) ae ae,w64 (n:=(2*i+1)*n) ae ae,
  w64 (n:=2*m*j-(2*i+1)*n) ae ae,w64 (n:=2*m*j-(2*i+1)*n+m) ae ae,w64 (n:=2*max n m) ae ae]
 refine ao (λD=>?_) (λD=>?_)
 ·rw[aA D];exact VC ae (by unfold I64;omega)
 ·rw[az D];exact Yn (by unfold I64;omega) (by unfold I64;omega)
def ft (f n m i:Int):Int:=if vY f n m i then qk f n m i else 0
def dr (f n m i:Int):List Int:=if vY f n m i then Er f n m i else[]
theorem nJ {β:Type}(g:Nat→β)(n k:Nat)(h:k<n):((List.range n).map g).take (k+1)=((List.range n).map g).take k++[g k]:=by
 rw[ju (by simpa using h)];simp
theorem T0 {h:ah}(G:eB h){f n m i:Int}:ag prog Db #[af f,af n,af m,af i] h λr h'=>
  ∃v,r=.tuple #[af (ft f n m i),v]∧New (Rp.int .i64) h h' v (dr f n m i):=by
 apply UU;unfold Lr;refine(Z6 G).mono λv1 h1 ⟨W,w1⟩=>?_
 subst W w1;unfold ft dr zcc;by_cases A:vY f n m i
 ·rw[aA A,aA A,aA A]
  try simp only[go_sem]
  have U:=MG A;obtain⟨N,hN⟩:∃N,N=(nA f n m i-qk f n m i).toNat:=⟨_,rfl⟩
  refine bH N 0 (λk v=>[v,af (k:Int)]) (λk v h'=>New (Rp.int .i64) h1 h' v ((Er f n m i).take k)) (.slice none 0 0) rfl (bZ _) (New.nil (Ext.refl _)) λk v h2 again ρj _ L F H=>?_
  try simp only[go_sem]
  have hl:(Er f n m i).length=N:=by unfold Er;rw[cV,fg,hN]
  refine ao (λh0=>?_) (λh0=>?_)
  ·rw[w64 (n:=qk f n m i+(k:Int)) ae ae];refine(zbj A ae).mono λv2 h3 ⟨e2,w2⟩=>?_
   subst e2 w2;have D:((Er f n m i).take k).length=k:=by rw[c5];omega
   refine F.push_int rfl (by rw[D];omega) (by rw[D];omega) λs' h' I=>?_
   try simp only[go_sem]
   rw[w64 ae ae];have:=H s' h' ae (by
    have e:=nJ (λk:Nat=>yK f n m i (qk f n m i+k)) (nA f n m i-qk f n m i).toNat k ae;unfold Er at I ⊢;rw[e];exact I)
   exact this
  ·rw[eS ae]at F;exact⟨v,rfl,F⟩
 ·rw[az A,az A,az A]
  try simp only[go_sem]
  refine lG (λk=>[.slice none 0 0,af (k:Int)]) 0 0 rfl (bU _) λk again ρj _ L _=>?_
  have:k=0:=ae;subst this
  try simp only[go_sem]
  refine ao (λh0=>absurd h0 ae) (λh0=>?_);exact⟨_,rfl,New.nil (Ext.refl _)⟩
end Go.Proofs.YtjljhnandbbldaaGreatDoor
namespace Go.Crisp
def dt (r:Nat→Int)(i j:Nat):Prop:=r j<r i∨(r i=r j∧i<j)
instance (r:Nat→Int)(i j:Nat):Decidable (dt r i j):=by unfold dt;exact inferInstance
theorem JJ (r:Nat→Int)(i:Nat):¬dt r i i:=by unfold dt;omega
theorem kV {r:Nat→Int}{i j k:Nat}(h1:dt r i j)(A:dt r j k):dt r i k:=by unfold dt at*;omega
theorem kW (r:Nat→Int){i j:Nat}(h:i≠j):dt r i j∨dt r j i:=by unfold dt;omega
theorem MK {r:Nat→Int}{i j:Nat}(h1:dt r i j):¬dt r j i:=by unfold dt at*;omega
def lS (r:Nat→Int)(n i:Nat):Nat:=(List.range n).countP λj=>decide (dt r j i)
theorem Vo {l:List Nat}{p:Nat→Bool}(h:∀x∈l,p x=true):l.countP p=l.length:=by
 rw[List.countP_eq_length];exact h
theorem TT {l:List Nat}{p:Nat→Bool}(h:∀x∈l,p x=false):l.countP p=0:=by
 rw[List.countP_eq_zero];intro x A;rw[h x A];simp
theorem JB {r:Nat→Int}{n:Nat}{l:List Nat}(H:l.Perm (List.range n))(D:l.Pairwise (dt r)){k:Nat}(F:k<l.length):lS r n l[k]=k:=by
 unfold lS;rw[←H.countP_eq];have A:∀(x:Nat),x=l[k]→((l.take k).countP λj=>decide (dt r j x))+((l.drop k).countP λj=>decide (dt r j x))=k:=by
  rintro x rfl;have h1:((l.take k).countP λj=>decide (dt r j l[k]))=(l.take k).length:=Vo λx A=>by
   obtain⟨i,hi,rfl⟩:=oC.1 A;rw[yZ];rw[c5]at hi;exact cP (uf.1 D i k ae F ae)
  have G:((l.drop k).countP λj=>decide (dt r j l[k]))=0:=TT λx A=>by
   obtain⟨i,hi,rfl⟩:=oC.1 A;rw[w9];rw[iZ]at hi;rcases w8 i with h0|h0
   ·subst h0;exact cB (JJ _ _)
   ·exact cB (MK (uf.1 D k (k+i) F ae ae))
  rw[h1,G,c5];omega
 have e:∀p:Nat→Bool,l.countP p=(l.take k).countP p+(l.drop k).countP p:=λp=>by rw[←Ry,lW]
 rw[e];exact A _ rfl
theorem Qn {r:Nat→Int}{n i j:Nat}(hi:i<n)(h:dt r i j):lS r n i<lS r n j:=by
 unfold lS;have A:∀l:List Nat,(l.countP λk=>decide (dt r k i))≤l.countP λk=>decide (dt r k j):=λl=>
  List.countP_mono_left λx _ F=>cP (kV (CU F) h)
 obtain⟨a,b,D⟩:=List.append_of_mem (xy.2 hi);rw[D,Ry,Ry,List.countP_cons,List.countP_cons];have h1:=A a;have G:=A b;rw[az (by simpa using JJ r i),aA (cP h)];omega
theorem Gs {r:Nat→Int}{n i j:Nat}(hi:i<n)(D:j<n)(h:lS r n i=lS r n j):i=j:=by
 by_cases A:i=j
 ·exact A
 ·rcases kW r A with h1|h1
  ·have:=Qn hi h1;omega
  ·have:=Qn D h1;omega
theorem RV {r:Nat→Int}{n i j:Nat}(hi:i<n)(A:j<n)(h:lS r n i<lS r n j):dt r i j:=by
 have D:i≠j:=λe=>by rw[e]at h;omega
 rcases kW r D with h1|h1
 ·exact h1
 ·have:=Qn A h1;omega
theorem Xz (r:Nat→Int)(n:Nat):∀k,k<n→∃i,i<n∧lS r n i=k:=by
 let le:Nat→Nat→Bool:=λi j=>decide (dt r i j)||decide (i=j)
 have L:∀a b c:Nat,le a b=true→le b c=true→le a c=true:=λa b c h1 A=>by
  simp only[le,xv,dS]at*;rcases h1 with h1|rfl
  ·rcases A with A|rfl
   ·exact .inl (kV h1 A)
   ·exact .inl h1
  ·exact A
 have D:∀a b:Nat,(le a b||le b a)=true:=λa b=>by
  simp only[le,xv,dS];by_cases I:a=b
  ·exact .inl (.inr I)
  ·rcases kW r I with h|h
   ·exact .inl (.inl h)
   ·exact .inr (.inl h)
 let l:=(List.range n).mergeSort le
 have F:l.Perm (List.range n):=List.mergeSort_perm _ _;have U:l.Pairwise (λa b=>le a b=true):=List.pairwise_mergeSort (le:=le) L D _;have H:l.Nodup:=F.nodup_iff.2 List.nodup_range;have G:l.Pairwise (dt r):=by
  unfold List.Nodup at H;refine(U.and H).imp λ{a b} ⟨h1,A⟩=>?_
  simp only[le,xv,dS]at h1;rcases h1 with h1|h1
  ·exact h1
  ·exact absurd h1 A
 intro k hk;have W:l.length=n:=by rw[F.length_eq];simp
 refine⟨l[k]'ae,?_,JB F G _⟩;have:=F.mem_iff.1 (cQ (l:=l) (n:=k) ae);simpa using this
def jQ (r:Nat→Int)(n k:Nat)(i:Nat):Int:=if lS r n i<k then-1 else r i
theorem S0 (r:Nat→Int)(n:Nat):jQ r n 0=r:=by funext i;unfold jQ;rw[az ae]
theorem Ys {r:Nat→Int}{n k:Nat}(hr:∀i,i<n→0≤r i)(W:k<n){b:Nat}(I:b<n)
  (h1:∀i,i<n→jQ r n k i≤jQ r n k b) (h2:∀i,i<b→jQ r n k i<jQ r n k b):lS r n b=k:=by
 obtain⟨m,G,F⟩:=Xz r n k W;have pm:jQ r n k m=r m:=by unfold jQ;rw[az ae]
 have aa:=hr m G;have A:=h1 m G;rw[pm]at A;have H:jQ r n k b=r b∧¬lS r n b<k:=by
  unfold jQ at A ⊢;split at A
  ·omega
  ·rename_i h;rw[az h];exact⟨rfl,h⟩
 rw[H.1]at A;by_cases L:b=m
 ·rw[L];exact F
 ·have U:lS r n b≠k:=λe=>L (Gs I G (e.trans F.symm))
  have D:dt r m b:=RV G I (by have:=H.2;omega);unfold dt at D;rcases D with D|⟨e,D⟩
  ·omega
  ·have:=h2 m D;rw[pm,H.1]at this;omega
theorem S5 {r:Nat→Int}{n k b:Nat}(D:b<n)(F:lS r n b=k){i:Nat}(hi:i<n):jQ r n (k+1) i=if i=b then-1 else jQ r n k i:=by
 unfold jQ;by_cases A:i=b
 ·subst A;rw[aA ae,aA rfl]
 ·have:lS r n i≠k:=λe=>A (Gs hi D (e.trans F.symm))
  rw[az A];by_cases h:lS r n i<k
  ·rw[aA h,aA ae]
  ·rw[az h,az ae]
end Go.Crisp
namespace Go.Crisp
open Go
def mN (l:List Int):Int:=l.foldl Dq 0
def ni (x:Int):Int:=max x (zaV x (-1))
def mQ (l:List Int):Int:=l.foldl (λs x=>Dq s (ni x)) 0
theorem FG {x:Int}(h:I64 x):ni x=min (x.natAbs:Int) 9223372036854775807:=by
 unfold ni zaV jK kI;unfold I64 at h;have e:(-1:Int).natAbs=1:=rfl;rw[e,lX];have D:decide ((-1:Int)<0)=true:=rfl;rw[D];by_cases A:x<0
 ·rw[cP A];have:(!(true==true))=false:=rfl;rw[this];simp only[gF,cF];split<;>omega
 ·rw[cB A];have:(!(false==true))=true:=rfl;rw[this];simp only[cJ];split<;>omega
theorem qy {f:Int→Int→Int}(A:∀a b,I64 (f a b)):∀(l:List Int) (s:Int),I64 s→I64 (l.foldl f s)
 | [],s,h=>h
 |x::l,s,_=>qy A l _ (A _ _)
theorem yD:I64 0:=by unfold I64;omega
theorem SA (l:List Int):I64 (mN l):=qy yB l 0 yD
theorem Lm (l:List Int):I64 (mQ l):=qy (λa b=>yB a (ni b)) l 0 yD
theorem Pa {x:Int}(h:I64 x):I64 (ni x):=by rw[FG h];unfold I64;omega
def Fs (l:List Int):Prop:=l.length=0∨1048576<l.length∨∃x∈l,1099511627776<ni x
instance (l:List Int):Decidable (Fs l):=by unfold Fs;infer_instance
def cW (l:List Int):Int:=if Fs l then 7 else if mN l<268435456 then 8 else 0
def gw (l:List Int)(i:Nat):Int:=l.getD i 0*16384/mN l
def dW (l:List Int)(i:Nat):Int:=l.getD i 0*16384%mN l
def vA (l:List Int):Nat→Int
 |0=>16384
 |k+1=>vA l k-gw l k
def yt (l:List Int):Int:=vA l l.length
def mM (l:List Int):List Int:=(List.range l.length).map λi=>gw l i+(if(lS (dW l) l.length i:Int)<yt l then 1 else 0)
def cz (l:List Int):List Int:=if cW l=0 then mM l else[]
structure Ch (l:List Int):Prop where
 pos:0<l.length
 len:l.length≤1048576
 small:∀i, -1099511627776≤l.getD i 0∧l.getD i 0≤1099511627776
 sum:268435456≤mN l
theorem JO {l:List Int}:cW l=0↔ ¬Fs l∧268435456≤mN l:=by
 unfold cW;split
 ·rename_i h;simp[h]
 ·rename_i h;split
  ·rename_i A;simp[h];omega
  ·rename_i A;simp[h];omega
theorem Zf {l:List Int}(D:∀x∈l,I64 x)(h:cW l=0):Ch l:=by
 obtain⟨h1,G⟩:=JO.1 h;unfold Fs at h1;refine⟨ae,ae,λi=>?_,G⟩;by_cases hi:i<l.length
 ·have e:l.getD i 0=l[i]:=by simp[dQ,hi]
  rw[e];have F:=cQ hi;have A:¬1099511627776<ni l[i]:=λA=>h1 (.inr (.inr ⟨_,F,A⟩))
  rw[FG (D _ F)]at A;omega
 ·have e:l.getD i 0=0:=by simp[dQ,Hj hi]
  rw[e];omega
def Kc (l:List Int):Nat→Int
 |0=>0
 |k+1=>Kc l k+l.getD k 0
theorem Qq {l:List Int}(G:Ch l):∀k:Nat, -(k*1099511627776:Int)≤Kc l k∧Kc l k≤k*1099511627776
 |0=>by simp[Kc]
 |k+1=>by
  have:=Qq G k;have A:=G.small k;simp only[Kc];omega
theorem St {l:List Int}(G:Ch l):∀k,k≤l.length→mN (l.take k)=Kc l k
 |0,_=>by simp[mN,Kc]
 |k+1,h=>by
  have A:=St G k ae;have F:=Qq G k;have D:=G.small k;have e:l.getD k 0=l[k]:=by simp[dQ,show k<l.length by omega]
  have:=G.len;unfold mN at*;rw[ju ae,CJ,A];simp only[wY,List.foldl_nil,Kc];unfold Dq;rw[←e];omega
theorem OZ {l:List Int}(G:Ch l):mN l=Kc l l.length:=by
 have:=St G l.length (bU _)
 rwa [eS (bU _)]at this
def Qj (l:List Int):Nat→Int
 |0=>0
 |k+1=>Qj l k+dW l k
theorem LJ {l:List Int}(G:Ch l)(i:Nat):0≤dW l i∧dW l i<mN l:=by
 have:=G.sum;exact⟨ks _ ae,iF _ ae⟩
theorem yA {l:List Int}(G:Ch l)(i:Nat): -67108864≤gw l i∧gw l i≤67108864:=by
 have h1:=G.sum;have A:=G.small i;unfold gw;constructor
 ·rw[ui ae];omega
 ·apply G9;rw[wW ae];omega
theorem MJ {l:List Int}(G:Ch l):∀k:Nat,16384-(k*67108864:Int)≤vA l k∧vA l k≤16384+k*67108864
 |0=>by simp[vA]
 |k+1=>by
  have:=MJ G k;have A:=yA G k;simp only[vA];omega
theorem VV {l:List Int}(G:Ch l):∀k:Nat,0≤Qj l k∧Qj l k+k≤k*mN l
 |0=>by simp[Qj]
 |k+1=>by
  have:=VV G k;have A:=LJ G k;simp only[Qj];rw[show((k+1:Nat):Int)=(k:Int)+1 from rfl,jw,kp];omega
theorem Tx {l:List Int}(G:Ch l):∀k,vA l k*mN l+Kc l k*16384=16384*mN l+Qj l k
 |0=>by simp[vA,Kc,Qj]
 |k+1=>by
  have A:=Tx G k;have hd:mN l*gw l k+dW l k=l.getD k 0*16384:=vw _ _;simp only[vA,Kc,Qj];rw[Rx,jw,fQ (gw l k)];omega
theorem left_bd {l:List Int}(G:Ch l):0≤yt l∧yt l<l.length:=by
 have h:=Tx G l.length;rw[←OZ G]at h;have F:=VV G l.length;have A:=G.sum;have D:=G.pos;have e:yt l*mN l=Qj l l.length:=by unfold yt;omega
 constructor
 ·rcases mU (yt l) 0 with h1|h1
  ·have:yt l*mN l≤(-1)*mN l:=sK ae ae;omega
  ·exact h1
 ·rcases mU (yt l) l.length with h1|h1
  ·exact h1
  ·have:(l.length:Int)*mN l≤yt l*mN l:=sK h1 ae;omega
theorem p8 (l:List Int):(mM l).length=l.length:=by simp[mM]
theorem Xn {l:List Int}(G:Ch l):∀x∈mM l, -67108864≤x∧x≤67108865:=by
 intro x A;unfold mM at A;obtain⟨i,_,rfl⟩:=iG.1 A;have:=yA G i;split<;>omega
theorem D7 {β:Type}(g:Nat→β)(n i:Nat)(x:β)(h:i<n):((List.range n).map g).set i x=(List.range n).map λj=>if j=i then x else g j:=by
 apply qu
 ·simp
 ·intro k h1 D;simp at h1 D;rw[GY];simp;by_cases A:i=k
  ·subst A;simp
  ·rw[az A,az (ie A)]
theorem bM {β:Type}{g f:Nat→β}{n:Nat}(h:∀i,i<n→g i=f i):(List.range n).map g=(List.range n).map f:=by
 apply K6;intro i hi;exact h i (xy.1 hi)
end Go.Crisp
namespace Go.Proofs.YtjljhnandbbldaaGreatDoor
open Go Go.Crisp
attribute [local irreducible] ag df aW stK aF vK qK bJ gK eK aZ mkK di Fi GM CF bsK clK
open _root_.Go.Proofs.Tryz
abbrev SlI (Z:Nat→Prop)(h:ah)(v:Value)(l:List Int):Prop:=Rp.Sl (Rp.int .i64) Z h v l
theorem Cx {f:Int→Int→Int}{l:List Int}{i:Nat}(h:i<l.length)(s:Int):(l.take (i+1)).foldl f s=f ((l.take i).foldl f s) l[i]:=by
 rw[ju h,CJ];rfl
theorem Nh {h:ah}{x:Int}(D:I64 x):ag prog xa #[af x] h λr h'=>r=af (ni x)∧h'=h:=by
 apply Qw;unfold FI;refine(Vz D (by unfold I64;omega)).mono λF h1 ⟨A,w1⟩=>?_
 subst A w1;simp only[go_sem];exact⟨rfl,trivial⟩
theorem PJ {Z:Nat→Prop}{h:ah}{v:Value}{l:List Int}(H:SlI Z h v l)(F:∀x∈l,I64 x)(W:l.length<4611686018427387904):ag prog zH #[v] h λr h'=>r=af (mN l)∧h'=h:=by
 apply Tc;unfold Jp;obtain⟨a,cap,e⟩:=H.isSl;have U:aD v=some (af (l.length:Int)):=by rw[e];rfl
 rw[U,aj];refine lG (λi=>[af ((l.take i).foldl Dq 0),af (i:Int)]) l.length 0 rfl (bZ _) λi again ρj _ hi D=>?_
 simp only[go_sem];refine ao (λh0=>?_) (λh0=>?_)
 ·have A:i<l.length:=ae;obtain⟨p,L,I⟩:=H.int_at (k':=.i64) A;simp only[go_sem,L,I];refine(Nv (qy yB _ _ yD) (F _ (cQ _))).mono λv1 h1 ⟨G,w1⟩=>?_
  subst G w1;rw[w64 ae ae];have:=D A;rw[Cx A]at this;exact this
 ·rw[eS ae];exact⟨rfl,trivial⟩
theorem JR {Z:Nat→Prop}{h:ah}{v:Value}{l:List Int}(H:SlI Z h v l)(G:∀x∈l,I64 x)(hl:l.length<4611686018427387904):ag prog xb #[v] h λr h'=>r=af (mQ l)∧h'=h:=by
 apply Qy;unfold FK;obtain⟨a,cap,e⟩:=H.isSl;have e2:aD v=some (af (l.length:Int)):=by rw[e];rfl
 rw[e2,aj];refine lG (λi=>[af ((l.take i).foldl (λs x=>Dq s (ni x)) 0),af (i:Int)]) l.length 0 rfl (bZ _) λi again ρj _ hi D=>?_
 simp only[go_sem];refine ao (λh0=>?_) (λh0=>?_)
 ·have A:i<l.length:=ae;obtain⟨p,W,U⟩:=H.int_at (k':=.i64) A;simp only[go_sem,W,U];have I:=G _ (cQ A);refine(Nh I).mono λL h1 ⟨F,w1⟩=>?_
  subst F w1;refine(Nv (qy (λa b=>yB a (ni b)) _ _ yD) (Pa I)).mono λL h1 ⟨F,w1⟩=>?_
  subst F w1
  try simp only[go_sem]
  rw[w64 ae ae];have:=D A;rw[Cx A]at this;exact this
 ·rw[eS ae];exact⟨rfl,trivial⟩
theorem ZZ {h:ah}{x:Int}(D:I64 x):ag prog mI #[af x] h λr h'=>r=.bool (decide (1099511627776<ni x))∧h'=h:=by
 apply IB;unfold xW;refine(Nh D).mono λF h1 ⟨A,w1⟩=>?_
 subst A w1;simp only[go_sem];exact⟨by simp,by simp⟩
section
attribute [local semireducible] clK
theorem clK_0 {f:FuncId}{a:Value}{h:ah}{K:Value→ah→Prop}:clK prog (.func (.func f) #[] #[]) #[a] h K=ag prog f #[a] h K:=rfl
theorem clK_2 {f:FuncId}{a b c:Value}{h:ah}{K:Value→ah→Prop}:clK prog (.func (.func f) #[] #[c]) #[a,b] h K=ag prog f #[a,b,c] h K:=rfl
end
theorem Sa {Z:Nat→Prop}{h:ah}{v:Value}{l:List Int}(H:SlI Z h v l)(I:∀x∈l,I64 x)(hl:l.length<4611686018427387904):
  ag prog dT #[v,.func (.func mI) #[] #[]] h λr h'=>r=.bool (decide (∃x∈l,1099511627776<ni x))∧h'=h:=by
 apply lE;unfold gu;refine ag.mono (K:=λr h'=>(∃n:Int,r=af n∧(0≤n↔ ∃x∈l,1099511627776<ni x))∧h'=h) ?_ ?_
 ·apply mS;unfold hG;obtain⟨a,cap,e⟩:=H.isSl;have e2:aD v=some (af (l.length:Int)):=by rw[e];rfl
  rw[e2,aj];refine bH l.length 0 (λi (_:Unit)=>[af (i:Int)]) (λi _ h'=>h'=h∧∀x∈l.take i,¬1099511627776<ni x) () rfl (bZ _) ⟨rfl,by simp⟩ λi _ h1 again ρj _ hi ⟨hh,L⟩ G=>?_
  subst hh;simp only[go_sem];refine ao (λh0=>?_) (λh0=>?_)
  ·have A:i<l.length:=ae;obtain⟨p,e3,W⟩:=H.int_at (k':=.i64) A;simp only[go_sem,e3,W];rw[clK_0];refine(ZZ (I _ (cQ A))).mono λv1 h2 ⟨U,w1⟩=>?_
   subst U w1;refine ao (λF=>?_) (λF=>?_)
   ·exact⟨⟨i,rfl,λ_=>⟨_,cQ A,F⟩,λ_=>ae⟩,rfl⟩
   ·rw[w64 ae ae];refine G () _ A ⟨rfl,λx D=>?_⟩;rw[ju A]at D;rcases gS.1 D with D|D
    ·exact L x D
    ·rw[ib.1 D];exact F
  ·rw[eS ae]at L;exact⟨⟨-1,rfl,λh=>ae,λ⟨x,D,F⟩=>absurd F (L x D)⟩,by first|rfl|trivial⟩
 ·rintro r h' ⟨⟨n,rfl,hn⟩,rfl⟩;simp only[go_sem];refine⟨?_,trivial⟩
  congr 1
  rw[gE];exact hn
theorem TX {Z:Nat→Prop}{h:ah}{v:Value}{l:List Int}(H:SlI Z h v l)(F:∀x∈l,I64 x)(W:l.length<4611686018427387904):ag prog zG #[v] h λr h'=>r=af (cW l)∧h'=h:=by
 apply Oa;unfold Dx;obtain⟨a,cap,e⟩:=H.isSl;have e2:aD v=some (af (l.length:Int)):=by rw[e];rfl
 simp only[go_sem,e2];unfold cW;refine gK_f (λA=>?_) (λA=>?_)
 ·have A:=of_decide_eq_false A;have e3:decide ((l.length:Int)=0∨1048576<(l.length:Int))=false:=cB A;simp only[go_sem,e3];refine(Sa H F W).mono λv1 h1 ⟨U,w1⟩=>?_
  subst U w1;simp only[go_sem];refine ao (λh0=>?_) (λh0=>?_)
  ·have G:Fs l:=.inr (.inr h0);rw[aA G];exact⟨by simp,by simp⟩
  ·have G:¬Fs l:=by unfold Fs;rintro(D|D|D);omega;omega;exact h0 D
   rw[az G];refine(PJ H F W).mono λv1 h1 ⟨U,w1⟩=>?_
   subst U w1;simp only[go_sem];refine ao (λL=>?_) (λL=>?_)
   ·rw[aA L];exact⟨by simp,by simp⟩
   ·rw[az L];exact⟨by simp,by simp⟩
 ·have I:=CU A;have G:Fs l:=by unfold Fs;rcases I with D|D;exact .inl ae;exact .inr (.inl ae)
  simp only[go_sem,A];rw[aA G];exact⟨by simp,by simp⟩
def jM (l:List Int):Prop:=l.length%2=0∨1024<l.length∨mQ l<1∨1048576<mQ l
instance (l:List Int):Decidable (jM l):=by unfold jM;infer_instance
def AK (l:List Int):Int:=if jM l then 7 else 0
def rk (l:List Int):List Int:=if jM l then[]else l.map λx=>cS x 1073741824 (mQ l)
theorem Ed {α β:Type}(g:α→β)(l:List α){k:Nat}(h:k<l.length):(l.map g).take (k+1)=(l.map g).take k++[g l[k]]:=by
 rw[ju (by simpa using h)];simp
theorem Fl {Z:Nat→Prop}{h:ah}{v:Value}{l:List Int}(H:SlI Z h v l)(F:∀x∈l,I64 x)(W:l.length<4611686018427387904):
  ag prog sA #[v] h λr h'=>∃u,r=.tuple #[u,af (AK l)]∧New (Rp.int .i64) h h' u (rk l):=by
 apply Qx;unfold FJ;refine(JR H F W).mono λv1 h1 ⟨e1,w1⟩=>?_
 subst e1 w1;obtain⟨a,cap,e⟩:=H.isSl;have U:aD v=some (af (l.length:Int)):=by rw[e];rfl
 simp only[go_sem,U];rw[dP _ _ _ _ ae,aj,jT ae];simp only[go_sem,U];unfold AK rk;have hs:=Lm l;refine ao (λh0=>?_) (λh0=>?_)
 ·have:jM l:=by unfold jM;omega
  rw[aA this,aA this];exact⟨_,rfl,New.nil (Ext.refl _)⟩
 ·have L:¬jM l:=by unfold jM;omega
  rw[az L,az L];refine bH l.length 0 (λk u=>[u,af (k:Int)]) (λk u h'=>New (Rp.int .i64) h1 h' u ((l.map λx=>cS x 1073741824 (mQ l)).take k)) (.slice none 0 0) rfl (bZ _) (New.nil (Ext.refl _)) λk u h2 again ρj _ hk G I=>?_
  simp only[go_sem];refine ao (λh0=>?_) (λh0=>?_)
  ·have D:k<l.length:=ae;obtain⟨p,e3,e4⟩:=(H.ext G.2.1).int_at (k':=.i64) D;simp only[go_sem,e3,e4];refine(oH (F _ (cQ _)) (by unfold I64;omega) hs).mono λv2 h3 ⟨e5,w5⟩=>?_
   subst e5 w5;have A:((l.map λx=>cS x 1073741824 (mQ l)).take k).length=k:=by rw[c5,cV];omega
   unfold jM at L;refine G.push_int rfl (by rw[A];omega) (by rw[A];omega) λs' h' H'=>?_
   try rw[du,aj]
   rw[w64 ae ae];have:=I s' h' D (by rw[Ed _ _ D];exact H');exact this
  ·rw[eS (by rw[cV];omega)]at G;exact⟨u,rfl,G⟩
theorem Im (l:List Int):∀x∈rk l,I64 x:=by
 unfold rk;split
 ·simp
 ·intro x A;obtain⟨y,_,rfl⟩:=iG.1 A;exact gk _ _ _
def mo (s:Int):Prop:=s<1∨4194304<s
instance (s:Int):Decidable (mo s):=by unfold mo;infer_instance
def gJ (s:Int):Int:=(3*s+65535)/65536
def Fe (s:Int):Int:=if mo s then 7 else 0
def oF (s:Int):List Int:=if mo s then[]else(List.range (2*gJ s+1).toNat).map λk:Nat=>BQ ((k:Int)-gJ s) s
theorem M5 (s:Int):∀x∈oF s,I64 x:=by
 unfold oF;split
 ·simp
 ·intro x A;obtain⟨y,_,rfl⟩:=iG.1 A;exact Vc _ _
theorem Ny {h:ah}{s:Int}(W:I64 s):ag prog mJ #[af s] h λr h'=>∃u,r=.tuple #[u,af (Fe s)]∧New (Rp.int .i64) h h' u (oF s):=by
 apply IC;unfold xX;simp only[go_sem];unfold Fe oF;refine ao (λh0=>?_) (λh0=>?_)
 ·have:mo s:=h0;rw[aA this,aA this];exact⟨_,rfl,New.nil (Ext.refl _)⟩
 ·have I:¬mo s:=h0;rw[az I,az I];rw[w64 (n:=3*s) ae ae,w64 (n:=3*s+65536) ae ae,w64 (n:=3*s+65536-1) ae ae];have L:ak .i .shr (af (3*s+65536-1)) (.int .u64 16)=some (af (gJ s)):=by
   show(if(16:Int)<0 then none else some (af ((3*s+65536-1).fdiv (2^(min (16:Int).toNat 64)))))=_;rw[az ae,RE _ (by decide)];unfold gJ
   congr 2
   rw[show 3*s+65536-1=3*s+65535 by omega];rfl
  rw[L,aj];have hr:0≤gJ s∧gJ s≤193:=by unfold gJ;omega
  generalize gJ s=q at*;simp only[go_sem];rw[w64 (n:=0-q) ae ae];obtain⟨N,hN⟩:∃N,N=(2*q+1).toNat:=⟨_,rfl⟩
  rw[←hN];refine bH N 0 (λk u=>[u,af ((k:Int)-q)]) (λk u h'=>New (Rp.int .i64) h h' u (((List.range N).map λk:Nat=>BQ ((k:Int)-q) s).take k)) (.slice none 0 0) rfl (bZ _) (New.nil (Ext.refl _)) λk u h2 again ρj _ hk G F=>?_
  simp only[go_sem];refine ao (λH=>?_) (λH=>?_)
  ·have D:k<N:=ae;refine(zbK (by unfold I64;omega) W).mono λv2 H ⟨e5,w5⟩=>?_
   subst e5 w5;have A:(((List.range N).map λk:Nat=>BQ ((k:Int)-q) s).take k).length=k:=by rw[c5,cV,fg];omega
   refine G.push_int rfl (by rw[A];omega) (by rw[A];omega) λs' h' U=>?_
   try rw[du,aj]
   rw[w64 ae ae];have:=F s' h' D (by rw[nJ _ _ _ D];exact U);rw[show((k+1:Nat):Int)-q=(k:Int)-q+1 by omega]at this;exact this
  ·rw[eS (by rw[cV,fg];omega)]at G;exact⟨u,rfl,G⟩
end Go.Proofs.YtjljhnandbbldaaGreatDoor
namespace Go.Crisp
section
section
variable {α:Type}{lt:α→α→Prop}
theorem Cz (F:∀{a b c},lt a b→lt b c→lt a c){L:List α}(h:L.Pairwise lt){x:α}{i j:Nat}(D:i≤j)(G:j<L.length)(A:lt L[j] x):lt (L[i]'ae) x:=by
 rcases oE i j with h1|h1
 ·exact F (uf.1 h i j ae G h1) A
 ·have:i=j:=ae;subst this;exact A
theorem CB (F:∀{a b c},lt a b→lt b c→lt a c){L:List α}(h:L.Pairwise lt){x:α}{i j:Nat}(D:i≤j)(G:j<L.length)(A:lt x (L[i]'ae)):lt x L[j]:=by
 rcases oE i j with h1|h1
 ·exact F A (uf.1 h i j ae G h1)
 ·have:i=j:=ae;subst this;exact A
theorem cross (A:∀{a b c},lt a b→lt b c→lt a c){L R:List α}(hL:L.Pairwise lt)(G:R.Pairwise lt){i j:Nat}(hi:i≤L.length)(U:j≤R.length)
  (h1:∀(a:0<i) (b:j<R.length),lt (L[i-1]'ae) R[j]) (H:∀(a:0<j) (b:i<L.length),lt (R[j-1]'ae) L[i]):
  ∀x∈L.take i++R.take j,∀y∈L.drop i++R.drop j,lt x y:=by
 intro x D y F;rcases gS.1 D with D|D<;>rcases gS.1 F with F|F<;>
  obtain⟨p,I,rfl⟩:=oC.1 D<;>obtain⟨q,hq,rfl⟩:=oC.1 F<;>
  rw[c5]at I<;>rw[iZ]at hq<;>rw[yZ,w9]
 ·exact uf.1 hL p (i+q) ae ae ae
 ·exact Cz (lt:=lt) A (L:=L) hL (i:=p) (j:=i-1) ae ae (CB (lt:=lt) A (x:=L[i-1]) (L:=R) G (i:=j) (j:=j+q) ae ae (h1 ae ae))
 ·exact Cz (lt:=lt) A (L:=R) G (i:=p) (j:=j-1) ae ae (CB (lt:=lt) A (x:=R[j-1]) (L:=L) hL (i:=i) (j:=i+q) ae ae (H ae ae))
 ·exact uf.1 G p (j+q) ae ae ae
theorem zcq {L R D A:List α}{i j:Nat}(hc:∀x∈L.take i++R.take j,∀y∈L.drop i++R.drop j,lt x y)
  (G:D.Perm (L.take i++R.take j)) (F:A.Perm (L.drop i++R.drop j)) (H:D.Pairwise lt) (I:A.Pairwise lt):(D++A).Perm (L++R)∧(D++A).Pairwise lt:=by
 refine⟨?_,qP.2 ⟨H,I,λx W y U=>hc x (G.mem_iff.1 W) y (F.mem_iff.1 U)⟩⟩;refine(G.append F).trans ?_;have e:(L.take i++R.take j++(L.drop i++R.drop j)).Perm ((L.take i++L.drop i)++(R.take j++R.drop j)):=by
  rw[cf,cf];refine List.Perm.append_left _ ?_;rw[←cf,←cf];exact List.Perm.append_right _ GX
 rwa [lW,lW]at e
end
end
end Go.Crisp
namespace Go.Proofs.YtjljhnandbbldaaGreatDoor
open Go Go.Crisp
attribute [local irreducible] ag df aW stK aF vK qK bJ gK eK aZ mkK di Fi GM CF bsK clK
open _root_.Go.Proofs.Tryz
section
abbrev iv (i:Nat):Value:=.int .i64 (i:Int)
structure JY (v f:Value)(P:ah→Prop)(r:Nat→Int)(n:Nat):Prop where
 call:∀{h:ah} {a b:Nat} {K:Value→ah→Prop},P h→a<n→b<n→(∀c:Int,(c<0↔r b<r a)→K (.int .i64 c) h)→clK prog f #[iv a,iv b] h K
 fr:∀{h h':ah},P h→Fr (blk v) h h'→P h'
structure dX (v:Value)(P:ah→Prop)(n:Nat)(h:ah)(l:List Nat):Prop where
 own:Own 1 h v l.length (l.map iv)
 ok:P h
 small:l.length<4611686018427387904
 below:∀x∈l,x<n
section
variable {v f:Value}{P:ah→Prop}{r:Nat→Int}{n:Nat}
theorem dX.at {h:ah}{l:List Nat}(H:dX v P n h l){i:Nat}(hi:i<l.length):∃p,bu 1 v (iv i)=some p∧ldV h p=some (iv l[i]):=by
 obtain⟨p,h1,A,_⟩:=H.own.at1 (k:=.i64) hi;exact⟨p,h1,by rw[A,eU]⟩
theorem dX.swap (C:JY v f P r n){h:ah}{A B D:List Nat}{x y:Nat}(H:dX v P n h (A++x::(B++y::D))){i j:Nat}(hi:i=A.length)(hj:j=A.length+1+B.length):
  ∃ p q,bu 1 v (iv i)=some p∧bu 1 v (iv j)=some q∧ldV h p=some (iv x)∧ldV h q=some (iv y)∧∀K:Value→ah→Prop,
   (∀h',dX v P n h' (A++y::(B++x::D))→Fr (blk v) h h'→K undef h')→
    (stK 1 p (iv y) h λ_ F=>stK 1 q (iv x) F K)∧(stK 1 q (iv x) h λ_ F=>stK 1 p (iv y) F K):=by
 subst hi hj;have l1:A.length<(A++x::(B++y::D)).length:=by simp
 have l2:A.length+1+B.length<(A++x::(B++y::D)).length:=by simp;omega
 obtain⟨p,h1,F,G⟩:=H.own.at1 (k:=.i64) l1;obtain⟨q,g1,g2,g3⟩:=H.own.at1 (k:=.i64) l2;have e1:(A++x::(B++y::D))[A.length]=x:=by simp
 have e2:(A++x::(B++y::D))[A.length+1+B.length]=y:=by
  apply sQ;rw[←ja,ue ae,show A.length+1+B.length-A.length=B.length+1 by omega,BL,ue ae];simp
 rw[eU,e1]at F;rw[eU,e2]at g2;have fin:∀h',Own 1 h' v (A++x::(B++y::D)).length ((A++y::(B++x::D)).map iv)→Fr (blk v) h h'→dX v P n h' (A++y::(B++x::D)):=λh' o f'=>
  ⟨by rw[show(A++y::(B++x::D)).length=(A++x::(B++y::D)).length by simp];exact o,C.fr H.ok f',by have:=H.small;simpa using this,λz hz=>H.below z (by
   simp only[gS,kq]at hz ⊢;rcases hz with h|h|h|h|h<;>simp[h])⟩
 have s1:((A++x::(B++y::D)).map iv).set A.length (iv y)=(A++y::(B++y::D)).map iv:=by simp
 have s2:((A++y::(B++y::D)).map iv).set (A.length+1+B.length) (iv x)=(A++y::(B++x::D)).map iv:=by
  rw[←KO]
  congr 1
  rw[KN _ _ ae,show A.length+1+B.length-A.length=B.length+1 by omega,List.set_cons_succ,KN _ _ ae];simp
 have s3:((A++x::(B++y::D)).map iv).set (A.length+1+B.length) (iv x)=(A++x::(B++x::D)).map iv:=by
  rw[←KO]
  congr 1
  rw[KN _ _ ae,show A.length+1+B.length-A.length=B.length+1 by omega,List.set_cons_succ,KN _ _ ae];simp
 have s4:((A++x::(B++x::D)).map iv).set A.length (iv y)=(A++y::(B++x::D)).map iv:=by simp
 refine⟨p,q,h1,g1,F,g2,λK HK=>⟨?_,?_⟩⟩
 ·refine G _ _ rfl λF o2 f2 z2=>?_
  rw[s1]at o2;obtain⟨q',L,_,U⟩:=o2.at1 (k:=.i64) l2;rw[g1]at L;cases L;refine U _ _ rfl λG I f3 z3=>?_
  rw[s2]at I;exact HK G (fin G I (f2.trans f3)) (f2.trans f3)
 ·refine g3 _ _ rfl λF o2 f2 z2=>?_
  rw[s3]at o2;obtain⟨p',h1',_,W⟩:=o2.at1 (k:=.i64) l1;rw[h1]at h1';cases h1';refine W _ _ rfl λG I f3 z3=>?_
  rw[s4]at I;exact HK G (fin G I (f2.trans f3)) (f2.trans f3)
theorem ub (a b:Nat)(h:a+b≤9223372036854775807):IntKind.i64.wrap ((a:Int)+(b:Int))=((a+b:Nat):Int):=by rw[w64 ae ae];omega
theorem lF (a b:Nat)(h:b≤a)(A:a≤9223372036854775807):IntKind.i64.wrap ((a:Int)-(b:Int))=((a-b:Nat):Int):=by rw[w64 ae ae];omega
theorem rP (a:Nat)(h:a+1≤9223372036854775807):IntKind.i64.wrap ((a:Int)+1)=((a+1:Nat):Int):=by rw[w64 ae ae];omega
theorem GN (a:Nat)(h:1≤a)(A:a≤9223372036854775807):IntKind.i64.wrap ((a:Int)-1)=((a-1:Nat):Int):=by rw[w64 ae ae];omega
theorem BZ (C:JY v f P r n){h:ah}{A U M V D:List Nat}(H:dX v P n h (A++U++M++V++D)){a b k:Nat}(ha:a=A.length)(hb:b=A.length+U.length+M.length)(hU:U.length=k)(hV:V.length=k):
  ag prog dc #[v,iv a,iv b,iv k,f] h λ_ h'=>dX v P n h' (A++V++M++U++D)∧Fr (blk v) h h':=by
 apply qf;unfold jp;have G:=H.small;simp only[ck]at G;refine bH k 0 (λi (_:Unit)=>[iv i]) (λi _ h'=>dX v P n h' (A++V.take i++(U.drop i++M++U.take i++(V.drop i++D)))∧Fr (blk v) h h') () rfl (bZ _) ⟨by simpa using H,Fr.refl _ _⟩ λi _ h1 again ρj _ hi ⟨F,W⟩ I=>?_
 try simp only[go_sem]
 refine ao (λh0=>?_) (λh0=>?_)
 ·have L:i<k:=ae;have dU:U.drop i=U[i]::U.drop (i+1):=zj ae;have dV:V.drop i=V[i]::V.drop (i+1):=zj ae;have tU:U.take (i+1)=U.take i++[U[i]]:=ju ae;have tV:V.take (i+1)=V.take i++[V[i]]:=ju ae;have H2:dX v P n h1 ((A++V.take i)++U[i]::((U.drop (i+1)++M++U.take i)++V[i]::(V.drop (i+1)++D))):=by
   rw[dU,dV]at F;simpa only[cf,mY,fB]using F
  obtain⟨p,q,e1,e2,e3,e4,st⟩:=H2.swap C (i:=a+i) (j:=b+i) (by rw[ck,c5];omega) (by simp only[ck,c5,iZ];omega);refine aP (λh'=>h'=h1) rfl ?_;rw[ub a i ae,ub b i ae];simp only[go_sem,e1,e2];refine aC (iv V[i]) (λh' e=>by rw[e];exact e4) ?_;refine aC (iv U[i]) (λh' e=>by rw[e];exact e3) ?_;refine(st _ λh3 H3 F3=>?_).1;rw[rP i ae];refine I () h3 L ⟨?_,W.trans F3⟩;rw[tU,tV];simpa only[cf,mY,fB]using H3
 ·have:i=k:=ae;subst this;rw[eS ae,eS ae,qp ae,qp ae]at F;exact⟨by simpa using F,W⟩
theorem ZN (C:JY v f P r n){h:ah}{A U V D:List Nat}(H:dX v P n h (A++U++V++D)){a m b:Nat}(ha:a=A.length)(hm:m=A.length+U.length)(hb:b=A.length+U.length+V.length)(hU:0<U.length)(hV:0<V.length):
  ag prog iq #[v,iv a,iv m,iv b,f] h λ_ h'=>dX v P n h' (A++V++U++D)∧Fr (blk v) h h':=by
 apply tT;unfold kB;have ad:=H.small;simp only[ck]at ad;simp only[ig,aj];rw[lF m a ae ae,lF b m ae ae];refine dw (λd xs h'=>∃(P1 G F L:List Nat),d=G.length+F.length∧xs=[iv G.length,iv F.length]∧0<G.length∧0<F.length∧dX v P n h' (P1++G++F++L)∧Fr (blk v) h h'∧m=P1.length+G.length∧P1++F++G++L=A++V++U++D)
  (U.length+V.length) ⟨A,U,V,D,rfl,by rw[show m-a=U.length by omega,show b-m=V.length by omega],hU,hV,H,Fr.refl _ _,hm,rfl⟩ ?_
 rintro d xs ρj h1 again ⟨P1,G,F,L,rfl,rfl,u0,v0,H1,F1,an,hg⟩ aa;have ab:=H1.small;simp only[ck]at ab;simp only[gX,vC,yz,aj];by_cases al:G.length=F.length
 ·have e:((G.length:Int)=(F.length:Int))=True:=jx ae;simp only[go_sem,e];rw[lF m G.length ae ae];refine(BZ C (A:=P1) (U:=G) (M:=[]) (V:=F) (D:=L) (k:=G.length) (by simpa using H1) ae (by simp;omega) rfl al.symm).mono λw h2 ⟨H2,F2⟩=>?_
  refine⟨?_,F1.trans F2⟩;rw[←hg];simpa using H2
 ·have e:((G.length:Int)=(F.length:Int))=False:=fJ ae;simp only[go_sem,e];refine ao (λh0=>?_) (λh0=>?_)
  ·rw[lF m G.length ae ae];have I:G=G.take F.length++G.drop F.length:=(lW _ _).symm;have W:(G.take F.length).length=F.length:=by rw[c5];omega
   have l2:(G.drop F.length).length=G.length-F.length:=by rw[iZ]
   refine(BZ C (A:=P1) (U:=G.take F.length) (M:=G.drop F.length) (V:=F) (D:=L) (k:=F.length) (by rw[cf P1,←I];exact H1) ae ae W rfl).mono λw h2 ⟨H2,F2⟩=>?_
   try simp only[go_sem]
   rw[lF G.length F.length ae ae];refine aa _ _ (G.length-F.length+F.length) ae ⟨P1++F,G.drop F.length,G.take F.length,L,by rw[W,l2],by rw[W,l2],ae,ae,by simpa using H2,F1.trans F2,by rw[ck];omega,?_⟩;rw[←hg];simp only[cf];rw[←cf (G.take _),←I]
  ·rw[lF m G.length ae ae,ub m F.length ae,lF (m+F.length) G.length ae ae];have I:F=F.take (F.length-G.length)++F.drop (F.length-G.length):=(lW _ _).symm;have W:(F.take (F.length-G.length)).length=F.length-G.length:=by rw[c5];omega
   have l2:(F.drop (F.length-G.length)).length=G.length:=by rw[iZ];omega
   refine(BZ C (A:=P1) (U:=G) (M:=F.take (F.length-G.length)) (V:=F.drop (F.length-G.length)) (D:=L) (k:=G.length) (by
    have e:P1++G++F.take (F.length-G.length)++F.drop (F.length-G.length)++L=P1++G++F++L:=by
     conv=>rhs;rw[I]
     simp only[cf]
    rw[e];exact H1) ae ae rfl l2).mono λw h2 ⟨H2,F2⟩=>?_
   try simp only[go_sem]
   rw[lF F.length G.length ae ae];refine aa _ _ (G.length+(F.length-G.length)) ae ⟨P1,F.drop (F.length-G.length),F.take (F.length-G.length),G++L,by rw[W,l2],by rw[W,l2],ae,ae,by simpa using H2,F1.trans F2,ae,?_⟩;rw[←hg];simp only[cf];rw[←cf (F.take _),←I]
end
end
section
theorem HM {i j:Nat}{K:Value→Prop}(h:i+j<9223372036854775808):(vK (ak .i .add (iv i) (iv j)) λF=>vK (gd .u64 F) λD=>vK (ak .i .shr D (.int .u64 1)) λA=>vK (gd .i64 A) K)=K (iv ((i+j)/2)):=by
 rw[du,aj,ub i j ae,BX,aj,ga ae,show(1:Int)=((1:Nat):Int)from rfl,mB _ ae,aj,BX,aj,w64 ae ae]
section
variable {v f:Value}{P:ah→Prop}{r:Nat→Int}{n:Nat}
theorem rW {x y:Nat}(h:x<y):dt r y x↔r x<r y:=by unfold dt;omega
theorem UL {G D:List Nat}{x:Nat}(A:(G++D).Pairwise (dt r))(h1:∀y∈G,dt r y x)(I:∀y∈D,dt r x y):(G++x::D).Pairwise (dt r):=by
 rw[qP]at A ⊢;refine⟨A.1,Rw.2 ⟨I,A.2.1⟩,λy H z F=>?_⟩;rcases kq.1 F with rfl|F
 ·exact h1 y H
 ·exact A.2.2 y H z F
theorem XR {F:List Nat}{y x:Nat}(D:(F++[y]).Pairwise (dt r))(h:dt r y x):∀z∈F++[y],dt r z x:=by
 rw[qP]at D;intro z A;rcases gS.1 A with A|A
 ·exact kV (D.2.2 z A y (by simp)) h
 ·rw[ib.1 A];exact h
theorem JU (C:JY v f P r n){h:ah}{A M D:List Nat}(H:dX v P n h (A++M++D)){a b:Nat}(ha:a=A.length)(hb:b=A.length+M.length)(ax:M.Pairwise (· < ·)):
  ag prog dm #[v,iv a,iv b,f] h λ_ h'=>∃M':List Nat,M'.Perm M∧M'.Pairwise (dt r)∧dX v P n h' (A++M'++D)∧Fr (blk v) h h':=by
 apply mR;unfold gZ;have au:=H.small;simp only[ck]at au;rw[du,aj,rP a ae];refine bH (M.length-1) 0 (λk (_:Unit)=>[iv (a+1+k)]) (λk _ h'=>∃S:List Nat,S.Perm (M.take (k+1))∧S.Pairwise (dt r)∧dX v P n h' (A++S++M.drop (k+1)++D)∧Fr (blk v) h h') () rfl (bZ _)
  ⟨M.take 1,GW _,?_,by rw[cf A,lW];exact H,Fr.refl _ _⟩ λk _ h1 again ρj _ hk ⟨S,hp,hs,H1,F1⟩ aw=>?_
 ·cases M with
  |nil=>simp
  |cons x M=>simp
 simp only[gX,cq,aj];refine ao (λh0=>?_) (λh0=>?_)
 ·have I:k+1<M.length:=ae;have dM:M.drop (k+1)=M[k+1]::M.drop (k+1+1):=zj I;have tM:M.take (k+1+1)=M.take (k+1)++[M[k+1]]:=ju I;have ay:S.length=k+1:=by rw[hp.length_eq,c5];omega
  have a8:∀y∈S,y<M[k+1]:=λy hy=>by
   have:=hp.mem_iff.1 hy;obtain⟨i,hi,rfl⟩:=oC.1 this;rw[c5]at hi;rw[yZ];exact uf.1 ax i (k+1) ae I ae
  generalize M[k+1]=x at*;refine dw (λd xs h'=>∃F G:List Nat,d=F.length∧xs=[iv (a+F.length)]∧S=F++G∧(∀y∈G,dt r x y)∧dX v P n h' (A++F++x::(G++M.drop (k+1+1)++D))∧Fr (blk v) h h') S.length
   ⟨S,[],rfl,by rw[ay];congr 2;omega,by simp,by simp,by rw[dM]at H1;simpa only[cf,mY,fB]using H1,F1⟩ ?_
  rintro d xs ρj2 W ar ⟨F,G,rfl,rfl,rfl,hx,U,F2⟩ ad;simp only[gX,sr,aj];have ki:(∀y∈F,dt r y x)→dX v P n W (A++F++x::(G++M.drop (k+1+1)++D))→Fr (blk v) h W→again [af (IntKind.i64.wrap (((a+1+k:Nat):Int)+1))] W:=by
   intro g1 g2 g3;rw[rP (a+1+k) ae,show a+1+k+1=a+1+(k+1)by omega];refine aw () W ae ⟨F++x::G,?_,UL hs g1 hx,by simpa only[cf,mY,fB]using g2,g3⟩;rw[tM];exact Rv.trans ((List.Perm.cons _ hp).trans (GX (l₁:=[x])))
  refine aP (λh'=>h'=W) rfl ?_;rcases List.eq_nil_or_concat F with rfl|⟨F,y,rfl⟩
  ·have e:((a:Int)<((a+([]:List Nat).length:Nat):Int))=False:=fJ (by simp);simp only[go_sem,e];refine aC undef (λ_ _=>rfl) ?_;refine aC undef (λ_ _=>rfl) ?_
   try simp only[go_sem]
   exact ki (by simp) U F2
  ·have aa:(F.concat y).length=F.length+1:=by simp
   have ab:y<x:=a8 y (by simp);have an:=U.small;simp only[ck,oD,aa]at an;have H3:dX v P n W ((A++F)++y::([]++x::(G++M.drop (k+1+1)++D))):=by
    simpa only[KM,cf,mY,fB]using U
   obtain⟨p,q,e1,e2,e3,e4,st⟩:=H3.swap C (i:=a+F.length) (j:=a+(F.length+1)) (by rw[ck];omega) (by rw[ck,kr];omega);have e:((a:Int)<((a+(F.length+1):Nat):Int))=True:=jx ae;have es:IntKind.i64.wrap (((a+(F.length+1):Nat):Int)-1)=((a+F.length:Nat):Int):=by rw[GN _ ae ae];congr 1
   simp only[go_sem,e,aa,es,e1,e2];refine aC (iv x) (λh' e=>by rw[e];exact e4) ?_;refine aC (iv y) (λh' e=>by rw[e];exact e3) ?_;refine C.call U.ok (U.below x (by simp)) (U.below y (by simp)) λc hc=>?_
   simp only[go_sem];have a7:(F++[y]).Pairwise (dt r):=by
    have:=(qP.1 hs).1;simpa only[KM]using this
   refine ao (λL=>?_) (λL=>?_)
   ·refine aP (λh'=>h'=W) rfl ?_
    try simp only[go_sem,e1,e2]
    refine aC (iv y) (λh' e=>by rw[e];exact e3) ?_;refine aC (iv x) (λh' e=>by rw[e];exact e4) ?_;refine(st _ λh3 H4 F3=>?_).2;refine ad _ h3 F.length ae ⟨F,y::G,rfl,rfl,by simp[KM],λz hz=>?_,by simpa only[cf,mY,fB]using H4,F2.trans F3⟩;rcases kq.1 hz with rfl|hz
    ·exact(rW ab).2 (hc.1 L)
    ·exact hx z hz
   ·refine ki ?_ U F2;have hl:dt r y x:=by
     have:¬dt r x y:=λg=>L (hc.2 ((rW ab).1 g))
     exact(kW r (show y≠x by omega)).resolve_right this
    have:=XR a7 hl;simpa only[KM]using this
 ·have al:M.length≤k+1:=ae;refine⟨S,?_,hs,?_,F1⟩
  ·rw[eS al]at hp;exact hp
  ·rw[qp al]at H1;simpa using H1
theorem Nj (C:JY v f P r n):∀(N:Nat) {h:ah} {A L R D:List Nat} (H:dX v P n h (A++L++R++D)) {a m b:Nat} (ha:a=A.length) (hm:m=A.length+L.length) (hb:b=A.length+L.length+R.length)
  (hL:0<L.length) (hR:0<R.length) (sL:L.Pairwise (dt r)) (sR:R.Pairwise (dt r)) (al:∀x∈L,∀y∈R,x<y) (hN:L.length+R.length≤N),
  ag prog bS #[v,iv a,iv m,iv b,f] h λ_ h'=>∃S:List Nat,S.Perm (L++R)∧S.Pairwise (dt r)∧dX v P n h' (A++S++D)∧Fr (blk v) h h':=by
 intro N;induction N with
 |zero=>intro h A L R D H a m b ha hm hb hL hR sL sR al hN;omega
 |succ N ih=>
 intro h A L R D H a m b ha hm hb hL hR sL sR al hN;apply rM;unfold jH;have c4:=H.small;simp only[ck]at c4
 -- elements of the two parts
 have be:∀{h':ah},dX v P n h' (A++L++R++D)→∀k (hk:k<L.length),∃p,bu 1 v (iv (a+k))=some p∧ldV h' p=some (iv L[k])∧L[k]<n:=λH' k hk=>by
  obtain⟨p,W,e2⟩:=H'.at (i:=a+k) (by simp only[ck];omega);have e:(A++L++R++D)[a+k]'(by simp only[ck];omega)=L[k]:=by
   apply sQ;rw[←ja,cf,cf,ue ae,show a+k-A.length=k by omega,uk hk,ja hk]
  exact⟨p,W,by rw[e2,e],H'.below _ (by simp[cQ])⟩
 have ay:∀{h':ah},dX v P n h' (A++L++R++D)→∀k (hk:k<R.length),∃p,bu 1 v (iv (m+k))=some p∧ldV h' p=some (iv R[k])∧R[k]<n:=λH' k hk=>by
  obtain⟨p,W,e2⟩:=H'.at (i:=m+k) (by simp only[ck];omega);have e:(A++L++R++D)[m+k]'(by simp only[ck];omega)=R[k]:=by
   apply sQ;rw[←ja,cf,ue (by simp only[ck];omega),ck,show m+k-(A.length+L.length)=k by omega,uk hk,ja hk]
  exact⟨p,W,by rw[e2,e],H'.below _ (by simp[cQ])⟩
 simp only[ig,mu,aj];rw[lF m a ae ae,lF b m ae ae];refine ao (λh1=>?_) (λh1=>?_)
 ·-- one on the left
  have c7:L.length=1:=ae;obtain⟨x,rfl⟩:=Ru.1 c7;refine dw (λd xs h'=>h'=h∧∃i j:Nat,d=j-i∧xs=[iv (m+i),iv (m+j)]∧i≤j∧j≤R.length∧(∀h0:0<i,∀hi:i-1<R.length,dt r R[i-1] x)∧(∀hj:j<R.length,¬dt r R[j] x)) R.length
   ⟨rfl,0,R.length,rfl,by rw[show b=m+R.length by omega];rfl,ae,bU _,ae,ae⟩ ?_
  rintro d xs ρj h' again ⟨hh,i,j,rfl,rfl,bv,hj,c1,c2⟩ ar;subst hh;simp only[gX,vC,cq,aj];refine ao (λI=>?_) (λI=>?_)
  ·rw[HM ae,show(m+i+(m+j))/2=m+(i+j)/2 by omega];have hk:(i+j)/2<R.length:=ae;obtain⟨p,W,e2,b1⟩:=ay H ((i+j)/2) hk;obtain⟨q,g1,g2,b2⟩:=be H 0 ae;simp only[iE,CS]at g1 g2 b2;refine aP (λI=>I=h') rfl ?_;simp only[W,g1,aj];refine aC _ (λI e=>by rw[e];exact e2) ?_;refine aC _ (λI e=>by rw[e];exact g2) ?_;refine C.call H.ok b1 b2 λc hc=>?_
   have an:x<R[(i+j)/2]:=al x (by simp) _ (cQ _)
   try simp only[go_sem]
   refine ao (λG=>?_) (λG=>?_)
   ·rw[rP _ ae];refine ar _ _ (j-((i+j)/2+1)) ae ⟨rfl,(i+j)/2+1,j,rfl,rfl,ae,hj,λ_ _=>?_,c2⟩;exact(rW an).2 (hc.1 G)
   ·refine ar _ _ ((i+j)/2-i) ae ⟨rfl,i,(i+j)/2,rfl,rfl,ae,ae,c1,λ_ g=>G (hc.2 ((rW an).1 g))⟩
  ·have au:i=j:=ae;subst au
   -- it goes to its place
   refine bH i 0 (λc (_:Unit)=>[iv (a+c)]) (λc _ I=>dX v P n I (A++R.take c++x::(R.drop c++D))∧Fr (blk v) h' I) () rfl (bZ _) ⟨by simpa using H,Fr.refl _ _⟩ λc _ I a7 ρj2 _ hc ⟨H2,F2⟩ ax=>?_
   simp only[gX,ig,cq,aj];rw[GN _ ae ae];have lA:A.length+[x].length=A.length+1:=rfl;refine ao (λG=>?_) (λG=>?_)
   ·have dl:c<i:=ae;have dR:R.drop c=R[c]::R.drop (c+1):=zj ae;have tR:R.take (c+1)=R.take c++[R[c]]:=ju ae;have H3:dX v P n I ((A++R.take c)++x::([]++R[c]::(R.drop (c+1)++D))):=by
     rw[dR]at H2;simpa only[cf,mY,fB]using H2
    obtain⟨p,q,W,e2,e3,e4,st⟩:=H3.swap C (i:=a+c) (j:=a+c+1) (by rw[ck,c5];omega) (by rw[ck,c5,kr];omega);refine aP (λG=>G=I) rfl ?_;rw[du,aj,rP _ ae];simp only[go_sem,W,e2];refine aC _ (λG e=>by rw[e];exact e4) ?_;refine aC _ (λG e=>by rw[e];exact e3) ?_;refine(st _ λG H4 F3=>?_).1
    try rw[rP _ ae]
    refine ax () G dl ⟨?_,F2.trans F3⟩;rw[tR];simpa only[cf,mY,fB]using H4
   ·have:c=i:=ae;subst this;refine⟨R.take c++x::R.drop c,?_,?_,by simpa only[cf,mY,fB]using H2,F2⟩
    ·refine Rv.trans ?_;rw[lW];exact GW _
    ·refine UL (by rw[lW];exact sR) (λy hy=>?_) (λy hy=>?_)
     ·obtain⟨k,hk,rfl⟩:=oC.1 hy;rw[c5]at hk;rw[yZ];exact Cz (lt:=dt r) kV sR (i:=k) (j:=c-1) ae ae (c1 ae ae)
     ·obtain⟨k,hk,rfl⟩:=oC.1 hy;rw[iZ]at hk;rw[w9];have hx:dt r x R[c]:=(kW r (show x≠R[c]by have:=al x (by simp) _ (cQ (l:=R) (n:=c) ae);omega)).resolve_right (c2 ae);exact CB (lt:=dt r) kV sR (i:=c) (j:=c+k) ae ae hx
 refine ao (λI=>?_) (λI=>?_)
 ·-- one on the right
  have ct:R.length=1:=ae;obtain⟨y,rfl⟩:=Ru.1 ct;refine dw (λd xs h'=>h'=h∧∃i j:Nat,d=j-i∧xs=[iv (a+i),iv (a+j)]∧i≤j∧j≤L.length∧(∀h0:0<i,∀hi:i-1<L.length,dt r L[i-1] y)∧(∀hj:j<L.length,¬dt r L[j] y)) L.length
   ⟨rfl,0,L.length,rfl,by rw[show m=a+L.length by omega];rfl,ae,bU _,ae,ae⟩ ?_
  rintro d xs ρj h' again ⟨hh,i,j,rfl,rfl,bv,hj,c1,c2⟩ ar;subst hh;simp only[gX,vC,cq,aj];refine ao (λG=>?_) (λG=>?_)
  ·rw[HM ae,show(a+i+(a+j))/2=a+(i+j)/2 by omega];have hk:(i+j)/2<L.length:=ae;obtain⟨p,W,e2,b1⟩:=be H ((i+j)/2) hk;obtain⟨q,g1,g2,b2⟩:=ay H 0 (by simp);simp only[iE,CS]at g1 g2 b2;refine aP (λI=>I=h') rfl ?_;simp only[W,g1,aj];refine aC _ (λI e=>by rw[e];exact g2) ?_;refine aC _ (λI e=>by rw[e];exact e2) ?_;refine C.call H.ok b2 b1 λc hc=>?_
   have an:L[(i+j)/2]<y:=al _ (cQ _) y (by simp);simp only[go_sem];refine ao (λU=>?_) (λU=>?_)
   ·rw[rP _ ae];refine ar _ _ (j-((i+j)/2+1)) ae ⟨rfl,(i+j)/2+1,j,rfl,rfl,ae,hj,λ_ _=>?_,c2⟩;have e:(i+j)/2+1-1=(i+j)/2:=ae;simp only[e];exact(kW r ae).resolve_right λg=>U (hc.2 ((rW an).1 g))
   ·refine ar _ _ ((i+j)/2-i) ae ⟨rfl,i,(i+j)/2,rfl,rfl,ae,ae,c1,λ_ g=>?_⟩;exact MK g ((rW an).2 (hc.1 (co U)))
  ·have au:i=j:=ae;subst au;refine dw (λd xs I=>∃c:Nat,d=c∧xs=[iv (a+c)]∧i≤c∧c≤L.length∧dX v P n I (A++L.take c++y::(L.drop c++D))∧Fr (blk v) h' I) L.length
    ⟨L.length,rfl,by rw[show m=a+L.length by omega],hj,bU _,by rw[eS (bU _),qp (bU _)];simpa using H,Fr.refl _ _⟩ ?_
   rintro d xs ρj2 I a7 ⟨c,bc,rfl,eb,ec,H2,F2⟩ ax;have bc:=bc.symm;subst bc;simp only[gX,sr,aj];refine ao (λU=>?_) (λU=>?_)
   ·obtain⟨c,rfl⟩:∃e,c=e+1:=⟨c-1,ae⟩
    have dL:L.drop c=L[c]::L.drop (c+1):=zj ae;have tL:L.take (c+1)=L.take c++[L[c]]:=ju ae;have H3:dX v P n I ((A++L.take c)++L[c]::([]++y::(L.drop (c+1)++D))):=by
     rw[tL]at H2;simpa only[cf,mY,fB]using H2
    obtain⟨p,q,W,e2,e3,e4,st⟩:=H3.swap C (i:=a+c) (j:=a+(c+1)) (by rw[ck,c5];omega) (by rw[ck,c5,kr];omega);have es:IntKind.i64.wrap (((a+(c+1):Nat):Int)-1)=((a+c:Nat):Int):=by rw[GN _ ae ae];congr 1
    refine aP (λG=>G=I) rfl ?_;simp only[go_sem,es,W,e2];refine aC _ (λG e=>by rw[e];exact e3) ?_;refine aC _ (λG e=>by rw[e];exact e4) ?_;refine(st _ λG H4 F3=>?_).2;refine ax _ G c ae ⟨c,rfl,rfl,ae,ae,?_,F2.trans F3⟩;rw[dL];simpa only[cf,mY,fB]using H4
   ·have:c=i:=ae;subst this;refine⟨L.take c++y::L.drop c,?_,?_,by simpa only[cf,mY,fB]using H2,F2⟩
    ·refine Rv.trans ?_;rw[lW];exact GX (l₁:=[y])
    ·refine UL (by rw[lW];exact sL) (λz hz=>?_) (λz hz=>?_)
     ·obtain⟨k,hk,rfl⟩:=oC.1 hz;rw[c5]at hk;rw[yZ];exact Cz (lt:=dt r) kV sL (i:=k) (j:=c-1) ae ae (c1 ae ae)
     ·obtain⟨k,hk,rfl⟩:=oC.1 hz;rw[iZ]at hk;rw[w9];have hx:dt r y L[c]:=(kW r (show y≠L[c]by have:=al _ (cQ (l:=L) (n:=c) ae) y (by simp);omega)).resolve_right (c2 ae);exact CB (lt:=dt r) kV sL (i:=c) (j:=c+k) ae ae hx
 -- cut in the middle
 rw[HM ae];obtain⟨F,b4⟩:∃F,F=(a+b)/2:=⟨_,rfl⟩
 rw[←b4,du,aj,ub F m ae];obtain⟨s0,a9⟩:∃s0,s0=if F<m then F+m-b else a:=⟨_,rfl⟩
 obtain⟨r0,bd⟩:∃r0,r0=if F<m then F else m:=⟨_,rfl⟩
 have ab:(F<m→s0=F+m-b)∧(¬F<m→s0=a):=⟨λh=>by rw[a9,aA h],λh=>by rw[a9,az h]⟩
 have aa:(F<m→r0=F)∧(¬F<m→r0=m):=⟨λh=>by rw[bd,aA h],λh=>by rw[bd,az h]⟩
 clear a9 bd
 refine bi (λxs h'=>h'=h∧xs=[iv s0,iv r0]) ?_ ?_
 ·rw[sr,aj];refine ao (λG=>?_) (λG=>?_)
  ·rw[ig,aj,lF (F+m) b ae ae];exact⟨rfl,by rw[ab.1 ae,aa.1 ae]⟩
  ·exact⟨rfl,by rw[ab.2 ae,aa.2 ae]⟩
 rintro xs ρj h' ⟨hh,rfl⟩;subst hh;simp only[gX,vC];rw[ig,aj,GN (F+m) ae ae];have cu:a≤s0∧s0≤r0∧r0≤m∧r0≤F∧F+m-b≤s0:=by
  by_cases G:F<m
  ·have W:=ab.1 G;have e2:=aa.1 G;omega
  ·have W:=ab.2 G;have e2:=aa.2 G;omega
 -- which ones come ahead
 have bg:∀c:Nat,s0≤c→c<r0→∃(h1:c-a<L.length) (I:F-1-c<R.length),∃p q,bu 1 v (iv c)=some p∧ldV h' p=some (iv L[c-a])∧bu 1 v (iv (F+m-1-c))=some q∧ldV h' q=some (iv R[F-1-c])∧L[c-a]<n∧R[F-1-c]<n:=by
  intro c h1 I;have l1:c-a<L.length:=ae;have l2:F-1-c<R.length:=ae;obtain⟨p,W,e2,b1⟩:=be H (c-a) l1;obtain⟨q,g1,g2,b2⟩:=ay H (F-1-c) l2;rw[show a+(c-a)=c by omega]at W;rw[show m+(F-1-c)=F+m-1-c by omega]at g1;exact⟨l1,l2,p,q,W,e2,g1,g2,b1,b2⟩
 refine dw (λd xs I=>I=h'∧∃i j:Nat,d=j-i∧xs=[iv i,iv j]∧s0≤i∧i≤j∧j≤r0∧(∀h0:s0<i,∀(g1:i-1-a<L.length) (g2:F-i<R.length),dt r L[i-1-a] R[F-i])∧(j<r0→∀(g1:j-a<L.length) (g2:F-1-j<R.length),dt r R[F-1-j] L[j-a])) (r0-s0)
  ⟨rfl,s0,r0,rfl,rfl,bU _,cu.2.1,bU _,ae,ae⟩ ?_
 rintro d xs ρj2 I again ⟨hh,i,j,rfl,rfl,cp,bv,c0,c1,c2⟩ ar;subst hh;simp only[gX,vC,cq,aj];refine ao (λG=>?_) (λG=>?_)
 ·rw[HM ae];obtain⟨l1,l2,p,q,W,e2,g1,g2,b1,b2⟩:=bg ((i+j)/2) ae ae;obtain⟨c,hc⟩:∃c,c=(i+j)/2:=⟨_,rfl⟩
  simp only[←hc]at l1 l2 W e2 g1 g2 b1 b2 ⊢;have an:L[c-a]<R[F-1-c]:=al _ (cQ _) _ (cQ _);refine aP (λU=>U=I) rfl ?_;simp only[ig,aj];rw[lF (F+m-1) c ae ae];simp only[W,g1,aj];refine aC _ (λG e=>by rw[e];exact g2) ?_;refine aC _ (λG e=>by rw[e];exact e2) ?_;refine C.call H.ok b2 b1 λw hw=>?_
  simp only[go_sem];refine ao (λU=>?_) (λU=>?_)
  ·rw[rP _ ae];refine ar _ _ (j-(c+1)) ae ⟨rfl,c+1,j,rfl,rfl,ae,ae,c0,λ_ _ _=>?_,c2⟩;have:dt r L[c-a] R[F-1-c]:=(kW r ae).resolve_right λg=>U (hw.2 ((rW an).1 g))
   have e:F-(c+1)=F-1-c:=ae;simp only[e,zh];exact this
  ·refine ar _ _ (c-i) ae ⟨rfl,i,c,rfl,rfl,cp,ae,ae,c1,λ_ _ _=>(rW an).2 (hw.1 (co U))⟩
 -- turned round
 have au:i=j:=ae;subst au;obtain⟨p,hp⟩:∃p,p=i-a:=⟨_,rfl⟩
 obtain⟨q,hq⟩:∃q,q=F-i:=⟨_,rfl⟩
 have c3:p≤L.length:=ae;have c9:q≤R.length:=ae;have x1:∀(g1:0<p) (g2:q<R.length),dt r (L[p-1]'ae) R[q]:=λg1 g2=>by
  have hs:s0<i:=by
   by_cases U:F<m
   ·have:=ab.1 U;omega
   ·have:=ab.2 U;omega
  have:=c1 hs ae ae;have W:i-1-a=p-1:=ae;simp only[W,←hq]at this;exact this
 have x2:∀(g1:0<q) (g2:p<L.length),dt r (R[q-1]'ae) L[p]:=λg1 g2=>by
  have hs:i<r0:=by
   by_cases U:F<m
   ·have:=aa.1 U;omega
   ·have:=aa.2 U;omega
  have:=c2 hs ae ae;have W:F-1-i=q-1:=ae;simp only[W,←hp]at this;exact this
 have cr:=cross (lt:=dt r) kV sL sR c3 c9 x1 x2;have lp:(L.take p).length=p:=by rw[c5];omega
 have lq:(R.take q).length=q:=by rw[c5];omega
 have ld:(L.drop p).length=L.length-p:=by rw[iZ]
 have lr:(R.drop q).length=R.length-q:=by rw[iZ]
 have eL:L=L.take p++L.drop p:=(lW _ _).symm;have eR:R=R.take q++R.drop q:=(lW _ _).symm;have H0:dX v P n I ((A++L.take p)++L.drop p++R.take q++(R.drop q++D)):=by
  have e:(A++L.take p)++L.drop p++R.take q++(R.drop q++D)=A++L++R++D:=by
   conv=>rhs;rw[eL,eR]
   simp only[cf]
  rw[e];exact H
 rw[ig,aj,lF (F+m) i ae ae];refine bi (λ_ G=>dX v P n G (A++L.take p++R.take q++(L.drop p++R.drop q++D))∧Fr (blk v) I G) ?_ ?_
 ·simp only[go_sem];refine ao (λU=>?_) (λU=>?_)
  ·refine(ZN C H0 (a:=i) (m:=m) (b:=F+m-i) (by rw[ck];omega) (by rw[ck];omega) (by rw[ck];omega) ae ae).mono λw G ⟨H3,F3⟩=>?_
   exact⟨by simpa only[cf]using H3,F3⟩
  ·refine⟨?_,Fr.refl _ _⟩;by_cases h5:p=L.length
   ·rw[qp (show L.length≤p by omega)]at H0 ⊢;simpa only[cf,gR,fB]using H0
   ·have:q=0:=ae;subst this;simpa only[cf,KL,gR,fB]using H0
 rintro xs ρj3 G ⟨H3,F3⟩
 -- the two halves
 have ci:∀x∈L.take p,∀y∈R.take q,x<y:=λx hx y hy=>al x (CP hx) y (CP hy)
 have b6:∀x∈L.drop p,∀y∈R.drop q,x<y:=λx hx y hy=>al x (Rt hx) y (Rt hy)
 have ca:=sL.sublist (List.take_sublist p L);have b7:=sL.sublist (List.drop_sublist p L);have b0:=sR.sublist (List.take_sublist q R);have bo:=sR.sublist (List.drop_sublist q R);have ad:∀(S1:List Nat) (U:ah),S1.Perm (L.take p++R.take q)→S1.Pairwise (dt r)→dX v P n U (A++S1++(L.drop p++R.drop q++D))→Fr (blk v) I U→
   vK (ak .i .lss (iv F) (iv (F+m-i))) λaw=>vK (gV aw true (some (iv (F+m-i)))) λb8=>vK (gV aw true (some (iv b))) λcc=>vK (gV aw true (ak .i .lss b8 cc)) λcb=>vK (aE aw cb (.bool false)) λb5=>
    aF b5 (ag prog bS #[v,iv F,iv (F+m-i),iv b,f] U λdq a8=>∃S:List Nat,S.Perm (L++R)∧S.Pairwise (dt r)∧dX v P n a8 (A++S++D)∧Fr (blk v) I a8)
     (∃S:List Nat,S.Perm (L++R)∧S.Pairwise (dt r)∧dX v P n U (A++S++D)∧Fr (blk v) I U):=by
  intro S1 U b3 cw H4 F4;have ea:S1.length=p+q:=by rw[b3.length_eq,ck];omega
  have fin:∀(S2:List Nat) (h5:ah),S2.Perm (L.drop p++R.drop q)→S2.Pairwise (dt r)→dX v P n h5 (A++S1++S2++D)→Fr (blk v) I h5→∃S:List Nat,S.Perm (L++R)∧S.Pairwise (dt r)∧dX v P n h5 (A++S++D)∧Fr (blk v) I h5:=by
   intro S2 h5 c8 c6 H5 F5;obtain⟨m1,m2⟩:=zcq (lt:=dt r) cr b3 c8 cw c6;exact⟨S1++S2,m1,m2,by simpa only[cf]using H5,F5⟩
  simp only[go_sem];refine ao (λh6=>?_) (λh6=>?_)
  ·refine(ih (A:=A++S1) (L:=L.drop p) (R:=R.drop q) (D:=D) (by simpa only[cf]using H4) (by rw[ck];omega) (by rw[ck];omega) (by rw[ck];omega) ae ae b7 bo b6 ae).mono λw h5 ⟨S2,g1,g2,g3,g4⟩=>?_
   exact fin S2 h5 g1 g2 g3 (F4.trans g4)
  ·by_cases h7:L.length≤p
   ·rw[qp h7]at H4 fin;exact fin (R.drop q) U (by simp) bo (by simpa only[cf,fB]using H4) F4
   ·have h8:R.length≤q:=ae;rw[qp h8]at H4 fin;exact fin (L.drop p) U (by simp) b7 (by simpa only[cf,gR,fB]using H4) F4
 simp only[cq,aj];by_cases U:a<i∧i<F
 ·have W:((a:Int)<(i:Int))=True:=jx ae;have e2:((i:Int)<(F:Int))=True:=jx ae;simp only[go_sem,W,e2];refine(ih (A:=A) (L:=L.take p) (R:=R.take q) (D:=L.drop p++R.drop q++D) H3 ae ae ae ae ae ca b0 ci ae).mono λw h5 ⟨S1,g1,g2,g3,g4⟩=>?_
  have:=ad S1 h5 g1 g2 g3 (F3.trans g4);simp only[go_sem]at this ⊢;exact this
 ·have W:((a:Int)<(i:Int)∧(i:Int)<(F:Int))=False:=fJ ae;simp only[go_sem,W];by_cases h5:p=0
  ·subst h5;have:=ad (R.take q) G (by simp) b0 (by simpa only[cf,KL,gR,fB]using H3) F3;simp only[go_sem]at this ⊢;exact this
  ·have bk:q=0:=ae;have dz:=bk;have:=ad (L.take p) G (by rw[bk];simp) ca (by rw[bk]at H3 ⊢;simpa only[cf,KL,gR,fB]using H3) F3;simp only[go_sem]at this ⊢;exact this
end
end
section
def Srt (r:Nat→Int)(lo:Nat)(S:List Nat):Prop:=S.Perm (List.range' lo S.length)∧S.Pairwise (dt r)
theorem Srt.mem {r:Nat→Int}{lo:Nat}{S:List Nat}(H:Srt r lo S){x:Nat}(A:x∈S):lo≤x∧x<lo+S.length:=by
 have:=H.1.mem_iff.1 A;simpa using this
theorem Srt.join {r:Nat→Int}{lo:Nat}{A D S:List Nat}(h1:Srt r lo A)(G:Srt r (lo+A.length) D)(F:S.Perm (A++D))(H:S.Pairwise (dt r)):Srt r lo S:=by
 refine⟨?_,H⟩;have I:S.length=A.length+D.length:=by rw[F.length_eq,ck]
 refine F.trans ((h1.1.append G.1).trans ?_);rw[I,Wi]
inductive BS (r:Nat→Int)(B:Nat):Nat→List Nat→Prop
 |nil (lo:Nat):BS r B lo []
 |last (lo:Nat) (S:List Nat):0<S.length→S.length≤B→Srt r lo S→BS r B lo S
 |cons (lo:Nat) (S T:List Nat):S.length=B→Srt r lo S→BS r B (lo+B) T→BS r B lo (S++T)
theorem BS.one {r:Nat→Int}{B lo:Nat}{Y:List Nat}(F:0<B)(H:BS r B lo Y)(D:B≤Y.length):∃S T,Y=S++T∧S.length=B∧Srt r lo S∧BS r B (lo+B) T:=by
 cases H
 ·simp at D;omega
 ·rename_i h0 h1 A;exact⟨Y,[],by simp,ae,A,.nil _⟩
 ·rename_i S T h0 h1 A;exact⟨S,T,rfl,h0,h1,A⟩
theorem BS.short {r:Nat→Int}{B lo:Nat}{Y:List Nat}(G:0<B)(H:BS r B lo Y)(D:Y.length≤B)(h0:0<Y.length):Srt r lo Y:=by
 cases H
 ·simp at h0
 ·rename_i h0 h1 A;exact A
 ·rename_i S T F h1 A;have:T=[]:=mX (by simp at D;omega);subst this;simpa using h1
section
variable {v f:Value}{P:ah→Prop}{r:Nat→Int}{n:Nat}
theorem ZL (C:JY v f P r n){h:ah}{N:Nat}(H:dX v P n h (List.range' 0 N))(hN:N≤1048576):
  ag prog io #[v,iv N,f] h λ_ h'=>∃S:List Nat,S.Perm (List.range N)∧S.Pairwise (dt r)∧dX v P n h' S∧Fr (blk v) h h':=by
 apply tS;unfold kA;refine dw (λd W h'=>∃(X:List Nat),d=N-X.length∧W=[iv X.length,iv (X.length+20)]∧X.length≤N∧(∀T,BS r 20 X.length T→BS r 20 0 (X++T))∧dX v P n h' (X++List.range' X.length (N-X.length))∧Fr (blk v) h h') N
  ⟨[],rfl,rfl,bZ _,λT h=>h,by simpa using H,Fr.refl _ _⟩ ?_
 rintro d W ρj h1 again ⟨X,rfl,rfl,hX,hT,H1,F1⟩ ay;simp only[gX,vC,NE,aj];refine ao (λh0=>?_) (λh0=>?_)
 ·have er:List.range' X.length (N-X.length)=List.range' X.length 20++List.range' (X.length+20) (N-(X.length+20)):=by
   rw[Wi];congr 1;omega
  have H2:dX v P n h1 (X++List.range' X.length 20++List.range' (X.length+20) (N-(X.length+20))):=by rw[er]at H1;simpa only[cf]using H1
  refine(JU C H2 (a:=X.length) (b:=X.length+20) rfl (by simp) Wh).mono λw h2 ⟨M',hp,hs,H3,F2⟩=>?_
  have hM:M'.length=20:=by rw[hp.length_eq];simp
  have hl:(X++M').length=X.length+20:=by rw[ck,hM]
  rw[du,aj,show(20:Int)=((20:Nat):Int)from rfl,ub _ _ ae];refine ay _ h2 (N-(X++M').length) ae ⟨X++M',rfl,by rw[hl],ae,λT G=>?_,by rw[hl];exact H3,F1.trans F2⟩;rw[hl]at G;rw[cf];exact hT _ (.cons _ M' T hM ⟨by rw[hM];exact hp,hs⟩ G)
 ·refine(JU C (A:=X) (M:=List.range' X.length (N-X.length)) (D:=[]) (by simpa using H1) (a:=X.length) (b:=N) rfl (by simp;omega) Wh).mono λw h2 ⟨M',hp,hs,H3,F2⟩=>?_
  have hM:M'.length=N-X.length:=by rw[hp.length_eq];simp
  rw[gR]at H3;have ax:BS r 20 0 (X++M'):=by
   refine hT _ ?_;rcases w8 M'.length with h3|h3
   ·rw[mX h3];exact .nil _
   ·exact .last _ _ h3 ae ⟨by rw[hM];exact hp,hs⟩
  have au:(X++M').length=N:=by rw[ck];omega
  generalize X++M'=Y0 at*
  -- blocks that grow
  refine dw (λd W h'=>∃(B:Nat) (Y:List Nat),d=N-B∧W=[iv B]∧0<B∧B≤2097152∧Y.length=N∧BS r B 0 Y∧dX v P n h' Y∧Fr (blk v) h h') (N-20)
   ⟨20,Y0,rfl,rfl,ae,ae,au,ax,H3,F1.trans F2⟩ ?_
  rintro d W ρj2 h3 U ⟨B,Y,rfl,rfl,hB,a8,al,hY,H4,F3⟩ an;simp only[gX,cq,aj];refine ao (λh4=>?_) (λh4=>?_)
  ·rw [ms,aj,show(2:Int)*(B:Int)=((2*B:Nat):Int)by omega,w64 (n:=((2*B:Nat):Int)) ae ae];refine dw (λd W h'=>∃(X Z:List Nat),d=Z.length∧W=[iv X.length,iv (X.length+2*B)]∧X.length+Z.length=N∧(∀T,BS r (2*B) X.length T→BS r (2*B) 0 (X++T))∧BS r B X.length Z∧dX v P n h' (X++Z)∧Fr (blk v) h h') N
    ⟨[],Y,al.symm,by simp,by simpa using al,λT h=>h,hY,H4,F3⟩ ?_
   rintro d W ρj3 h5 aw ⟨X,Z,rfl,rfl,ad,ab,hZ,H5,F5⟩ ar;simp only[gX,vC,NE,aj];refine ao (λh6=>?_) (λh6=>?_)
   ·obtain⟨S1,T1,rfl,l1,s1,b1⟩:=hZ.one hB ae;rw[ck]at ad;obtain⟨S2,T2,rfl,l2,s2,b2⟩:=b1.one hB ae;rw[ck]at ad;rw[du,aj,ub _ _ ae];refine(Nj C (S1.length+S2.length) (A:=X) (L:=S1) (R:=S2) (D:=T2) (by simpa only[cf]using H5) (a:=X.length) (m:=X.length+B) (b:=X.length+2*B) rfl ae ae ae ae s1.2 s2.2 (λx hx y hy=>by
     have:=s1.mem hx;have:=s2.mem hy;omega) (bU _)).mono λw h7 ⟨S,F,aa,H7,F7⟩=>?_
    have hS:S.length=2*B:=by rw[F.length_eq,ck];omega
    have hl:(X++S).length=X.length+2*B:=by rw[ck,hS]
    rw[du,aj,ub _ _ ae];refine ar _ h7 T2.length (by simp;omega) ⟨X++S,T2,rfl,by rw[hl],by rw[hl];omega,λT G=>?_,by rw[hl,show X.length+2*B=X.length+B+B by omega];exact b2,H7,F5.trans F7⟩;rw[hl]at G;rw[cf];exact ab _ (.cons _ S T hS (Srt.join s1 (by rw[l1];exact s2) F aa) G)
   ·rw[du,aj,ub _ _ ae,cq,aj];have go:∀(Y':List Nat) (h8:ah),Y'.length=N→BS r (2*B) 0 Y'→dX v P n h8 Y'→Fr (blk v) h h8→vK (ak .i .mul (iv B) (af 2)) λa7=>U [a7] h8:=by
     intro Y' h8 g1 g2 g3 g4;rw[ms,aj,show(B:Int)*2=((2*B:Nat):Int)by omega,w64 (n:=((2*B:Nat):Int)) ae ae];exact an _ h8 (N-2*B) ae ⟨2*B,Y',rfl,rfl,ae,ae,g1,g2,g3,g4⟩
    refine ao (λh8=>?_) (λh8=>?_)
    ·obtain⟨S1,T1,rfl,l1,s1,b1⟩:=hZ.one hB ae;rw[ck]at ad;have s2:=b1.short hB ae ae;refine(Nj C (S1.length+T1.length) (A:=X) (L:=S1) (R:=T1) (D:=[]) (by simpa only[cf,gR]using H5) (a:=X.length) (m:=X.length+B) (b:=N) rfl ae ae ae ae s1.2 s2.2 (λx hx y hy=>by
      have:=s1.mem hx;have:=s2.mem hy;omega) (bU _)).mono λw I ⟨S,F,aa,H7,F7⟩=>?_
     have hS:S.length=S1.length+T1.length:=by rw[F.length_eq,ck]
     rw[gR]at H7;exact go (X++S) I (by rw[ck];omega) (ab _ (.last _ S ae ae (Srt.join s1 (by rw[l1];exact s2) F aa))) H7 (F5.trans F7)
    ·refine go (X++Z) h5 (by rw[ck];omega) (ab _ ?_) H5 F5;rcases w8 Z.length with I|I
     ·rw[mX I];exact .nil _
     ·exact .last _ _ I ae (hZ.short hB ae I)
  ·have:Srt r 0 Y:=by
    rcases w8 Y.length with I|I
    ·have:Y=[]:=mX I;subst this;exact⟨by simp,List.Pairwise.nil⟩
    ·exact hY.short hB ae I
   refine⟨Y,?_,this.2,H4,F3⟩;have hp:=this.1;rw[al]at hp;rw[RN];exact hp
theorem R4 (C:JY v f P r n){h:ah}{N:Nat}(H:dX v P n h (List.range' 0 N))(F:N≤1048576):
  ag prog eV #[v,f] h λ_ h'=>∃S:List Nat,S.Perm (List.range N)∧S.Pairwise (dt r)∧dX v P n h' S∧Fr (blk v) h h':=by
 apply ml;unfold gW;have A:=H.own;rw[List.length_range']at A;obtain⟨a,cap,e⟩:=A.isSl;have D:aD v=some (iv N):=by rw[e];rfl
 rw[D,aj];exact ZL C H F
end
end
abbrev OW:Value:=.int .i64 0
structure Mk3 (n:Nat)(h0:ah)(rows:List Value)(vr:Option (Nat×TypeId×Value))(h:ah):Prop where
 ext:Ext h0 h
 own:∀r∈rows,Own 1 h r n (List.replicate n OW)∧∀b,blk r b→h0.size≤b
 dis:rows.Pairwise λr s=>∀b,blk r b→¬blk s b
 var:∀p,vr=some p→h[p.1]? =some (.cells #[p.2.2] p.2.1 (0,0))∧h0.size≤p.1∧∀r∈rows,¬blk r p.1
theorem Mk3.start (n:Nat)(h:ah):Mk3 n h [] none h:=⟨Ext.refl _,by simp,List.Pairwise.nil,by simp⟩
theorem Mk3.mkr {n:Nat}{h0 h:ah}{rows:List Value}{I:Option (Nat×TypeId×Value)}{t:TypeId}{K:Value→ah→Prop}(M:Mk3 n h0 rows I h)(hn:n≤1048576)
  (H:∀v h',Mk3 n h0 (rows++[v]) I h'→K v h'):mkK OW t 1 8 (af (n:Int)) (af (n:Int)) h K:=by
 refine og rfl ae ae λv h' o e f=>H v h' ⟨M.ext.trans e,?_,?_,?_⟩
 ·intro r A;rcases gS.1 A with A|A
  ·exact⟨(M.own r A).1.fr (M:=λ_=>False) e.fr λ_ _=>id,(M.own r A).2⟩
  ·rw[ib.1 A];exact⟨o,λb F=>bh M.ext.1 (f b F)⟩
 ·rw[qP];refine⟨M.dis,by simp,λr A s U b F D=>?_⟩;rw[ib.1 U]at D;have h1:=(M.own r A).1.lt F;have G:=f b D;omega
 ·intro p W;obtain⟨h1,G,L⟩:=M.var p W;refine⟨e.row h1,G,λr A=>?_⟩;rcases gS.1 A with A|A
  ·exact L r A
  ·rw[ib.1 A];intro F;have:=f _ F;have:=bB h1;omega
theorem Mk3.nw {n:Nat}{h0 h:ah}{rows:List Value}{t:TypeId}{c:Value}{K:Value→ah→Prop}(M:Mk3 n h0 rows none h)
  (H:∀b h',Mk3 n h0 rows (some (b,t,c)) h'→K (.pointer (some ⟨b,0,none⟩)) h'):aW #[c] t h K:=by
 refine aI λb h' r e f=>H b h' ⟨M.ext.trans e,λs A=>⟨(M.own s A).1.fr (M:=λ_=>False) e.fr λ_ _=>id,(M.own s A).2⟩,M.dis,?_⟩
 rintro p F;cases F;refine⟨r,bh M.ext.1 f,λs A D=>?_⟩;have:=(M.own s A).1.lt D;simp only at this;omega
theorem Mk3.st {n:Nat}{h0 h:ah}{rows:List Value}{t:TypeId}{b:Nat}{c v:Value}{K:Value→ah→Prop}(M:Mk3 n h0 rows (some (b,t,c)) h)(I:v∈rows)
  (H:∀h',Mk3 n h0 rows (some (b,t,v)) h'→K undef h'):stK 1 (.pointer (some ⟨b,0,none⟩)) v h K:=by
 obtain⟨h1,D,A⟩:=M.var _ rfl;simp only at h1 D A;obtain⟨a,cap,e⟩:=(M.own v I).1.isSl;refine b9 h1 (by simp) (by rw[e];rfl) λh' r u=>H h' ⟨M.ext.upd D u,?_,M.dis,?_⟩
 ·intro s F;exact⟨(M.own s F).1.fr u.fr λk G U=>A s F (U▸G),(M.own s F).2⟩
 ·rintro p L;cases L;exact⟨by simpa using r,D,A⟩
def zca (n:Nat)(h0:ah)(xs:List Value)(h:ah):Prop:=
 ∃(x y z:Value) (b:Nat) (t:TypeId),xs=[x,y,.pointer (some ⟨b,0,none⟩)]∧Ext h0 h∧(Own 1 h x n (List.replicate n OW)∧∀b,blk x b→h0.size≤b)∧(Own 1 h y n (List.replicate n OW)∧∀b,blk y b→h0.size≤b)∧
  (Own 1 h z n (List.replicate n OW)∧∀b,blk z b→h0.size≤b)∧(∀b,blk x b→¬blk y b)∧(∀b,blk x b→¬blk z b)∧(∀b,blk y b→¬blk z b)∧
  h[b]? =some (.cells #[z] t (0,0))∧h0.size≤b∧¬blk x b∧¬blk y b∧¬blk z b
theorem Mk3.made {n:Nat}{h0 h:ah}{rows:List Value}{t:TypeId}{b:Nat}{z:Value}(M:Mk3 n h0 rows (some (b,t,z)) h)(i j k:Nat){x y:Value}(A:rows[i]? =some x)(D:rows[j]? =some y)(G:rows[k]? =some z)(h1:i≠j)(h2:i≠k)(h3:j≠k):
  zca n h0 [x,y,.pointer (some ⟨b,0,none⟩)] h:=by
 obtain⟨L,U,H⟩:=M.var _ rfl;simp only at L U H;have dis:∀(i j:Nat) (x y:Value),rows[i]? =some x→rows[j]? =some y→i≠j→∀b,blk x b→¬blk y b:=by
  intro i j x y A D aa b hb F;obtain⟨W,ei⟩:=KK.1 A;obtain⟨lj,I⟩:=KK.1 D;rcases oE i j with h|h
  ·have:=uf.1 M.dis i j W lj h b (by rw[ei];exact hb);rw[I]at this;exact this F
  ·have:=uf.1 M.dis j i lj W ae b (by rw[I];exact F);rw[ei]at this;exact this hb
 exact⟨x,y,z,b,t,rfl,M.ext,M.own x (zk A),M.own y (zk D),M.own z (zk G),dis i j x y A D h1,dis i k x z A G h2,dis j k y z D G h3,L,U,H x (zk A),H y (zk D),H z (zk G)⟩
theorem Own.at_map {h:ah}{v:Value}{n:Nat}{g:Nat→Int}(H:Own 1 h v n ((List.range n).map λi=>af (g i))){k:IntKind}{i:Nat}(hi:i<n):
  ∃p,bu 1 v (.int k (i:Int))=some p∧ldV h p=some (af (g i))∧∀(x:Int) (K:Value→ah→Prop),
   (∀h',Own 1 h' v n ((List.range n).map λj=>af (if j=i then x else g j))→Fr (blk v) h h'→K undef h')→stK 1 p (af x) h K:=by
 obtain⟨p,h1,F,D⟩:=Own.at1 H (k:=k) hi;refine⟨p,h1,by rw[F];simp,λx K A=>D _ _ rfl λh' o f _=>A h' ?_ f⟩;rw[D7 _ _ _ _ hi]at o;have e:(λj=>if j=i then af x else af (g j))=λj=>af (if j=i then x else g j):=by
  funext j;split<;>rfl
 rw[e]at o;exact o
theorem KB (n:Nat):List.replicate n OW=(List.range n).map λi=>af ((λ_=>0:Nat→Int) i):=by
 apply qu<;>simp
theorem Yi {h:ah}{a b:Int}:ag prog mf #[af a,af b] h λr h'=>(∃c:Int,r=af c∧(c<0↔a<b))∧h'=h:=by
 have A:∀{x:Int} {h:ah},ag prog kP #[af x] h λr h'=>r=.bool false∧h'=h:=by
  intro x h;apply ES;unfold vh
  try simp only[go_sem]
  exact⟨by simp,by simp⟩
 apply BG;unfold rF;refine A.mono λF h1 ⟨D,w1⟩=>?_
 subst D w1;refine A.mono λF h1 ⟨D,w1⟩=>?_
 subst D w1
 try simp only[go_sem]
 refine ao (λh0=>⟨⟨-1,rfl,ae⟩,by first|rfl|trivial⟩) (λh0=>?_);refine ao (λh0=>⟨⟨1,rfl,ae⟩,by first|rfl|trivial⟩) (λh0=>⟨⟨0,rfl,ae⟩,by first|rfl|trivial⟩)
def zb8 (b:Nat)(t:TypeId)(z:Value)(n:Nat)(r:Nat→Int)(h:ah):Prop:=h[b]? =some (.cells #[z] t (0,0))∧Own 1 h z n ((List.range n).map λi=>Value.int .i64 (r i))
theorem ZF {v z:Value}{b n:Nat}{t:TypeId}{r:Nat→Int}(h1:¬blk v b)(W:∀b,blk v b→¬blk z b):JY v (.func (.func ma) #[] #[.pointer (some ⟨b,0,none⟩)]) (zb8 b t z n r) r n where
 call:=λ{h a c K} ⟨D,A⟩ I hc H=>by
  rw[clK_2];apply By;unfold ru;obtain⟨p,U,e2,_⟩:=Own.at_map A (k:=.i64) I;obtain⟨q,e3,e4,_⟩:=Own.at_map A (k:=.i64) hc;have F:ldV h (.pointer (some ⟨b,0,none⟩))=some z:=by rw[qS,am D];rfl
  refine aP (λh'=>h'=h) rfl ?_;refine aC z (λh' e=>by rw[e];exact F) ?_;simp only[go_sem,e3];refine aC _ (λh' e=>by rw[e];exact e4) ?_;refine aC z (λh' e=>by rw[e];exact F) ?_;simp only[go_sem,U];refine aC _ (λh' e=>by rw[e];exact e2) ?_;refine Yi.mono λw h' ⟨⟨m,e,G⟩,hh⟩=>?_
  subst e hh;exact H m G
 fr:=λ{h h'} ⟨D,A⟩ f=>⟨f.row D h1,A.fr f λk L hb=>W k hb L⟩
theorem zaM {l:List Int}{S:List Nat}(F:S.Perm (List.range l.length))(I:S.Pairwise (dt (dW l))){k i:Nat}(G:k<S.length)(hi:i<l.length):(if(lS (dW l) l.length i:Int)<((k+1:Nat):Int)then(1:Int)else 0)=if i=S[k]then(if(lS (dW l) l.length i:Int)<(k:Int)then(1:Int)else 0)+1 else if(lS (dW l) l.length i:Int)<(k:Int)then 1 else 0:=by
 have H:=JB F I G;have D:S[k]<l.length:=by have:=F.mem_iff.1 (cQ G);simpa using this
 by_cases A:i=S[k]
 ·rw[aA A,A,H,aA ae,az ae];rfl
 ·rw[az A];have:lS (dW l) l.length i≠k:=λe=>A (Gs hi D (e.trans H.symm))
  by_cases h:lS (dW l) l.length i<k
  ·rw[aA ae,aA ae]
  ·rw[az ae,az ae]
theorem Cc {Z:Nat→Prop}{h:ah}{v:Value}{l:List Int}(H:SlI Z h v l)(L:∀x∈l,I64 x)(hl:l.length<4611686018427387904):
  ag prog jE #[v] h λr h'=>∃u,r=.tuple #[u,af (cW l)]∧New (Rp.int .i64) h h' u (cz l):=by
 apply Gv;unfold wn;refine(TX H L hl).mono λv1 h1 ⟨e1,w1⟩=>?_
 subst e1 w1;obtain⟨a,cap,e⟩:=H.isSl;have e2:aD v=some (af (l.length:Int)):=by rw[e];rfl
 simp only[yz,aj];unfold cz;by_cases hc:¬cW l=0
 ·have q:(cW l=0)=False:=fJ hc;rw[az hc];simp only[go_sem,q];exact⟨_,rfl,New.nil (Ext.refl _)⟩
 have hc:cW l=0:=co hc;have G:=Zf L hc;have q:(cW l=0)=True:=jx hc;rw[aA hc];simp only[go_sem,q];refine(PJ H L hl).mono λv1 h1 ⟨e1,w1⟩=>?_
 subst e1 w1;have hn:=G.len;refine bi (zca l.length h1) ?_ ?_
 ·refine aP (Ext h1) (Ext.refl _) ?_;refine aC _ (λh' _=>e2) ?_;refine aC _ (λh' _=>e2) ?_;refine aC _ (λh' _=>e2) ?_;have M0:=Mk3.start l.length h1
  repeat' first
   |exact Mk3.ext ‹Mk3 _ _ _ _ _›
   |exact Mk3.made ‹Mk3 _ _ _ _ _› 0 1 2 rfl rfl rfl (by decide) (by decide) (by decide)
   |exact Mk3.made ‹Mk3 _ _ _ _ _› 0 2 1 rfl rfl rfl (by decide) (by decide) (by decide)
   |exact Mk3.made ‹Mk3 _ _ _ _ _› 1 0 2 rfl rfl rfl (by decide) (by decide) (by decide)
   |exact Mk3.made ‹Mk3 _ _ _ _ _› 1 2 0 rfl rfl rfl (by decide) (by decide) (by decide)
   |exact Mk3.made ‹Mk3 _ _ _ _ _› 2 0 1 rfl rfl rfl (by decide) (by decide) (by decide)
   |exact Mk3.made ‹Mk3 _ _ _ _ _› 2 1 0 rfl rfl rfl (by decide) (by decide) (by decide)
   |refine And.intro ?_ ?_
   |refine Mk3.mkr ‹Mk3 _ _ _ _ _› hn λv' h' M=>?_
   |refine Mk3.nw ‹Mk3 _ _ _ _ _› λb' h' M=>?_
   |refine Mk3.st ‹Mk3 _ _ _ _ _› (by simp) λh' M=>?_
 rintro xs ρj F ⟨x,y,z,b,t,rfl,E2,⟨ox,fx⟩,⟨oy,fy⟩,⟨oz,fz⟩,I,ab,U,hb,b8,nx,ny,nz⟩;simp only[gX,vC,za1,e2,aj];have s1:=G.sum;have ar:=SA l
 -- quotients and rests
 refine bH l.length 0 (λk (_:Unit)=>[af (vA l k),af (k:Int)]) (λk _ h'=>Ext h1 h'∧Own 1 h' x l.length ((List.range l.length).map λi=>af (if i<k then gw l i else 0))∧
   Own 1 h' y l.length ((List.range l.length).map λi=>af (if i<k then(i:Int)else 0))∧Own 1 h' z l.length ((List.range l.length).map λi=>af (if i<k then dW l i else 0))∧h'[b]? =some (.cells #[z] t (0,0))) () rfl (bZ _)
  ⟨E2,by rw[KB]at ox;simpa using ox,by rw[KB]at oy;simpa using oy,by rw[KB]at oz;simpa using oz,hb⟩ λk _ h3 again ρj2 _ hk ⟨E3,o1,o2,o3,D⟩ b3=>?_
 try simp only[go_sem]
 refine ao (λh0=>?_) (λh0=>?_)
 ·have A:k<l.length:=ae;have H3:=H.ext E3;obtain⟨p,e3,e4⟩:=H3.int_at (k':=.i64) A;simp only[go_sem,e3,e4];have eg:l.getD k 0=l[k]:=by simp[dQ,A]
  have W:=G.small k;rw[eg]at W;refine aP (λh'=>h'[b]? =some (.cells #[z] t (0,0))) D ?_;refine aC z (λh' e=>by rw[am e];rfl) ?_;rw[w64 (n:=l[k]*16384) ae ae];refine(Lc (by unfold I64;omega) ar).mono λv1 h4 ⟨e5,w5⟩=>?_
  subst e5 w5;refine⟨D,?_⟩;rw[qA (by unfold I64;omega) ae];refine(zac (by unfold I64;omega) ar ae).mono λv1 h4 ⟨e5,w5⟩=>?_
  subst e5 w5;refine⟨D,?_⟩;have eb:l[k]*16384/mN l=gw l k:=by unfold gw;rw[eg]
  have er:l[k]*16384%mN l=dW l k:=by unfold dW;rw[eg]
  rw[eb,er];obtain⟨px,x1,x2,x3⟩:=Own.at_map o1 (k:=.i64) A;simp only[go_sem,x1];refine x3 _ _ λh5 b4 f5=>?_
  have bv:=o3.fr f5 λc hc W=>ab c W hc
  have b0:=o2.fr f5 λc hc W=>I c W hc
  have ad:=f5.row D nx;refine⟨ad,?_⟩;obtain⟨pz,z1,z2,z3⟩:=Own.at_map bv (k:=.i64) A;simp only[go_sem,z1];refine z3 _ _ λh6 bd f6=>?_
  have ay:=b0.fr f6 λc hc hz=>U c hc hz
  have a9:=b4.fr f6 λc hc hz=>ab c hc hz
  have bk:=f6.row ad nz;obtain⟨py,y1,y2,y3⟩:=Own.at_map ay (k:=.i64) A;simp only[go_sem,y1];refine y3 _ _ λh7 b1 f7=>?_
  have aw:=a9.fr f7 λc hc hy=>I c hc hy
  have be:=bd.fr f7 λc hc hy=>U c hy hc
  have b5:=f7.row bk ny;obtain⟨b7,an,al,_⟩:=Own.at_map aw (k:=.i64) A;rw[x1]at an;cases an;simp only[cJ]at al;have a8:=yA G k;have ca:=MJ G k;simp only[go_sem,x1,al];rw[w64 (n:=vA l k-gw l k) ae ae,w64 (n:=(k:Int)+1) ae ae];have E7:Ext h1 h7:=((E3.then_fr f5 fx).then_fr f6 fz).then_fr f7 fy;refine b3 () h7 A ⟨E7,?_,?_,?_,b5⟩
  ·have e:(List.range l.length).map (λj=>af (if j=k then gw l k else if j<k then gw l j else 0))=(List.range l.length).map λi=>af (if i<k+1 then gw l i else 0):=bM λi _=>by
    congr 1
    by_cases h1:i=k
    ·subst h1;simp
    ·rw[az h1];by_cases F:i<k
     ·rw[aA F,aA ae]
     ·rw[az F,az ae]
   rw[←e];exact aw
  ·have e:(List.range l.length).map (λj=>af (if j=k then(k:Int)else if j<k then(j:Int)else 0))=(List.range l.length).map λi=>af (if i<k+1 then(i:Int)else 0):=bM λi _=>by
    congr 1
    by_cases h1:i=k
    ·subst h1;simp
    ·rw[az h1];by_cases F:i<k
     ·rw[aA F,aA ae]
     ·rw[az F,az ae]
   rw[←e];exact b1
  ·have e:(List.range l.length).map (λj=>af (if j=k then dW l k else if j<k then dW l j else 0))=(List.range l.length).map λi=>af (if i<k+1 then dW l i else 0):=bM λi _=>by
    congr 1
    by_cases h1:i=k
    ·subst h1;simp
    ·rw[az h1];by_cases F:i<k
     ·rw[aA F,aA ae]
     ·rw[az F,az ae]
   rw[←e];exact be
 ·have a7:k=l.length:=ae;subst a7;have o1:Own 1 h3 x l.length ((List.range l.length).map λi=>af (gw l i)):=by
   rw[←bM (g:=λi=>af (if i<l.length then gw l i else 0)) (λi hi=>by rw[aA hi])];exact o1
  have o3:Own 1 h3 z l.length ((List.range l.length).map λi=>af (dW l i)):=by
   rw[←bM (g:=λi=>af (if i<l.length then dW l i else 0)) (λi hi=>by rw[aA hi])];exact o3
  have o2:Own 1 h3 y (List.range' 0 l.length).length ((List.range' 0 l.length).map iv):=by
   rw[List.length_range',←RN,←bM (g:=λi=>af (if i<l.length then(i:Int)else 0)) (λi hi=>by rw[aA hi])];exact o2
  have IX:dX y (zb8 b t z l.length (dW l)) l.length h3 (List.range' 0 l.length):=⟨o2,⟨D,o3⟩,by simpa using hl,λi hi=>by simpa using hi⟩
  refine(R4 (ZF ny U) IX hn).mono λw h4 ⟨S,hp,hs,b2,f4⟩=>?_
  obtain⟨L0,L1⟩:=left_bd G;obtain⟨m,hm⟩:∃m:Nat,yt l=(m:Int):=⟨(yt l).toNat,ae⟩
  have cb:S.length=l.length:=by rw[hp.length_eq];simp
  obtain⟨v',q1,q2,q3⟩:=O9 1 b2.own (k:=.i64) (hi:=m) ae;have o1:=o1.fr f4 λc hc hy=>I c hc hy
  have bc:vA l l.length=(m:Int):=hm;rw[bc,q1,aj];obtain⟨a',b6,e'⟩:=q2.isSl;have bg:aD v'=some (af (m:Int)):=by rw[e'];rfl
  rw[bg,aj];refine bH m 0 (λk (_:Unit)=>[af (k:Int)]) (λk _ h'=>Ext h1 h'∧Own 1 h' x l.length ((List.range l.length).map λi=>af (gw l i+(if(lS (dW l) l.length i:Int)<(k:Int)then 1 else 0)))∧Fr (blk x) h4 h') () rfl (bZ _)
   ⟨E3.then_fr f4 fy,by
    rw[bM (f:=λi=>af (gw l i)) (λi hi=>by rw[az ae,Int.add_zero])];exact o1,Fr.refl _ _⟩ λk _ h5 ax ρj5 _ hk ⟨E5,o5,f5⟩ aa=>?_
  try simp only[go_sem]
  refine ao (λh6=>?_) (λh6=>?_)
  ·have A:k<m:=ae;have q5:=q2.fr f5 λc _ hc W=>I c W (q3 c hc)
   obtain⟨p,p1,p2⟩:=q5.at1 (k:=.i64) A;have au:k<S.length:=ae;have p2:ldV h5 p=some (iv S[k]):=by
    rw[p2];simp
   have bo:S[k]<l.length:=by have:=hp.mem_iff.1 (cQ au);simpa using this
   obtain⟨px,x1,x2,x3⟩:=Own.at_map o5 (k:=.i64) bo;simp only[go_sem,p1,p2,x1,x2];have a8:=yA G S[k];rw[w64 (n:=gw l S[k]+(if(lS (dW l) l.length S[k]:Int)<(k:Int)then 1 else 0)+1) (by split<;>omega) (by split<;>omega)];refine x3 _ _ λh7 o7 f7=>?_
   rw[w64 (n:=(k:Int)+1) ae ae];refine aa () h7 A ⟨E5.then_fr f7 fx,?_,f5.trans f7⟩;rw[bM (f:=λj=>af (if j=S[k]then gw l S[k]+(if(lS (dW l) l.length S[k]:Int)<(k:Int)then 1 else 0)+1 else gw l j+if(lS (dW l) l.length j:Int)<(k:Int)then 1 else 0)) (λi hi=>by
    rw[zaM hp hs au hi]
    congr 1
    by_cases he:i=S[k]
    ·rw[aA he,aA he,←he];omega
    ·rw[az he,az he])]
   exact o7
  ·have:k=m:=ae;subst this;refine⟨x,by rw[hc],⟨(mM l).map λn=>af n,?_,λc _=>id,λi hi=>?_⟩,E5,fx⟩
   ·rw[p8];unfold mM;rw[CZ];simp only[←hm]at o5;exact o5
   ·have e:Rp.el (Rp.int .i64).w ((mM l).map λn=>af n) i=[af (mM l)[i]]:=by
     have:=Rp.el_one (ds:=(mM l).map λn=>af n) (i:=i) (by simpa using hi);rw[eU]at this;exact this
    exact e
theorem Yj {h:ah}{x y:Nat}(D:x<18446744073709551616)(A:y<18446744073709551616):
  ag prog tg #[.int .u64 (x:Int),.int .u64 (y:Int)] h λr h'=>r=.tuple #[.int .u64 ((x*y/18446744073709551616:Nat):Int),.int .u64 ((x*y%18446744073709551616:Nat):Int)]∧h'=h:=by
 apply IK;unfold yg;rw[cK];refine(Se D A).mono λv h1 ⟨e,w⟩=>?_
 subst e w
 try simp only[go_sem]
 exact⟨by simp,by simp⟩
theorem YL (n:Nat)(x:Int):List.replicate n (af x)=(List.replicate n x).map λn=>af n:=by simp
theorem V0 {k:IntKind}{h:ah}{v:Value}{l:List Int}(H:Own 1 h v l.length (l.map λn=>Value.int k n)):Rp.Ow (Rp.int k) (λ_=>False) h v l:=
 ⟨l.map λn=>Value.int k n,H,λc _=>id,λi hi=>by
  have:=Rp.el_one (ds:=l.map λn=>Value.int k n) (i:=i) (by simpa using hi);rw[eU]at this;exact this⟩
theorem Ym {Z:Nat→Prop}{h:ah}{v:Value}{x:Int}{n:Nat}(H:SlI Z h v [x])(hn:1≤n)(an:n≤4096):
  ag prog fU #[v,af (n:Int)] h λr h'=>New (Rp.int .i64) h h' r (List.replicate n x):=by
 apply pD;unfold je;have D:((n:Int)<0)=False:=fJ ae;simp only[go_sem,D];refine bi (λ_ h'=>h'=h) rfl λG ρj h' e=>?_
 subst e;obtain⟨ds,hs,hz,he⟩:=H;have L:=hs.1;have hd:ds=[af x]:=by
  have h1:=he 0 (by simp);have ad:ds.length=1:=by simpa[Rp.int]using L
  obtain⟨d,rfl⟩:=Ru.1 ad;exact h1
 subst hd;obtain⟨a,cap,ev⟩:=hs.isSl;have e2:aD v=some (af ((1:Nat):Int)):=by rw[ev];rfl
 simp only[go_sem,e2];rw[ga ae,ga (m:=n) ae];refine(Yj (x:=1) (y:=n) ae ae).mono λw h1 ⟨e,hh⟩=>?_
 subst e hh
 try simp only[go_sem]
 rw[show 1*n/18446744073709551616=0 by omega,show 1*n%18446744073709551616=n by omega];refine bi (λ_ h'=>h'=h1) ?_ λG ρj2 h2 e=>?_
 ·refine ao (λh0=>absurd h0 ae) (λ_=>rfl)
 subst e
 try simp only[go_sem]
 rw[w64 (n:=(n:Int)) ae ae];refine og rfl ae ae λu h3 o e f=>?_
 have aa:SlC 1 h3 v 1 [af x]:=hs.ext e;refine Ia o aa (by simp[aQ]) λh4 o4 f4 z4=>?_
 have E4:Ext h2 h4:=e.then_fr f4 f;have F:Nat.min 1 n=1:=uj hn;rw[F];obtain⟨a2,al,eu⟩:=o4.isSl;have e3:aD u=some (af (n:Int)):=by rw[eu];rfl
 have st:Own 1 h4 u n (List.replicate 1 (af x)++List.replicate (n-1) ai):=by
  have e:[af x].take n++(List.replicate n (af 0)).drop 1=List.replicate 1 (af x)++List.replicate (n-1) ai:=by
   rw[eS (by simpa using hn),Wg];rfl
  rw[←e];exact o4
 refine dw (λd G h'=>∃m:Nat,d=n-m∧G=[af (m:Int)]∧1≤m∧m≤n∧Ext h2 h'∧Own 1 h' u n (List.replicate m (af x)++List.replicate (n-m) ai)) (n-1) ⟨1,rfl,rfl,bU _,hn,E4,st⟩ ?_;rintro d G ρj3 h5 again ⟨m,rfl,rfl,ar,ab,E5,W⟩ U;simp only[gX,e3,aj,cq];refine ao (λh0=>?_) (λh0=>?_)
 ·refine aP (λh'=>h'=h5) rfl ?_;obtain⟨w,w1,I,w3⟩:=O9 1 W (k:=.i64) (hi:=m) ab;have I:SlC 1 h5 w m (List.replicate m (af x)):=by
   have e:(List.replicate m (af x)++List.replicate (n-m) (af 0)).take (m*1)=List.replicate m (af x):=by
    rw[lX,RK (by simp),eS (by simp)]
   rw[e]at I;exact I
  obtain⟨d,d1,d2⟩:=ZD W (show m<n by omega) I (λy hy=>by rw[(KJ.1 hy).2];rfl) (kk:=.i64);rw[d1,aj,w1,aj];refine d2 _ λh6 o6 f6=>?_
  have A:Nat.min m (n-m)=min m (n-m):=rfl;rw[A,du,aj,w64 ae ae,show(m:Int)+((min m (n-m):Nat):Int)=((m+min m (n-m):Nat):Int)by omega];refine U _ h6 (n-(m+min m (n-m))) ae ⟨m+min m (n-m),rfl,rfl,ae,ae,E5.then_fr f6 f,?_⟩;have e:(List.replicate m (af x)++List.replicate (n-m) (af 0)).take m++(List.replicate m (af x)).take (n-m)++(List.replicate m (af x)++List.replicate (n-m) (af 0)).drop (m+m)
    =List.replicate (m+min m (n-m)) (af x)++List.replicate (n-(m+min m (n-m))) ai:=by
   rw[RK (by simp),eS (by simp),List.take_replicate,RJ,qp (by simp),fB,Wg,vv,List.replicate_append_replicate,Nat.min_comm]
   congr 2;omega
  rw[←e];exact o6
 ·have:m=n:=ae;subst this;refine⟨V0 ?_,E5,f⟩;rw[vv,←YL];simpa using W
def uu (r:Int):Prop:=r<0∨511<r
instance (r:Int):Decidable (uu r):=by unfold uu;infer_instance
def P8 (r:Int):Int:=if uu r then 7 else AK (List.replicate (2*r+1).toNat 1)
def yx (r:Int):List Int:=if uu r then[]else rk (List.replicate (2*r+1).toNat 1)
theorem P7 (r:Int):∀x∈yx r,I64 x:=by
 unfold yx;split
 ·simp
 ·exact Im _
theorem zc4 {h:ah}{r:Int}(hr:I64 r):ag prog Ci #[af r] h λw h'=>∃u,w=.tuple #[u,af (P8 r)]∧New (Rp.int .i64) h h' u (yx r):=by
 apply Qz;unfold FL
 try simp only[go_sem]
 unfold P8 yx;refine ao (λh0=>?_) (λh0=>?_)
 ·have:uu r:=h0;rw[aA this,aA this];exact⟨_,rfl,New.nil (Ext.refl _)⟩
 ·have D:¬uu r:=h0;rw[az D,az D];refine da (Rp.fill_one rfl) λb h1 r1 F U=>?_
  rw[w64 (n:=2*r) ae ae]
  try simp only[go_sem]
  rw[w64 (n:=2*r+1) ae ae];have H:SlI (λ_=>True) h1 (.slice (some ⟨b,0,none⟩) 1 1) [1]:=⟨[af 1],Rp.SlC.single (cs:=[af 1]) r1,λ_ _ _=>trivial,λi hi=>by
   have:i=0:=by simpa using hi
   subst this;rfl⟩
  obtain⟨N,I⟩:∃N:Nat,N=(2*r+1).toNat:=⟨_,rfl⟩
  rw[←I,show 2*r+1=(N:Int)by omega];refine(Ym H (n:=N) ae ae).mono λv h2 A=>?_
  refine(Fl A.sl (λx G=>by rw[(KJ.1 G).2];unfold I64;omega) (by rw[vv];omega)).mono λw W ⟨u,e,L⟩=>?_
  subst e
  try simp only[go_sem]
  exact⟨u,rfl,L.before (F.trans A.2.1)⟩
end Go.Proofs.YtjljhnandbbldaaGreatDoor
namespace Go.Crisp
open Go
theorem gG (c:Array Value):aM c []=some c:=rfl
theorem zD {a b x y:Value}(A:aQ a=true)(D:aQ b=true):aM #[x,y] [(0,1,a),(1,1,b)]=some #[a,b]:=by
 simp only[aM,cC A,cC D];rfl
theorem WQ {a x y z w:Value}(A:aQ a=true):aM #[x,y,z,w] [(0,1,a)]=some #[a,y,z,w]:=by
 simp only[aM,cC A];rfl
def cD (ls:List (Int×List Int)):Int:=ls.foldl (λm x=>max m (x.2.length:Int)) 0
def Ln (ls:List (Int×List Int)):Int:=ls.foldl (λm x=>max m (mQ x.2)) 0
theorem EW (ls:List (Int×List Int))(x:Int×List Int):cD (ls++[x])=max (cD ls) (x.2.length:Int):=by unfold cD;rw[CJ];rfl
theorem UD (ls:List (Int×List Int))(x:Int×List Int):Ln (ls++[x])=max (Ln ls) (mQ x.2):=by unfold Ln;rw[CJ];rfl
def mh:Rp (Int×List Int) where
 w:=2
 R:=λZ h cs x=>∃v,cs=[.int .i64 x.1,v]∧Rp.Sl (Rp.int .i64) Z h v x.2
 len:=by rintro _ _ _ _ ⟨v,rfl,_⟩;rfl
 one:=by
  rintro _ _ _ _ ⟨v,rfl,H⟩ u hu;rcases List.mem_cons.1 hu with rfl|hu
  ·rfl
  ·rw[List.mem_singleton.1 hu];exact H.one
 fr:=by rintro _ _ _ _ _ _ ⟨v,rfl,H⟩ f q;exact⟨v,rfl,H.fr f q⟩
 mono:=by rintro _ _ _ _ _ ⟨v,rfl,H⟩ q;exact⟨v,rfl,H.mono q⟩
def zar (v:Value):Prop:=∃a n c,v=.slice a n c∧n≤c
theorem Rp.Ow.cap {α:Type}{e:Rp α}{Z:Nat→Prop}{h:ah}{v:Value}{l:List α}(H:Rp.Ow e Z h v l):zar v:=by
 obtain⟨ds,o,_⟩:=H;rcases o with⟨rfl,_,_⟩|⟨b,cap,r,e,rfl,hc,_⟩
 ·exact⟨_,_,_,rfl,bU _⟩
 ·exact⟨_,_,_,rfl,hc⟩
structure Tbl where
 n:Int
 lines:List (Int×List Int)
def rTbl:Rp Tbl where
 w:=4
 R:=λZ h cs t=>∃lv,cs=[.int .i64 t.n,lv,.int .i64 (cD t.lines),.int .i64 (Ln t.lines)]∧Rp.Sl mh Z h lv t.lines∧zar lv
 len:=by rintro _ _ _ _ ⟨v,rfl,_⟩;rfl
 one:=by
  rintro _ _ _ _ ⟨v,rfl,H,_⟩;exact aq rfl (aq H.one (aq rfl (aq rfl aX)))
 fr:=by rintro _ _ _ _ _ _ ⟨v,rfl,H,c⟩ f q;exact⟨v,rfl,H.fr f q,c⟩
 mono:=by rintro _ _ _ _ _ ⟨v,rfl,H,c⟩ q;exact⟨v,rfl,H.mono q,c⟩
abbrev fG (Z:Nat→Prop)(h:ah)(p:Value)(t:Tbl):Prop:=Rp.Pt rTbl Z h p t
theorem fG.open {Z:Nat→Prop}{h:ah}{p:Value}{t:Tbl}(H:fG Z h p t):∃b lv,p=.pointer (some ⟨b,0,none⟩)∧aG h ⟨b,0,none⟩=some (af t.n)∧aG h ⟨b,1,none⟩=some lv∧aG h ⟨b,2,none⟩=some (af (cD t.lines))∧
  aG h ⟨b,3,none⟩=some (af (Ln t.lines))∧Rp.Sl mh Z h lv t.lines∧Z b∧b<h.size∧zar lv:=by
 obtain⟨b,ds,ty,rfl,r,A,lv,rfl,D,hc⟩:=H;exact⟨b,lv,rfl,am r,am r,am r,am r,D,A,bB r,hc⟩
structure Ei (h0:ah)(Z:Nat→Prop)(h:ah)(b:Nat)(ty:TypeId)(lv:Value)(n:Int)(ls:List (Int×List Int)):Prop where
 ext:Ext h0 h
 row:h[b]? =some (.cells #[.int .i64 n,lv,.int .i64 (cD ls),.int .i64 (Ln ls)] ty (0,0))
 ow:Rp.Ow mh Z h lv ls
 nb:h0.size≤b
 nl:∀c,blk lv c→h0.size≤c
 zb:¬Z b
 lb:¬blk lv b
 zf:∀c,Z c→h0.size≤c∧c<h.size
theorem Ei.more {h0 h:ah}{Z Z':Nat→Prop}{b:Nat}{ty:TypeId}{lv:Value}{n:Int}{ls:List (Int×List Int)}{h':ah}(T:Ei h0 Z h b ty lv n ls)(e:Ext h h')(q:∀c,Z c→Z' c)(D:∀c,Z' c→¬Z c→h.size≤c∧c<h'.size):Ei h0 Z' h' b ty lv n ls where
 ext:=T.ext.trans e
 row:=e.row T.row
 ow:=(T.ow.ext e).mono (λc _ A=>q c A) λc hc A=>by
  by_cases h1:Z c
  ·obtain⟨ds,_,F,_⟩:=T.ow;exact F c hc h1
  ·have:=D c A h1;have:=T.ow.lt hc;omega
 nb:=T.nb
 nl:=T.nl
 zb:=λA=>by
  by_cases h1:Z b
  ·exact T.zb h1
  ·have:=D b A h1;have:=bB T.row;omega
 lb:=T.lb
 zf:=λc A=>by
  by_cases h1:Z c
  ·have:=T.zf c h1;have:=e.1;omega
  ·have:=D c A h1;have:=T.ext.1;omega
theorem Ei.done {h0 h:ah}{Z:Nat→Prop}{b:Nat}{ty:TypeId}{lv:Value}{n:Int}{ls:List (Int×List Int)}(T:Ei h0 Z h b ty lv n ls):fG (λc=>h0.size≤c∧c<h.size) h (.pointer (some ⟨b,0,none⟩)) ⟨n,ls⟩:=
 ⟨b,[_,_,_,_],ty,rfl,T.row,⟨T.nb,bB T.row⟩,lv,rfl,T.ow.sl.mono λc _ hc=>by
  rcases hc with hc|hc
  ·exact T.zf c hc
  ·exact⟨T.nl c hc,T.ow.lt hc⟩,T.ow.cap⟩
end Go.Crisp
namespace Go.Proofs.YtjljhnandbbldaaGreatDoor
open Go Go.Crisp
attribute [local irreducible] ag df aW stK aF vK qK bJ gK eK aZ mkK di Fi GM CF bsK clK
open _root_.Go.Proofs.Tryz
theorem BY {h:ah}{n:Int}:ag prog oP #[af n] h λr h'=>r=.bool (decide (1≤n∧n≤65536))∧h'=h:=by
 apply Ob;unfold Dy
 try simp only[go_sem]
 exact⟨by simp,by simp⟩
theorem Ni {h0 h:ah}{Z:Nat→Prop}{b:Nat}{ty:TypeId}{lv u:Value}{n first:Int}{ls:List (Int×List Int)}{l:List Int}(T:Ei h0 Z h b ty lv n ls)(H:SlI Z h u l)(W:∀x∈l,I64 x)(hl:l.length<1048577)(aa:ls.length≤65536):
  ag prog kM #[.pointer (some ⟨b,0,none⟩),af first,u] h λ_ h'=>∃D,Ei h0 Z h' b ty D n (ls++[(first,l)])∧Fr (λc=>c=b∨blk lv c) h h':=by
 apply EB;unfold uP;have c1:aG h ⟨b,1,none⟩=some lv:=am T.row;obtain⟨au,cu,eu⟩:=H.isSl;have U:aD u=some (af (l.length:Int)):=by rw[eu];rfl
 simp only[go_sem,c1,zD (a:=af first) (b:=u) rfl H.one,cI];refine Rp.push_ow (e:=mh) (cs:=[af first,u]) (x:=(first,l)) T.ow ⟨u,rfl,H⟩ rfl rfl ae ae (λc hc=>(T.zf c hc).2) λD h1 o1 f1 n1=>?_
 have r1:=f1.row T.row T.lb;have G:¬blk D b:=λhb=>by
  rcases n1 b hb with A|A
  ·exact T.lb A
  ·have:=bB T.row;omega
 obtain⟨al,cl,el⟩:=o1.isSl
 try simp only[go_sem]
 refine b9 r1 (by simp) (by rw[el];rfl) λA r2 u2=>?_
 have c2:aG A ⟨b,2,none⟩=some (af (cD ls)):=am r2;simp only[go_sem,c2,U];refine b9 r2 (by simp) rfl λI r3 u3=>?_
 have c3:aG I ⟨b,3,none⟩=some (af (Ln ls)):=am r3;refine aP (λh'=>h'=I) rfl ?_
 try simp only[go_sem]
 refine aC _ (λh' e=>by rw[e];exact c3) ?_;have F3:Fr (λc=>c=b∨blk lv c) h I:=((f1.mono λc _ hc=>.inr hc).trans (u2.fr.mono λc _ hc=>.inl hc)).trans (u3.fr.mono λc _ hc=>.inl hc);have H3:SlI Z I u l:=H.fr F3 λc hc F L=>by
  rcases L with rfl|L
  ·exact T.zb F
  ·obtain⟨ds,_,A,_⟩:=T.ow;exact A c L F
 refine(JR H3 W ae).mono λw h4 ⟨e4,w4⟩=>?_
 subst e4 w4;refine⟨rfl,?_⟩;refine aC _ (λh' _=>MD _ _ _) ?_;refine b9 r3 (by simp) rfl λh5 r5 u5=>?_
 have F5:=F3.trans (u5.fr.mono (M':=λc=>c=b∨blk lv c) λc _ hc=>.inl hc);refine⟨D,⟨?_,?_,?_,T.nb,?_,T.zb,G,?_⟩,F5⟩
 ·exact T.ext.then_fr F5 λc hc=>by
   rcases hc with rfl|hc
   ·exact T.nb
   ·exact T.nl c hc
 ·rw[EW,UD];simpa using r5
 ·have g:Fr (λc=>c=b) h1 h5:=(u2.fr.trans u3.fr).trans u5.fr;exact o1.fr g (λc _ F he=>T.zb (he▸F)) λc hc he=>G (he▸hc)
 ·intro c hc;rcases n1 c hc with A|A
  ·exact T.nl c A
  ·exact bh T.ext.1 A
 ·intro c F;have:=T.zf c F;have:=F5.1;omega
end Go.Proofs.YtjljhnandbbldaaGreatDoor
namespace Go.Proofs.YtjljhnandbbldaaGreatDoor
open Go Go.Crisp
attribute [local irreducible] ag df aW stK aF vK qK bJ gK eK aZ mkK di Fi GM CF bsK
open _root_.Go.Proofs.Tryz
abbrev Two (h:ah)(b:Nat)(t:TypeId)(x y:Value):Prop:=h[b]? =some (.cells #[x,y] t (0,0))
theorem Two.a {h:ah}{b:Nat}{t:TypeId}{x y:Value}(r:Two h b t x y):aG h ⟨b,0,none⟩=some x:=am r
theorem Two.b {h:ah}{b:Nat}{t:TypeId}{x y:Value}(r:Two h b t x y):aG h ⟨b,1,none⟩=some y:=am r
theorem Two.all {h:ah}{b:Nat}{t:TypeId}{x y:Value}(r:Two h b t x y):aO 2 h (.pointer (some ⟨b,0,none⟩))=some (.agg #[x,y]):=aU (l:=[x,y]) r 2 rfl
abbrev Big (h:ah)(b:Nat)(t:TypeId)(n:Nat):Prop:=Two h b t (.int .u64 ((n/18446744073709551616:Nat):Int)) (.int .u64 ((n%18446744073709551616:Nat):Int))
theorem Big.all {h:ah}{b:Nat}{t:TypeId}{n:Nat}(r:Big h b t n):aO 2 h (.pointer (some ⟨b,0,none⟩))=some (oJ n):=Two.all r
theorem ii (n:Nat):Value.cells (oJ n)=#[.int .u64 ((n/18446744073709551616:Nat):Int),.int .u64 ((n%18446744073709551616:Nat):Int)]:=rfl
theorem CH {n:Nat}(h:n<18446744073709551616):oJ n=.agg #[.int .u64 0,.int .u64 (n:Int)]:=by
 unfold oJ;rw[sO h,vy h];rfl
theorem Cw:oJ 0=.agg #[.int .u64 0,.int .u64 0]:=rfl
theorem yn:oJ 1=.agg #[.int .u64 0,.int .u64 1]:=rfl
theorem iX {t:TypeId}{b:Nat}{h:ah}{x y:Value}{n:Nat}{K:Value→ah→Prop}(r:Two h b t x y)(A:∀h',Big h' b t n→Upd b h h'→K undef h'):stK 2 (.pointer (some ⟨b,0,none⟩)) (oJ n) h K:=
 cT (l:=[.int .u64 ((n/18446744073709551616:Nat):Int),.int .u64 ((n%18446744073709551616:Nat):Int)]) r rfl (aq rfl (aq rfl aX)) rfl A
theorem kG {t:TypeId}{h:ah}{n:Nat}{K:Value→ah→Prop}(H:∀b h',Big h' b t n→Ext h h'→h.size≤b→K (.pointer (some ⟨b,0,none⟩)) h'):aW #[.int .u64 0,.int .u64 0] t h λv A=>stK 2 v (oJ n) A λ_ D=>K v D:=
 dk (cs:=[.int .u64 ((n/18446744073709551616:Nat):Int),.int .u64 ((n%18446744073709551616:Nat):Int)]) rfl (aq rfl (aq rfl aX)) rfl H
theorem kH {a b x y:Int}:aM #[(.int .u64 x),(.int .u64 y)] [(0,1,(.int .u64 a)),(1,1,(.int .u64 b))]=some #[.int .u64 a,.int .u64 b]:=zD rfl rfl
theorem zbd {b x y:Int}:aM #[(.int .u64 x),(.int .u64 y)] [(1,1,(.int .u64 b))]=some #[.int .u64 x,.int .u64 b]:=by
 simp only[aM,cC (v:=.int .u64 b) rfl];rfl
theorem bG (c:Array Value):(some c).map Value.agg=some (.agg c):=rfl
theorem Ig {n:Nat}{x y:Int}(D:x=((n/18446744073709551616:Nat):Int))(A:y=((n%18446744073709551616:Nat):Int)):(Value.agg #[.int .u64 x,.int .u64 y])=oJ n:=by rw[D,A];rfl
theorem nB {h:ah}{n bit:Nat}(hb:bit≤1)(hn:2*n+bit<340282366920938463463374607431768211456):
  ag prog fi #[oJ n,.int .u64 (bit:Int)] h λr h'=>r=oJ (2*n+bit)∧Ext h h':=by
 apply L4;unfold AT;rw[ii];refine aI λI h1 r1 A L=>?_
 refine aI λb2 W r2 D G=>?_
 have r1:=D.row r1;simp only[go_sem,Two.a r1,Two.b r1];rw[show(1:Int)=((1:Nat):Int)from rfl,show(63:Int)=((63:Nat):Int)from rfl,wm _ ae,aj,mB _ ae,aj,du,aj,wm _ ae,aj,du,aj,kH,bG,aj];rw[Ig (n:=2*n+bit) (by rw[eZ];omega) (by rw[eZ];omega)];refine iX r2 λU H F=>?_
 rw[H.all,aj];exact⟨rfl,(A.trans D).upd (bh A.1 G) F⟩
theorem B9 {h:ah}{m n:Nat}(hn:m+n<340282366920938463463374607431768211456):
  ag prog iO #[oJ m,oJ n] h λr h'=>r=oJ (m+n)∧Ext h h':=by
 apply Ou;unfold DN;rw[ii,ii];refine aI λb1 h1 r1 I n1=>?_
 refine aI λb2 h2 r2 G n2=>?_
 refine aI λb3 h3 A F n3=>?_
 have r1:=(G.trans F).row r1;have r2:=F.row r2;have l3:=bB A;simp only[go_sem,Two.a r1,Two.b r1,Two.a r2,Two.b r2];rw[kH,bG,aj];refine aI λb4 h4 r4 e4 n4=>?_
 refine cT (l:=[_,_]) r4 rfl (aq rfl (aq rfl aX)) rfl λh5 D u5=>?_
 have U:=e4.upd n4 u5;have r1:=U.row r1;have A:=U.row A;simp only[eZ]at D;simp only[go_sem,Two.a D,Two.b D,Two.b r1,eZ];have e0:=I.trans (G.trans (F.trans U));have k3:h.size≤b3:=bh (I.trans G).1 n3;have k4:h.size≤b4:=bh (I.trans (G.trans F)).1 n4;have L:b3≠b4:=ae;refine ao (λhc=>?_) (λhc=>?_)
 ·refine b9 D (by simp) rfl λh6 r6 u6=>?_
  have A:=u6.row L A;have r6:Two h6 b4 _ (.int .u64 _) (.int .u64 _):=r6;rw[Two.all r6,aj];rw[Ig (n:=m+n) ae ae];refine iX A λh7 W H=>?_
  rw[W.all,aj];exact⟨rfl,(e0.upd k4 u6).upd k3 H⟩
 ·rw[Two.all D,aj];rw[Ig (n:=m+n) ae ae];refine iX A λh7 W H=>?_
  rw[W.all,aj];exact⟨rfl,e0.upd k3 H⟩
theorem PP {h:ah}{m n:Nat}(hm:m<340282366920938463463374607431768211456)(hn:n≤m):
  ag prog qW #[oJ m,oJ n] h λr h'=>r=oJ (m-n)∧Ext h h':=by
 apply L7;unfold AW;rw[ii,ii];refine aI λb1 h1 r1 L n1=>?_
 refine aI λb2 h2 r2 G n2=>?_
 refine aI λb3 h3 A F n3=>?_
 have r1:=(G.trans F).row r1;have r2:=F.row r2;have l3:=bB A;simp only[go_sem,Two.a r1,Two.b r1,Two.a r2,Two.b r2];rw[kH,bG,aj];refine aI λb4 h4 r4 e4 n4=>?_
 refine cT (l:=[_,_]) r4 rfl (aq rfl (aq rfl aX)) rfl λh5 D u5=>?_
 have H:=e4.upd n4 u5;have r1:=H.row r1;have r2:=H.row r2;have A:=H.row A;simp only[eZ]at D;simp only[go_sem,Two.a D,Two.b D,Two.b r1,Two.b r2,eZ];have e0:=L.trans (G.trans (F.trans H));have k3:h.size≤b3:=bh (L.trans G).1 n3;have k4:h.size≤b4:=bh (L.trans (G.trans F)).1 n4;have U:b3≠b4:=ae;refine ao (λhc=>?_) (λhc=>?_)
 ·refine b9 D (by simp) rfl λh6 r6 u6=>?_
  have A:=u6.row U A;have r6:Two h6 b4 _ (.int .u64 _) (.int .u64 _):=r6;rw[Two.all r6,aj];rw[Ig (n:=m-n) ae ae];refine iX A λh7 W I=>?_
  rw[W.all,aj];exact⟨rfl,(e0.upd k4 u6).upd k3 I⟩
 ·rw[Two.all D,aj];rw[Ig (n:=m-n) ae ae];refine iX A λh7 W I=>?_
  rw[W.all,aj];exact⟨rfl,e0.upd k3 I⟩
theorem Ca {h:ah}{m n:Nat}:ag prog jY #[oJ m,oJ n] h λr h'=>r=.bool (decide (m<n))∧Ext h h':=by
 apply Ox;unfold DP;rw[ii,ii];refine aI λG h1 r1 D H=>?_
 refine aI λI F r2 A L=>?_
 have r1:=A.row r1;simp only[go_sem,Two.a r1,Two.b r1,Two.a r2,Two.b r2];refine ao (λhc=>?_) (λhc=>?_)
 ·exact⟨by congr 1;exact gE.2 ae,D.trans A⟩
 ·exact⟨by congr 1;exact gE.2 ae,D.trans A⟩
theorem Ji {a:Nat}(A:a<18446744073709551616):ak .i .and (.int .u64 (a:Int)) (.int .u64 1)=some (.int .u64 ((a%2:Nat):Int)):=by
 have:=Si A (b:=1) ae;rw[Hl]at this;exact this
theorem C6 {h:ah}{m i:Nat}(L:m<340282366920938463463374607431768211456)(hi:i<128):ag prog iP #[oJ m,af (i:Int)] h λr h'=>r=.int .u64 ((m/2^i%2:Nat):Int)∧Ext h h':=by
 apply QM;unfold FX;rw[ii];refine aI λH h1 r1 D I=>?_
 simp only[go_sem,Two.a r1,Two.b r1];refine ao (λhc=>?_) (λhc=>?_)
 ·rw[w64 (n:=(i:Int)-64) ae ae,show(i:Int)-64=((i-64:Nat):Int)by omega,mB _ ae,aj];rw[Ji (sP (jy _ _) ae),aj];refine⟨?_,D⟩;have e:m/2^i=m/18446744073709551616/2^(i-64):=by
   rw[Hf,show(18446744073709551616:Nat)=2^64 from rfl,←vx,show 64+(i-64)=i by omega]
  rw[e]
 ·rw [mB _ ae,aj];rw[Ji (sP (jy _ _) (gT _ ae)),aj];refine⟨?_,D⟩;have G:(0:Nat)<2^i:=wV ae;have A:(18446744073709551616:Nat)=2^i*(2*2^(63-i)):=by rw[←Rs,←vx,show i+(63-i+1)=64 by omega]
  have D:m/2^i=m/18446744073709551616*(2*2^(63-i))+m%18446744073709551616/2^i:=by
   have e:=mW m 18446744073709551616;have F:m=m%18446744073709551616+2^i*(m/18446744073709551616*(2*2^(63-i))):=by
    have:2^i*(m/18446744073709551616*(2*2^(63-i)))=18446744073709551616*(m/18446744073709551616):=by
     conv=>rhs;rw[A]
     rw[CN,eO,←A]
    rw[this];omega
   conv=>lhs;rw[F]
   rw[Hd _ _ G,CR]
  rw[D,CN,KI]
theorem sb {h:ah}{x:Int}(A:I64 x):ag prog gh #[af x] h λr h'=>r=.int .u64 (x.natAbs:Int)∧h'=h:=by
 apply Ot;unfold DM;simp only[go_sem,eZ,iW];unfold I64 at A;refine ao (λh0=>?_) (λh0=>?_)
 ·exact⟨by congr 1;omega,trivial⟩
 ·exact⟨by congr 1;omega,trivial⟩
theorem oG {h:ah}{m:Nat}{b:Bool}(G:m<340282366920938463463374607431768211456):ag prog dK #[oJ m,.bool b] h λr h'=>r=af (jK m b)∧Ext h h':=by
 apply Oy;unfold DQ;rw[ii];refine aI λD h1 r1 A F=>?_
 unfold jK;cases b
 ·simp only[go_sem,Two.a r1,Two.b r1,gF,cF];refine ao (λh0=>?_) (λh0=>?_)
  ·rw[aA ae];exact⟨rfl,A⟩
  ·rw[az ae,w64 ae ae];exact⟨by congr 1;omega,A⟩
 ·simp only[go_sem,Two.a r1,Two.b r1,cJ];refine ao (λh0=>?_) (λh0=>?_)
  ·rw[aA ae];exact⟨rfl,A⟩
  ·rw[w64 (n:=((m%18446744073709551616:Nat):Int)) ae ae,w64 ae ae];refine⟨?_,A⟩
   congr 1
   split<;>omega
theorem GQ {a b:Nat}(D:a<18446744073709551616)(A:b<18446744073709551616):a*b<340282366920938463463374607431768211456:=by
 have:=Nat.mul_lt_mul'' D A;exact this
theorem PO {h:ah}{a b:Nat}(L:a<18446744073709551616)(I:b<18446744073709551616):
  ag prog qV #[.int .u64 (a:Int),.int .u64 (b:Int)] h λr h'=>r=oJ (a*b)∧Ext h h':=by
 apply L5;unfold AU;refine aI λb1 h1 r1 e1 n1=>?_
 have l1:=bB r1;rw[aM,bG,aj,←Cw];refine kG (n:=0) λb2 h2 r2 e2 n2=>?_
 refine bH (α:=Unit) 64 0 (λi _=>[af (63-(i:Int))]) (λi _ h'=>Big h' b2 351 (a*(b/2^(64-i)))∧Ext h1 h') () rfl ae ⟨by rw[sO I];exact r2,e2⟩ λi _ h3 again ρj _ hi ⟨D,U⟩ H=>?_
 simp only[go_sem];have aa:b/2^(64-i)≤b:=jy _ _;have hm:=GQ L (sP aa I);refine ao (λh0=>?_) (λh0=>?_)
 ·have hi:i<64:=ae;have hv:=TC b (63-i);rw[show 63-i+1=64-i by omega]at hv;have F:a*(b/2^(63-i))=2*(a*(b/2^(64-i)))+a*(b/2^(63-i)%2):=by
   conv=>lhs;rw[hv]
   rw[He,CN]
  have G:=GQ L (sP (jy b (2^(63-i))) I);have H:=λh'=>H () h' hi
  rw[show 64-(i+1)=63-i by omega,F]at H;rw[F]at G;generalize a*(b/2^(64-i))=p at*;rw[D.all,aj];refine(nB (n:=p) (bit:=0) ae ae).mono λv h4 ⟨e,e4⟩=>?_
  subst e;have D:=e4.row D;refine iX D λh5 W u5=>?_
  have e5:Ext h1 h5:=(U.trans e4).upd n2 u5;rw[show(63:Int)-(i:Int)=((63-i:Nat):Int)by omega,mB _ ae,aj];rw[Ji (sP (jy _ _) I),aj,mu,aj];refine ao (λA=>?_) (λA=>?_)
  ·have A:b/2^(63-i)%2=1:=ae;rw[A,lX]at G H;rw[W.all,aj,kH,bG,aj,←CH L];refine(B9 (m:=2*p+0) (n:=a) ae).mono λv A ⟨e,e6⟩=>?_
   subst e;refine iX (e6.row W) λh7 r7 u7=>?_
   rw[w64 ae ae];have:=H h7 ⟨r7,(e5.trans e6).upd n2 u7⟩;rw[show(63:Int)-((i+1:Nat):Int)=((63-i:Nat):Int)-1 by omega]at this;exact this
  ·have A:b/2^(63-i)%2=0:=ae;rw[A,Nat.mul_zero]at H;rw[w64 ae ae];have:=H h5 ⟨W,e5⟩;rw[show(63:Int)-((i+1:Nat):Int)=((63-i:Nat):Int)-1 by omega]at this;exact this
 ·have:i=64:=ae;subst this;rw[show b/2^(64-64)=b by simp]at D;rw[D.all,aj];refine iX (U.row r1) λh4 r4 u4=>?_
  rw[r4.all,aj];exact⟨rfl,(e1.trans U).upd n1 u4⟩
theorem T8 {h:ah}{m d:Nat}(hm:m<340282366920938463463374607431768211456)(hd:d<18446744073709551616)(ab:0<d):
  ag prog uF #[oJ m,.int .u64 (d:Int)] h λr h'=>r=.tuple #[oJ (m/d),.int .u64 ((m%d:Nat):Int)]∧Ext h h':=by
 apply Ov;unfold DO;rw[ii];refine aI λb1 h1 r1 e1 n1=>?_
 refine aI λb2 h2 r2 e2 n2=>?_
 have r1:=e2.row r1;have l1:=bB r1;have l2:=bB r2;rw[aM,bG,aj,←Cw];refine kG (n:=0) λb3 h3 A e3 n3=>?_
 have l3:=bB A;rw[aj];refine kG (n:=0) λb4 h4 D e4 n4=>?_
 rw[mu,aj,show decide ((d:Int)=0)=false from cB ae,cK];have au:Ext h h4:=e1.trans (e2.trans (e3.trans e4));have k2:h.size≤b2:=bh e1.1 n2;have k3:h.size≤b3:=bh (e1.trans e2).1 n3;have k4:h.size≤b4:=bh (e1.trans (e2.trans e3)).1 n4;refine bH (α:=Unit) 128 0 (λi _=>[af (127-(i:Int))]) (λi _ h'=>Big h' b1 351 m∧Two h' b2 351 (.int .u64 0) (.int .u64 0)∧Big h' b3 351 (m/2^(128-i)/d)∧Big h' b4 351 (m/2^(128-i)%d)∧Ext h h')
  () rfl ae ?_ λi _ h5 again ρj _ hi ⟨r1,r2,A,D,e5⟩ H=>?_
 ·have q:m/2^(128-0)=0:=sO (bT hm (by decide));rw[q,Nat.zero_div,Nat.zero_mod];exact⟨(e3.trans e4).row r1,(e3.trans e4).row r2,e4.row A,D,au⟩
 simp only[go_sem];have hr:m/2^(128-i)%d<d:=gT _ ab;refine ao (λh0=>?_) (λh0=>?_)
 ·have hi:i<128:=ae;have H:=λh'=>H () h' hi
  have hv:=TC m (127-i);rw[show 127-i+1=128-i by omega]at hv;rw[show 128-(i+1)=127-i by omega]at H;have hb:m/2^(127-i)%2≤1:=ae;have hs:=XA (n:=m/2^(128-i)) ab rfl rfl hb;rw[←hv]at hs;rw[hs.1,hs.2]at H;have hq:2*(m/2^(128-i)/d)+(if d≤2*(m/2^(128-i)%d)+m/2^(127-i)%2 then 1 else 0)<340282366920938463463374607431768211456:=by
   rw[←hs.1];exact sP (bh (jy _ _) (jy _ _)) hm
  rw[show(127:Int)-((i+1:Nat):Int)=((127-i:Nat):Int)-1 by omega]at H;rw[show(127:Int)-(i:Int)=((127-i:Nat):Int)by omega];have ad:∀h',ag prog iP #[oJ m,af ((127-i:Nat):Int)] h' λr aw=>r=.int .u64 ((m/2^(127-i)%2:Nat):Int)∧Ext h' aw:=λh'=>C6 hm ae
  generalize m/2^(127-i)%2=bit at*;generalize m/2^(128-i)/d=q at*;generalize m/2^(128-i)%d=r at*;refine aP (Ext h5) (Ext.refl _) ?_;refine aC _ (λh' e=>Big.all (e.row D)) ?_;refine aC _ (λh' e=>Big.all (e.row r1)) ?_;refine(ad h5).mono λv h6 ⟨e,e6⟩=>?_
  subst e;refine⟨e6,?_⟩;refine(nB (n:=r) (bit:=bit) hb ae).mono λv h7 ⟨e,e7⟩=>?_
  subst e;have I:=e6.trans e7;refine iX (I.row D) λh8 D u8=>?_
  have r1:=u8.row ae (I.row r1);have r2:=u8.row ae (I.row r2);have A:=u8.row ae (I.row A);have e8:=(e5.trans I).upd k4 u8;rw[Big.all A,aj];refine(nB (n:=q) (bit:=0) ae ae).mono λv h9 ⟨e,e9⟩=>?_
  subst e;refine iX (e9.row A) λa8 A L=>?_
  have r1:=L.row ae (e9.row r1);have r2:=L.row ae (e9.row r2);have D:=L.row ae (e9.row D);have ax:=(e8.trans e9).upd k3 L;rw[Big.all D,aj,kH,bG,aj,←CH hd];refine Ca.mono λv an ⟨e,G⟩=>?_
  subst e;have r1:=G.row r1;have r2:=G.row r2;have A:=G.row A;have D:=G.row D;have aa:=ax.trans G;rw[VP,aj,WT];refine ao (λhc=>?_) (λhc=>?_)
  ·rw[aA ae,aA ae]at H;rw[aA ae]at hq;rw[Big.all D,aj,aj];refine(PP (m:=2*r+bit) (n:=d) ae ae).mono λv ay ⟨e,F⟩=>?_
   subst e;refine iX (F.row D) λa7 D W=>?_
   have r1:=W.row ae (F.row r1);have r2:=W.row ae (F.row r2);have A:=W.row ae (F.row A);have ar:=(aa.trans F).upd k4 W;simp only[go_sem,Two.b A];refine b9 A (by simp) rfl λal A U=>?_
   have A:Two al b3 _ (.int .u64 _) (.int .u64 _):=A;have r1:=U.row ae r1;have r2:=U.row ae r2;have D:=U.row ae D;rw[w64 ae ae];refine H al ⟨r1,r2,?_,D,ar.upd k3 U⟩;have a1:(((2*q+0)/18446744073709551616:Nat):Int)=(((2*q+1)/18446744073709551616:Nat):Int):=ae;have a2:IntKind.u64.wrap ((((2*q+0)%18446744073709551616:Nat):Int)+1)=(((2*q+1)%18446744073709551616:Nat):Int):=by rw[eZ];omega
   rw[a1,a2]at A;exact A
  ·rw[az ae,az ae]at H;rw[w64 ae ae];exact H an ⟨r1,r2,A,D,aa⟩
 ·have:i=128:=ae;subst this;rw[show m/2^(128-128)=m by simp]at A D hr;refine aP (λh'=>Two h' b4 351 (.int .u64 ((m%d/18446744073709551616:Nat):Int)) (.int .u64 ((m%d%18446744073709551616:Nat):Int))∧(Big h' b3 351 (m/d))) ⟨D,A⟩ ?_;refine aC _ (λh' e=>Big.all e.2) ?_;simp only[go_sem];refine aC _ (λh' e=>Two.b e.1) ?_;refine iX r2 λh6 r6 u6=>?_
  refine⟨⟨u6.row ae D,u6.row ae A⟩,?_⟩;rw[r6.all,aj];refine⟨?_,e5.upd k2 u6⟩;rw[vy (Nat.lt_trans hr hd)]
end Go.Proofs.YtjljhnandbbldaaGreatDoor
namespace Go.Crisp
def upS (m n:Nat)(below:Bool):Bool:=if below then decide (2^(n-1)<m%2^n)else decide (2^(n-1)≤m%2^n)
theorem Xt {x:Int}{n:Nat}(hx:I64 x)(h1:1≤n)(h2:n≤64):
  jK (x.natAbs/2^n+(if upS x.natAbs n (decide (x<0))then 1 else 0)) (decide (x<0))=nM x n:=by
 obtain⟨b1,b2⟩:=hx;have aa:(0:Nat)<2^(n-1):=wV ae;have hp:2^n=2*2^(n-1):=by
  obtain⟨j,rfl⟩:∃j,n=j+1:=⟨n-1,ae⟩
  rw[zh,KT,eO]
 have W:(2:Int)^n=2*((2^(n-1):Nat):Int):=by
  rw[show(2:Int)^n=((2^n:Nat):Int)by simp,hp];simp
 have L:(2:Int)^(n-1)=((2^(n-1):Nat):Int):=by simp
 have H:64≤n→9223372036854775808≤2^(n-1):=λh=>by rw[show n=64 by omega];decide
 have hq:x.natAbs/2^n≤4611686018427387904:=by
  rw[hp];refine bh (Rq (c:=2) ae ae) ?_;omega
 have hs:nM x n=if(64:Int)≤n then 0 else x/2^n+x/2^(n-1)%2:=by
  unfold nM;rw[az ae,eT]
 rw[hs,W,L];unfold upS;have hm:=mW x.natAbs (2^n);have hr:=gT x.natAbs (show 0<2^n by omega);rw[hp]at hm hr hq ⊢;generalize ad:x.natAbs/(2*2^(n-1))=q at*;generalize ab:x.natAbs%(2*2^(n-1))=r at*;generalize 2^(n-1)=p at*;have U:(2*p)*q=2*(p*q):=uh _ _ _;rw[U]at hm;have ci:((p*q:Nat):Int)=(p:Int)*q:=lV _ _;by_cases G:x<0
 ·rw [cP G];simp only[cJ,dS];unfold jK
  try simp only[cJ]
  by_cases D:(64:Int)≤n
  ·rw[aA D];have:=H ae;have I:q=0:=by
    rcases w8 q with h|h
    ·exact h
    ·have:=We p h;omega
   subst I;rw[az (show¬p<r by omega),az ae];rfl
  ·rw [az D,az (by split<;>omega)];by_cases al:r=0
   ·have e:x=0+2*(p:Int)*(-(q:Int)):=by rw[oB,zc];omega
    have F:x=0+(p:Int)*(-(2*(q:Int))):=by rw[zc,CL];omega
    have d1:x/(2*(p:Int))= -(q:Int):=by
     conv=>lhs;rw[e]
     rw[ug _ _ ae];simp
    have d2:x/(p:Int)= -(2*(q:Int)):=by
     conv=>lhs;rw[F]
     rw[ug _ _ ae];simp
    rw[d1,d2];rw[az ae];omega
   ·have e:x=(2*p-r:Int)+2*(p:Int)*(-(q:Int)-1):=by rw[oB,Ro,zc];omega
    have d1:x/(2*(p:Int))= -(q:Int)-1:=by
     conv=>lhs;rw[e]
     rw[ug _ _ ae,qQ ae ae];simp
    by_cases A:p<r
    ·have F:x=(2*p-r:Int)+(p:Int)*(2*(-(q:Int)-1)):=by rw[CL,Ro,zc];omega
     have d2:x/(p:Int)=2*(-(q:Int)-1):=by
      conv=>lhs;rw[F]
      rw[ug _ _ ae,qQ ae ae];simp
     rw[d1,d2,aA A];omega
    ·have F:x=(p-r:Int)+(p:Int)*(2*(-(q:Int)-1)+1):=by rw[GZ,CL,Ro,zc];omega
     have d2:x/(p:Int)=2*(-(q:Int)-1)+1:=by
      conv=>lhs;rw[F]
      rw[ug _ _ ae,qQ ae ae];simp
     rw[d1,d2,az A];omega
 ·rw [cB G];simp only[gF,cF,dS];unfold jK
  try simp only[gF,cF]
  rw[az (by split<;>omega)];by_cases D:(64:Int)≤n
  ·rw[aA D];have:=H ae;have I:q=0:=by
    rcases w8 q with h|h
    ·exact h
    ·have:=We p h;omega
   subst I;rw[az ae];rfl
  ·rw[az D];have e:x=(r:Int)+2*(p:Int)*(q:Int):=by rw[oB];omega
   have d1:x/(2*(p:Int))=(q:Int):=by
    conv=>lhs;rw[e]
    rw[ug _ _ ae,qQ ae ae];simp
   by_cases A:p≤r
   ·have F:x=(r-p:Int)+(p:Int)*(2*(q:Int)+1):=by rw[GZ,CL];omega
    have d2:x/(p:Int)=2*(q:Int)+1:=by
     conv=>lhs;rw[F]
     rw[ug _ _ ae,qQ ae ae];simp
    rw[d1,d2,aA A];omega
   ·have F:x=(r:Int)+(p:Int)*(2*(q:Int)):=by rw[CL];omega
    have d2:x/(p:Int)=2*(q:Int):=by
     conv=>lhs;rw[F]
     rw[ug _ _ ae,qQ ae ae];simp
    rw[d1,d2,az A];omega
theorem Xy (m n i:Nat):m%2^n+m/2^i*2^i=m%2^n+m/2^(i+1)*2^(i+1)+m/2^i%2*2^i:=by
 have:=TC m i
 conv=>lhs;rw[this]
 rw[ef,KT,uh 2,CN 2,eO 2];omega
theorem Y4 (m i:Nat):m%2^(i+1)=m%2^i+m/2^i%2*2^i:=by
 rw[KT,Nat.mod_mul,eO]
end Go.Crisp
namespace Go.Proofs.YtjljhnandbbldaaGreatDoor
open Go Go.Crisp
attribute [local irreducible] ag df aW stK aF vK qK bJ gK eK aZ mkK di Fi GM CF bsK
open _root_.Go.Proofs.Tryz
theorem T9 {h:ah}{m d:Nat}{bl:Bool}(hm:m<340282366920938463463374607431768211456)(hd:d<18446744073709551616)(F:0<d):
  ag prog te #[oJ m,.int .u64 (d:Int),.bool bl] h λr h'=>r=af (jK (wR m d bl) bl)∧Ext h h':=by
 apply IH;unfold yd;rw[ii];refine aI λb1 h1 r1 e1 n1=>?_
 rw[Big.all r1,aj];refine(T8 hm hd F).mono λv h2 ⟨e,e2⟩=>?_
 subst e;simp only[go_sem];refine kG (n:=m/d) λb2 h3 L e3 n3=>?_
 have hr:m%d<d:=gT _ F;rw[kH,bG,aj,←CH (n:=m%d) ae];refine(nB (n:=m%d) (bit:=0) ae ae).mono λv h4 ⟨e,e4⟩=>?_
 subst e;refine kG (n:=2*(m%d)+0) λb3 h5 r5 e5 n5=>?_
 rw[Big.all r5,aj,kH,bG,aj,←CH hd];refine Ca.mono λv h6 ⟨e,U⟩=>?_
 subst e;have H:Ext h h6:=e1.trans (e2.trans (e3.trans (e4.trans (e5.trans U))));have r2:=(e4.trans (e5.trans U)).row L;have L:=U.row r5;have k2:h.size≤b2:=bh (e1.trans e2).1 n3;simp only[go_sem];have hq:m/d≤m:=jy _ _;have A:d≤2*(m%d)→m/d+1<340282366920938463463374607431768211456:=λhh=>by
  have:=Rq (a:=m) (c:=2) (b:=d) ae ae;omega
 refine bi (λxs h'=>xs=[.bool (if bl then decide (d<2*(m%d))else decide (d≤2*(m%d)))]∧Ext h h'∧Big h' b2 351 (m/d)) ?_ ?_
 ·cases bl
  ·rw[cK];refine⟨?_,H,r2⟩
   congr 2
   simp only[gF,cF];exact gE.2 ae
  ·rw[iI];rw[Big.all L];simp only[go_sem];refine Ca.mono λv h7 ⟨e,G⟩=>?_
   subst e;exact⟨by simp only[cJ,iE],H.trans G,G.row r2⟩
 ·rintro xs ρj h7 ⟨rfl,G,W⟩;simp only[go_sem];refine jU (λhc=>?_) (λhc=>?_)
  ·have hn:wR m d bl=m/d+1:=by
    unfold wR;cases bl
    ·simp only[gF,cF,dS]at hc ⊢;rw[aA hc]
    ·simp only[cJ,dS]at hc ⊢;rw[aA hc]
   have A:=A (by
    cases bl
    ·simp only[gF,cF,dS]at hc;exact hc
    ·simp only[cJ,dS]at hc;omega)
   rw[Big.all W,aj,kH,bG,aj,←yn];refine(B9 (m:=m/d) (n:=1) A).mono λv h8 ⟨e,e8⟩=>?_
   subst e;refine iX (e8.row W) λh9 r9 u9=>?_
   rw[r9.all,aj];refine(oG (m:=m/d+1) (b:=bl) A).mono λv I ⟨e,D⟩=>?_
   exact⟨by rw[e,hn],((G.trans e8).upd k2 u9).trans D⟩
  ·have hn:wR m d bl=m/d:=by
    unfold wR;cases bl
    ·simp only[gF,cF,G0]at hc ⊢;rw[az hc];rfl
    ·simp only[cJ,G0]at hc ⊢;rw[az hc];rfl
   rw[Big.all W,aj];refine(oG (m:=m/d) (b:=bl) ae).mono λv I ⟨e,D⟩=>?_
   exact⟨by rw[e,hn],G.trans D⟩
theorem VG (a b:Int):(!(decide (a<0)==decide (b<0)))=kI a b:=rfl
theorem PQ {h:ah}{a b:Int}(L:I64 a)(U:I64 b):ag prog qX #[af a,af b] h λr h'=>r=af (IY a b)∧Ext h h':=by
 apply L8;unfold AX;simp only[go_sem];unfold IY;refine ao (λh0=>?_) (λh0=>?_)
 ·rw[aA h0];exact⟨rfl,Ext.refl _⟩
 rw[az h0];have ab:=qh L;have aa:=qh U;refine(sb L).mono λv1 h1 ⟨G,w1⟩=>?_
 subst G w1;rw[kH,bG,aj,←CH (n:=a.natAbs) ae];refine(sb U).mono λv1 h1 ⟨G,w1⟩=>?_
 subst G w1;refine(T8 (m:=a.natAbs) (d:=b.natAbs) ae ae ae).mono λv h2 ⟨e,W⟩=>?_
 subst e;simp only[go_sem];refine kG (n:=a.natAbs/b.natAbs) λb2 h3 H e3 n3=>?_
 have hq:a.natAbs/b.natAbs≤a.natAbs:=jy _ _;simp only[go_sem,VG];have D:=W.trans e3;have k2:=bh W.1 n3;by_cases hd:kI a b=true∧0<a.natAbs%b.natAbs
 ·have q:(kI a b&&decide ((0:Int)<((a.natAbs%b.natAbs:Nat):Int)))=true:=by rw[hd.1,cP ae];rfl
  rw[q,iI];unfold Fg;rw[aA ⟨hd.1,ae⟩];rw[Big.all H,aj,kH,bG,aj,←yn];refine(B9 (m:=a.natAbs/b.natAbs) (n:=1) ae).mono λv h8 ⟨e,I⟩=>?_
  subst e;refine iX (I.row H) λh9 r9 u9=>?_
  rw[r9.all,aj];refine(oG (m:=a.natAbs/b.natAbs+1) (b:=kI a b) ae).mono λv F ⟨e,A⟩=>?_
  exact⟨e,((D.trans I).upd k2 u9).trans A⟩
 ·have q:(kI a b&&decide ((0:Int)<((a.natAbs%b.natAbs:Nat):Int)))=false:=by
   rw[←Bool.not_eq_true,dh,dS];rintro⟨x,y⟩;exact hd ⟨x,ae⟩
  rw[q,cK];unfold Fg;rw[az (by rintro⟨x,y⟩;exact hd ⟨x,ae⟩)];rw[Big.all H,aj];refine(oG (m:=a.natAbs/b.natAbs) (b:=kI a b) ae).mono λv F ⟨e,A⟩=>?_
  exact⟨e,D.trans A⟩
theorem jc {h:ah}{a b d:Int}(I:I64 a)(U:I64 b)(hd:I64 d):ag prog dj #[af a,af b,af d] h λr h'=>r=af (cS a b d)∧Ext h h':=by
 apply Kn;unfold Ak;simp only[go_sem];unfold cS;refine ao (λh0=>?_) (λh0=>?_)
 ·rw[aA h0];exact⟨rfl,Ext.refl _⟩
 rw[az h0];have D:=js I;have A:=js U;have G:=js hd;refine(sb I).mono λL h1 ⟨F,w1⟩=>?_
 subst F w1;refine(sb U).mono λL h1 ⟨F,w1⟩=>?_
 subst F w1;refine(PO D A).mono λv h2 ⟨e,e2⟩=>?_
 subst e;refine kG (n:=a.natAbs*b.natAbs) λb2 W r3 e3 n3=>?_
 simp only[go_sem,VG];refine aP (Ext W) (Ext.refl _) ?_;refine aC _ (λh' e=>Big.all (e.row r3)) ?_;refine(sb hd).mono λL h4 ⟨e4,w4⟩=>?_
 subst e4 w4;refine⟨Ext.refl _,?_⟩;refine(T9 (bl:= !(kI a b==decide (d<0))) (GQ D A) G ae).mono λv aa ⟨e,H⟩=>?_
 refine⟨?_,e2.trans (e3.trans H)⟩;rw[e];rfl
theorem Lg {i:Nat}(h:i<128):2^i<340282366920938463463374607431768211456:=by
 have:=Nat.pow_lt_pow_right (a:=2) ae h;exact this
theorem Ja {h:ah}{x n:Int}(hx:I64 x)(hn:I64 n):ag prog mx #[af x,af n] h λr h'=>r=af (nM x n)∧Ext h h':=by
 apply L6;unfold AV;simp only[go_sem];refine ao (λh0=>?_) (λh0=>?_)
 ·unfold nM;rw[aA ae];exact⟨rfl,Ext.refl _⟩
 refine ao (λh1=>?_) (λh1=>?_)
 ·unfold nM;rw[az ae,aA ae];exact⟨rfl,Ext.refl _⟩
 obtain⟨k,rfl⟩:∃k:Nat,n=(k:Int):=⟨n.toNat,ae⟩
 rw[w64 (n:=(k:Int)-1) ae ae];rw[kH,bG,aj,←yn];refine kG (n:=1) λb1 h1 r1 e1 n1=>?_
 -- half
 refine bH (α:=Unit) (k-1) 0 (λi _=>[af (i:Int)]) (λi _ h'=>Big h' b1 351 (2^i)∧Ext h h') () rfl ae ⟨r1,e1⟩ λi _ h2 again ρj _ hi ⟨r2,e2⟩ H=>?_
 simp only[go_sem];refine ao (λhc=>?_) (λhc=>?_)
 ·rw[Big.all r2,aj];have hp:=Lg (i:=i+1) ae;have aw:2^(i+1)=2*2^i:=Rs;refine(nB (n:=2^i) (bit:=0) ae ae).mono λv h3 ⟨e,e3⟩=>?_
  subst e;refine iX (e3.row r2) λh4 r4 u4=>?_
  rw[w64 ae ae];rw[iE,←aw]at r4;exact H () h4 ae ⟨r4,(e2.trans e3).upd n1 u4⟩
 have:i=k-1:=ae;subst this;have A:=e2;refine(sb hx).mono λv1 h3 ⟨e3,w3⟩=>?_
 subst e3 w3;have bc:=js hx;rw[kH,bG,aj,←CH bc];refine kG (n:=x.natAbs) λb2 h4 r4 e4 n4=>?_
 try simp only[go_sem]
 rw[gG,bG,aj,←Cw];refine kG (n:=0) λb3 h5 r5 e5 n5=>?_
 have l1:=bB r2;have l2:=bB r4;have k2:h.size≤b2:=bh A.1 n4;have k3:h.size≤b3:=bh (A.trans e4).1 n5;have an:x.natAbs<340282366920938463463374607431768211456:=ae;have D:=Xt hx (n:=k) ae ae;have bv:x.natAbs≤9223372036854775808:=qh hx;generalize b0:x.natAbs=m at*
 -- the quotient
 refine bH (α:=Unit) (128-k) 0 (λi _=>[af (127-(i:Int))])
  (λi _ h'=>Big h' b1 351 (2^(k-1))∧Big h' b2 351 m∧Big h' b3 351 (m/2^(128-i))∧Ext h h')
  () rfl ae ⟨(e4.trans e5).row r2,e5.row r4,by rw[show m/2^(128-0)=0 from sO (by simpa using an)];exact r5,A.trans (e4.trans e5)⟩ λi _ h6 again ρj _ hi ⟨U,q2,G,e6⟩ H=>?_
 simp only[go_sem];refine ao (λhc=>?_) (λhc=>?_)
 ·have H:=λh'=>H () h' ae
  have hv:=TC m (127-i);rw[show 127-i+1=128-i by omega]at hv;rw[show 128-(i+1)=127-i by omega,show(127:Int)-((i+1:Nat):Int)=((127-i:Nat):Int)-1 by omega]at H;have a7:m/2^(127-i)≤m:=jy _ _;have hb:m/2^(127-i)%2≤1:=ae;rw[show(127:Int)-(i:Int)=((127-i:Nat):Int)by omega];refine aP (Ext h6) (Ext.refl _) ?_;refine aC _ (λh' e=>Big.all (e.row G)) ?_;refine aC _ (λh' e=>Big.all (e.row q2)) ?_;refine(C6 an (i:=127-i) ae).mono λv h7 ⟨e,e7⟩=>?_
  subst e;refine⟨e7,?_⟩;refine(nB (n:=m/2^(128-i)) (bit:=m/2^(127-i)%2) hb ae).mono λv h8 ⟨e,e8⟩=>?_
  subst e;have al:=e7.trans e8;refine iX (al.row G) λh9 r9 u9=>?_
  rw[w64 ae ae];rw[←hv]at r9;exact H h9 ⟨u9.row ae (al.row U),u9.row ae (al.row q2),r9,(e6.trans al).upd k3 u9⟩
 have a8:i=128-k:=ae;subst a8;rw[show 128-(128-k)=k by omega]at G;rw[Big.all q2,aj];refine kG (n:=m) λb4 h7 r7 e7 n7=>?_
 have l3:=bB G;have l1:=bB U;have l2:=bB q2;have k4:h.size≤b4:=bh e6.1 n7
 -- the rest
 refine bH (α:=Unit) 128 k (λi _=>[af (i:Int)])
  (λi _ h'=>Big h' b1 351 (2^(k-1))∧Big h' b2 351 m∧Big h' b3 351 (m/2^k)∧Big h' b4 351 (m%2^k+m/2^i*2^i)∧Ext h h')
  () rfl ae ⟨e7.row U,e7.row q2,e7.row G,by rw[show m%2^k+m/2^k*2^k=m by rw[eO];exact Nat.mod_add_div _ _];exact r7,e6.trans e7⟩ λi _ h8 again ρj a8 hi ⟨U,q2,G,W,e8⟩ H=>?_
 simp only[go_sem];refine ao (λhc=>?_) (λhc=>?_)
 ·have H:=λh'=>H () h' ae
  rw[Big.all q2,aj];have ar:=Xy m k i;have a7:m%2^k+m/2^i*2^i≤2*m:=by
   have a1:=Nat.mod_le m (2^k);have a2:=G6 m (2^i);omega
  refine(C6 an (i:=i) ae).mono λv h9 ⟨e,L⟩=>?_
  subst e;simp only[go_sem];have U:=L.row U;have q2:=L.row q2;have G:=L.row G;have W:=L.row W;have L:=e8.trans L;have l4:=bB W;refine ao (λhd=>?_) (λhd=>?_)
  ·have hd:m/2^i%2=1:=ae;rw[hd,sN]at ar
   try rw[kH,bG,aj,←yn]
   refine kG (n:=1) λb5 ay bo F n10=>?_
   have k5:h.size≤b5:=bh L.1 n10;refine bH (α:=Unit) i 0 (λj _=>[af (j:Int)]) (λj _ h'=>Big h' b1 351 (2^(k-1))∧Big h' b2 351 m∧Big h' b3 351 (m/2^k)∧Big h' b4 351 (m%2^k+m/2^i*2^i)∧Big h' b5 351 (2^j)∧Ext h h')
    () rfl ae ⟨F.row U,F.row q2,F.row G,F.row W,bo,L.trans F⟩ λj _ be a9 ρj2 _ hj ⟨U,q2,G,W,q5,ad⟩ H2=>?_
   simp only[go_sem];refine ao (λbk=>?_) (λbk=>?_)
   ·rw[Big.all q5,aj];have hp:=Lg (i:=j+1) ae;have aw:2^(j+1)=2*2^j:=Rs;refine(nB (n:=2^j) (bit:=0) ae ae).mono λv ax ⟨e,A⟩=>?_
    subst e;refine iX (A.row q5) λaa ab I=>?_
    rw[w64 ae ae];rw[iE,←aw]at ab;exact H2 () aa ae ⟨I.row ae (A.row U),I.row ae (A.row q2),I.row ae (A.row G),I.row ae (A.row W),ab,(ad.trans A).upd k5 I⟩
   ·have:j=i:=ae;subst this;rw[Big.all W,aj,Big.all q5,aj];refine(PP (m:=m%2^k+m/2^j*2^j) (n:=2^j) ae ae).mono λv ax ⟨e,A⟩=>?_
    subst e;refine iX (A.row W) λaa ab I=>?_
    rw[w64 ae ae];rw[ar,zh]at ab;exact H aa ⟨I.row ae (A.row U),I.row ae (A.row q2),I.row ae (A.row G),ab,(ad.trans A).upd k4 I⟩
  ·have hd:m/2^i%2=0:=ae;rw[hd,zi,iE]at ar;rw[w64 ae ae];exact H h9 ⟨U,q2,G,by rw[←ar];exact W,L⟩
 have:i=128:=ae;subst this;rw[show m%2^k+m/2^128*2^128=m%2^k by rw[sO (a:=m) (b:=2^128) (by simpa using an)];simp]at W;rw[Big.all W,aj,Big.all U,aj];refine Ca.mono λv h9 ⟨e,L⟩=>?_
 subst e;have U:=L.row U;have G:=L.row G;have W:=L.row W;have L:=e8.trans L;have k1:=n1;simp only[go_sem];refine bi (λxs h'=>xs=[.bool (upS m k (decide (x<0)))]∧Ext h h'∧Big h' b3 351 (m/2^k)) ?_ ?_
 ·unfold upS;refine ao (λhc=>?_) (λhc=>?_)
  ·rw[Big.all U,aj,Big.all W,aj];refine Ca.mono λv ay ⟨e,F⟩=>?_
   subst e;rw[cP hc];exact⟨by simp only[cJ],L.trans F,F.row G⟩
  ·rw[cB hc];refine⟨?_,L,G⟩;simp only[gF,cF]
   congr 2
   exact gE.2 ae
 ·rintro xs ρj ay ⟨rfl,F,G⟩;simp only[go_sem];have a7:m/2^k≤m:=jy _ _;refine jU (λhc=>?_) (λhc=>?_)
  ·rw[hc,aA rfl]at D;rw[Big.all G,aj]
   try rw[kH,bG,aj,←yn]
   try rw[aj]
   refine(B9 (m:=m/2^k) (n:=1) ae).mono λv be ⟨e,ad⟩=>?_
   subst e;refine iX (ad.row G) λax bd bg=>?_
   rw[bd.all,aj];refine(oG (m:=m/2^k+1) (b:=decide (x<0)) ae).mono λv aa ⟨e,au⟩=>?_
   exact⟨by rw[e,D],((F.trans ad).upd k3 bg).trans au⟩
  ·rw[hc]at D;simp only[gF,cF,iE]at D;rw[Big.all G,aj];refine(oG (m:=m/2^k) (b:=decide (x<0)) ae).mono λv aa ⟨e,au⟩=>?_
   exact⟨by rw[e,D],F.trans au⟩
theorem R6 {h:ah}{a b n:Int}(ha:I64 a)(hb:I64 b)(hn:I64 n):ag prog qI #[af a,af b,af n] h λr h'=>r=af (qi a b n)∧Ext h h':=by
 apply GB;unfold wC;simp only[go_sem];have an:=js ha;have aa:=js hb;refine bi (λxs h'=>xs=[af (n.toNat:Int)]∧h'=h) ?_ ?_
 ·refine ao (λhc=>?_) (λhc=>?_)
  ·exact⟨by rw[Int.toNat_of_nonpos ae];rfl,rfl⟩
  ·exact⟨by rw[wT ae],rfl⟩
 rintro xs ρj h1 ⟨rfl,hh⟩;have hh:=hh.symm;subst hh;simp only[go_sem,VG];unfold qi;refine ao (λh0=>?_) (λh0=>?_)
 ·rw[aA ae];exact⟨rfl,Ext.refl _⟩
 rw[az ae];generalize n.toNat=k at*;refine(sb ha).mono λv1 h1 ⟨e1,w1⟩=>?_
 have w1:=w1.symm;subst e1 w1;refine(sb hb).mono λv1 h1 ⟨e1,w1⟩=>?_
 have w1:=w1.symm;subst e1 w1;refine(PO an aa).mono λv G ⟨e,e2⟩=>?_
 subst e;have F:=GQ an aa;generalize kI a b=bl at*;generalize a.natAbs*b.natAbs=m at*;refine kG (n:=m) λb2 h3 r3 e3 n3=>?_
 have L:=e2.trans e3
 try simp only[go_sem]
 refine ao (λhk=>?_) (λhk=>?_)
 ·obtain rfl:k=0:=ae;rw[Big.all r3,aj];refine(oG (m:=m) (b:=bl) F).mono λv h4 ⟨e,e4⟩=>?_
  exact⟨by rw[e];rfl,L.trans e4⟩
 rw[gG,bG,aj,←Cw];refine kG (n:=0) λb3 h5 r5 e5 n5=>?_
 have l2:=bB r3;have k2:h.size≤b2:=bh e2.1 n3;have k3:h.size≤b3:=bh L.1 n5;refine bH (α:=Unit) (128-k) 0 (λi _=>[af (127-(i:Int))])
  (λi _ h'=>Big h' b2 351 m∧Big h' b3 351 (m/2^(128-i))∧Ext h h')
  () rfl ae ⟨e5.row r3,by rw[show m/2^(128-0)=0 from sO (by simpa using F)];exact r5,L.trans e5⟩ λi _ h6 again ρj _ hi ⟨I,A,e6⟩ H=>?_
 simp only[go_sem];refine ao (λhc=>?_) (λhc=>?_)
 ·have H:=λh'=>H () h' ae
  have hv:=TC m (127-i);rw[show 127-i+1=128-i by omega]at hv;rw[show 128-(i+1)=127-i by omega,show(127:Int)-((i+1:Nat):Int)=((127-i:Nat):Int)-1 by omega]at H;have bk:m/2^(127-i)≤m:=jy _ _;have hb:m/2^(127-i)%2≤1:=ae;rw[show(127:Int)-(i:Int)=((127-i:Nat):Int)by omega];refine aP (Ext h6) (Ext.refl _) ?_;refine aC _ (λh' e=>Big.all (e.row A)) ?_;refine aC _ (λh' e=>Big.all (e.row I)) ?_;refine(C6 F (i:=127-i) ae).mono λv h7 ⟨e,e7⟩=>?_
  subst e;refine⟨e7,?_⟩;refine(nB (n:=m/2^(128-i)) (bit:=m/2^(127-i)%2) hb ae).mono λv h8 ⟨e,D⟩=>?_
  subst e;have W:=e7.trans D;refine iX (W.row A) λh9 r9 u9=>?_
  rw[w64 ae ae];rw[←hv]at r9;exact H h9 ⟨u9.row ae (W.row I),r9,(e6.trans W).upd k3 u9⟩
 have bo:i=128-k:=ae;subst bo;rw[show 128-(128-k)=k by omega]at A;rw[w64 (n:=(k:Int)-1) ae ae];refine bH (α:=Unit) (k-1) 0 (λi _=>[.bool (decide (m%2^i≠0)),af (i:Int)])
  (λi _ h'=>Big h' b2 351 m∧Big h' b3 351 (m/2^k)∧Ext h h')
  () (by simp[Nat.mod_one]) ae ⟨I,A,e6⟩ λi _ h7 again ρj _ hi ⟨I,A,e7⟩ H=>?_
 simp only[go_sem];refine ao (λhc=>?_) (λhc=>?_)
 ·have H:=λh'=>H () h' ae
  have ar:=Y4 m i;have hp:0<2^i:=wV ae;rw[Big.all I];by_cases hz:m%2^i=0
  ·have q:decide (m%2^i≠0)=false:=cB ae;rw[q];simp only[go_sem];refine(C6 F (i:=i) ae).mono λv h8 ⟨e,D⟩=>?_
   subst e;simp only[go_sem];rw[w64 ae ae];have qq:decide (m%2^(i+1)≠0)=decide (((m/2^i%2:Nat):Int)=1):=gE.2 (by
    rw[ar,hz];rcases Nat.mod_two_eq_zero_or_one (m/2^i)with hh|hh
    ·rw[hh];simp
    ·rw[hh];simp)
   have H:=H h8 ⟨D.row I,D.row A,e7.trans D⟩;rw[qq]at H;exact H
  ·have q:decide (m%2^i≠0)=true:=cP hz;rw[q];simp only[go_sem];rw[w64 ae ae];have H:=H h7 ⟨I,A,e7⟩;rw[show decide (m%2^(i+1)≠0)=true from cP (by rw[ar];omega)]at H;exact H
 have:i=k-1:=ae;subst this;rw[Big.all I,aj,show(k:Int)-1=((k-1:Nat):Int)by omega];refine(C6 F (i:=k-1) ae).mono λv h8 ⟨e,D⟩=>?_
 subst e;have A:=D.row A;have D:=e7.trans D;have bk:m/2^k≤m/2:=by
  refine Rq ?_ ae;have:=Nat.pow_le_pow_right (n:=2) ae (show 1≤k by omega);omega
 have au:∀c:Bool,(c=true↔(m/2^(k-1)%2=1∧¬(bl=true∧m%2^(k-1)=0)))→aF (.bool c)
   (ag prog iO #[oJ (m/2^k),oJ 1] h8 λbc ax=>stK 2 (.pointer (some ⟨b3,0,none⟩)) bc ax λb0 ab=>vK (aO 2 ab (.pointer (some ⟨b3,0,none⟩))) λa8=>
    ag prog dK #[a8,.bool bl] ab λbg ay=>bg=af (jK (Lp m k bl) bl)∧Ext h ay)
   (ag prog dK #[oJ (m/2^k),.bool bl] h8 λbe aw=>be=af (jK (Lp m k bl) bl)∧Ext h aw):=by
  intro c ad;unfold Lp;rw[az ae];refine jU (λhc=>?_) (λhc=>?_)
  ·rw[aA (ad.1 hc)];refine(B9 (m:=m/2^k) (n:=1) ae).mono λv bv ⟨e,al⟩=>?_
   subst e;refine iX (al.row A) λb1 a7 bd=>?_
   rw[a7.all,aj];refine(oG (m:=m/2^k+1) (b:=bl) ae).mono λv a9 ⟨e,U⟩=>?_
   exact⟨e,((D.trans al).upd k3 bd).trans U⟩
  ·rw[az (λhh=>by rw[ad.2 hh]at hc;cases hc)];refine(oG (m:=m/2^k) (b:=bl) ae).mono λv a9 ⟨e,U⟩=>?_
   exact⟨e,D.trans U⟩
 simp only[go_sem,Big.all A];rw[zbd,bG,aj,←yn];refine au _ ?_;rw[dh,xv,dS,dS];constructor
 ·rintro⟨h1,G⟩;refine⟨ae,?_⟩;rintro⟨h3,h4⟩;rcases G with G|G
  ·exact G h4
  ·rw[h3]at G;cases G
 ·rintro⟨h1,G⟩;refine⟨ae,?_⟩;by_cases h3:bl=true
  ·exact .inl λh4=>G ⟨h3,h4⟩
  ·exact .inr (by simpa using h3)
theorem Sy (p m t:Int):IntKind.i64.wrap (p-IntKind.i64.wrap (m+t))=IntKind.i64.wrap (IntKind.i64.wrap (p-m)-t):=by
 rw[Ek,yF];congr 1;omega
theorem Sx (p m t:Int):IntKind.i64.wrap (IntKind.i64.wrap (p+t)-m)=IntKind.i64.wrap (IntKind.i64.wrap (p-m)+t):=by
 rw[yF,uJ];congr 1;omega
theorem zbq {h:ah}{t:Int}(ht:I64 t):ag prog Cq #[af t] h λr h'=>r=af (XY t)∧Ext h h':=by
 apply QL;unfold FW
 try simp only[go_sem]
 unfold XY;have ab:0≤max 0 t∧max 0 t≤9223372036854775807:=by unfold I64 at ht;omega
 refine bi (λW h'=>W=[af (max 0 t)]∧h'=h) ?_ ?_
 ·refine ao (λhc=>?_) (λhc=>?_)
  ·exact⟨by rw[show max 0 t=0 by omega],rfl⟩
  ·exact⟨by rw[show max 0 t=t by omega],rfl⟩
 rintro W ρj h1 ⟨rfl,hh⟩;have hh:=hh.symm;subst hh;generalize max 0 t=T at*
 try simp only[go_sem]
 refine(PQ (by unfold I64;omega) (by unfold I64;omega)).mono λU h1 ⟨e,e1⟩=>?_
 subst e;rw[qA (by unfold I64;omega) ae];simp only[go_sem];rw[w64 (n:=T/762123384786*762123384786) ae ae,w64 (n:=T-T/762123384786*762123384786) ae ae];rw[show T-T/762123384786*762123384786=T%762123384786 by omega];have hr:0≤T%762123384786∧T%762123384786<762123384786:=ae;generalize aa:T%762123384786=r at*;refine bH (α:=Int×Int) 16 0 (λi a=>[af a.1,af a.2,af (fC r i).2,af ((i:Int)+1)]) (λi a h'=>IntKind.i64.wrap (a.1-a.2)=(fC r i).1∧Ext h h') (1099511627776,0) rfl ae ⟨show IntKind.i64.wrap (1099511627776-0)=1099511627776 from w64 ae ae,e1⟩ λi a h2 again ρj _ hi ⟨F,L⟩ H=>?_
 obtain⟨P,M⟩:=a;simp only[go_sem];obtain⟨s1,s2⟩:=BU r i;refine ao (λh0=>?_) (λh0=>?_)
 ·rw[w64 (n:=((i:Int)+1)*1099511627776) ae ae];refine(jc s2 (by unfold I64;omega) (by unfold I64;omega)).mono λU G ⟨e,D⟩=>?_
  subst e;rw[dP _ _ _ _ ae,aj,jT ae];simp only[go_sem];have A:(fC r (i+1)).1=IntKind.i64.wrap (if i%2=0 then(fC r i).1-(fC r (i+1)).2 else(fC r i).1+(fC r (i+1)).2):=rfl;have I:(fC r (i+1)).2=cS (fC r i).2 r (((i:Int)+1)*1099511627776):=rfl;rw[←I];rw[w64 (n:=(i:Int)+1+1) ae ae,show(i:Int)+1+1=((i+1:Nat):Int)+1 by omega];refine ao (λh4=>?_) (λh4=>?_)
  ·refine H (P,_) G ae ⟨?_,L.trans D⟩;rw[A,aA ae,←F];exact Sy _ _ _
  ·refine H (_,M) G ae ⟨?_,L.trans D⟩;rw[A,az ae,←F];exact Sx _ _ _
 ·have:i=16:=ae;subst this;rw[F];refine(Ja s1 (by unfold I64;omega)).mono λU G ⟨e,D⟩=>?_
  exact⟨e,L.trans D⟩
theorem X6 {h:ah}{d s:Int}(hd:I64 d)(D:I64 s):ag prog xF #[af d,af s] h λr h'=>r=af (Et d s)∧Ext h h':=by
 apply L2;unfold AR;simp only[go_sem];unfold Et;refine ao (λh0=>?_) (λh0=>?_)
 ·rw[aA ae];exact⟨rfl,Ext.refl _⟩
 ·rw[az ae];have h1:=O0 (d:=d) (B:=16384) ae ae;have A:=O0 (d:=s) (B:=4194304) ae ae;rw[w64 (n:=d*d) ae ae,w64 (n:=d*d*2147483648) ae ae,w64 (n:=s*s) ae ae];exact jc (by unfold I64;omega) (by unfold I64;omega) (by unfold I64;omega)
theorem X7 {h:ah}{d s:Int}(hd:I64 d)(F:I64 s):ag prog xG #[af d,af s] h λr h'=>r=af (BQ d s)∧Ext h h':=by
 apply L3;unfold AS;refine(X6 hd F).mono λA h1 ⟨e,H⟩=>?_
 subst e;refine(zbq (LN _ _)).mono λA I ⟨e,D⟩=>?_
 subst e;refine(Ja (M8 _) (by unfold I64;omega)).mono λA L ⟨e,G⟩=>?_
 exact⟨e,H.trans (D.trans G)⟩
theorem zbp {h:ah}{p q:Int}(A:I64 p)(hq:I64 q):ag prog Co #[af p,af q] h λr h'=>r=.bool (decide (Kx p q))∧h'=h:=by
 apply QK;unfold FV;simp only[go_sem];unfold I64 at*;refine ao (λh0=>?_) (λh0=>?_)
 ·exact⟨by rw[cB];unfold Kx;omega,trivial⟩
 ·refine⟨?_,trivial⟩
  congr 1
  rw[gE,w64 (n:= -4*q) ae ae,w64 (n:=4*q) ae ae];unfold Kx;omega
theorem No {h:ah}{p q:Int}(hp:I64 p)(h0:p≠ -9223372036854775808)(hq:I64 q):ag prog pe #[af p,af q] h λr h'=>r=af (yO p q)∧Ext h h':=by
 apply Km;unfold Aj;unfold yO;simp only[go_sem];unfold I64 at hp;refine bi (λU h'=>U=[af (max p (-p))]∧h'=h) ?_ ?_
 ·refine ao (λhc=>?_) (λhc=>?_)
  ·rw[w64 ae ae];exact⟨by rw[show max p (-p)=0-p by omega],rfl⟩
  ·exact⟨by rw[show max p (-p)=p by omega],rfl⟩
 rintro U ρj h1 ⟨rfl,hh⟩;have hh:=hh.symm;subst hh;have I:I64 (max p (-p)):=by unfold I64 at*;omega
 simp only[go_sem];refine(jc (by unfold I64;omega) I hq).mono λL h1 ⟨e,e1⟩=>?_
 subst e;refine(jc (gk _ _ _) I hq).mono λL h2 ⟨e,e2⟩=>?_
 subst e;have hu:=gk (cS 10851744800547 (max p (-p)) q) (max p (-p)) q;generalize cS (cS 10851744800547 (max p (-p)) q) (max p (-p)) q=u at*;refine bH (α:=Int×Int) 30 0 (λi a=>[af a.1,af a.2,af (cA u i).2,af ((i:Int)+1)]) (λi a h'=>IntKind.i64.wrap (a.1-a.2)=(cA u i).1∧Ext h h') (1099511627776,0) rfl ae ⟨show IntKind.i64.wrap (1099511627776-0)=1099511627776 from w64 ae ae,e1.trans e2⟩ λi a h3 again ρj _ hi ⟨D,G⟩ H=>?_
 obtain⟨P,M⟩:=a;simp only[go_sem];obtain⟨s1,s2⟩:=yN u i;refine ao (λh0=>?_) (λh0=>?_)
 ·have aa:=O0 (d:=(i:Int)+1) (B:=30) ae ae;have he:=Sr ((i:Int)+1);rw[w64 (n:=2*((i:Int)+1)) ae ae,w64 (n:=2*((i:Int)+1)+1) ae ae,w64 (n:=2*((i:Int)+1)*(2*((i:Int)+1)+1)) ae ae,
   w64 (n:=2*((i:Int)+1)*(2*((i:Int)+1)+1)*1099511627776) ae ae]
  refine(jc s2 hu (by unfold I64;omega)).mono λL h4 ⟨e,W⟩=>?_
  subst e;rw[dP _ _ _ _ ae,aj,jT ae];simp only[go_sem];have A:(cA u (i+1)).1=IntKind.i64.wrap (if i%2=0 then(cA u i).1-(cA u (i+1)).2 else(cA u i).1+(cA u (i+1)).2):=rfl;have F:(cA u (i+1)).2=cS (cA u i).2 u (2*((i:Int)+1)*(2*((i:Int)+1)+1)*1099511627776):=rfl;rw[←F];rw[w64 (n:=(i:Int)+1+1) ae ae,show(i:Int)+1+1=((i+1:Nat):Int)+1 by omega];refine ao (λh5=>?_) (λh5=>?_)
  ·refine H (P,_) h4 ae ⟨?_,G.trans W⟩;rw[A,aA ae,←D];exact Sy _ _ _
  ·refine H (_,M) h4 ae ⟨?_,G.trans W⟩;rw[A,az ae,←D];exact Sx _ _ _
 ·have:i=30:=ae;subst this;exact⟨by rw[D],G⟩
theorem T7 {h:ah}{p q:Int}(H:I64 p)(hq:I64 q):ag prog sZ #[af p,af q] h λr h'=>r=af (vB p q)∧Ext h h':=by
 apply IG;unfold yc;unfold vB;refine(zbp H hq).mono λA h1 ⟨G,w1⟩=>?_
 have w1:=w1.symm;subst G w1;by_cases D:Kx p q
 ·have F:=D;unfold Kx at F;simp only[go_sem,D];rw[w64 (n:=3*q) ae ae,w64 (n:= -3*q) ae ae];refine ao (λh0=>?_) (λh0=>?_)
  ·rw[aA ae];exact⟨rfl,Ext.refl _⟩
  ·rw[az ae];refine(No H ae hq).mono λA h1 ⟨e,G⟩=>?_
   subst e;refine(No H ae (by unfold I64;omega)).mono λA h2 ⟨e,U⟩=>?_
   subst e;refine(R6 (wN _ _) (wN _ _) (by unfold I64;omega)).mono λA W ⟨e,L⟩=>?_
   subst e;refine(Ja (xr _ _ _) (by unfold I64;omega)).mono λA h4 ⟨e,I⟩=>?_
   exact⟨e,G.trans (U.trans (L.trans I))⟩
 ·simp only[go_sem,D];rw[aA trivial];exact⟨rfl,Ext.refl _⟩
end Go.Proofs.YtjljhnandbbldaaGreatDoor
namespace Go.Crisp
def inW (f n m i j:Int):Prop:=if f=0 then i*n<(j+1)*m∧j*m<(i+1)*n else
 2*m*j-(2*i+1)*n+m<cU f*(2*max n m)∧ -(cU f*(2*max n m))<2*m*j-(2*i+1)*n+m
instance (f n m i j:Int):Decidable (inW f n m i j):=by unfold inW;infer_instance
theorem WH {f n m i j:Int}(h:vY f n m i):inW f n m i j↔qk f n m i≤j∧j<nA f n m i:=by
 obtain⟨f0,f1,F,G,H,m1,I,D⟩:=h;unfold inW qk nA Ng;split
 ·have a1:= @Int.ediv_lt_iff_lt_mul (i*n) (j+1) m ae;have a2:= @Int.ediv_lt_iff_lt_mul (-((i+1)*n)) (-j) m ae;rw[Rz]at a2;constructor
  ·rintro⟨h1,A⟩;have:=a1.2 h1;have:=a2.2 ae;omega
  ·rintro⟨h1,A⟩;have:=a1.1 ae;have:=a2.1 ae;omega
 ·have a1:= @Int.ediv_lt_iff_lt_mul ((2*i+1)*n-m-cU f*2*max n m) j (2*m) ae;have a2:= @Int.ediv_lt_iff_lt_mul (-((2*i+1)*n-m+cU f*2*max n m)) (-j) (2*m) ae;rw[Rz]at a2;rw[fQ j]at a1 a2;rw[oB (cU f)]at a1 a2;rw[oB (cU f)];constructor
  ·rintro⟨h1,A⟩;have:=a1.2 ae;have:=a2.2 ae;omega
  ·rintro⟨h1,A⟩;have:=a1.1 ae;have:=a2.1 ae;omega
theorem SF {f n m i:Int}(h:vY f n m i):qk f n m i≤i*n/m∧i*n/m<nA f n m i:=by
 rw[←WH h];obtain⟨f0,f1,n0,W,m0,m1,i0,i1⟩:=h;have hq:=vw (i*n) m;have hr:=ks (i*n) (show m≠0 by omega);have D:=iF (i*n) (show 0<m by omega);generalize i*n/m=j at*;generalize i*n%m=r at*;unfold inW;have F:(j+1)*m=m*j+m:=by rw[jw,kp,fQ]
 have I:(i+1)*n=i*n+n:=by rw[jw,kp]
 have H:(2*i+1)*n=2*(i*n)+n:=by rw[jw,kp,oB]
 have G:2*m*j=2*(m*j):=oB _ _ _;have L:j*m=m*j:=fQ _ _;split
 ·rw[F,I,L];omega
 ·rw[H,G];have A:cU f=2∨cU f=3:=by unfold cU;rename_i U;rw[az U];split<;>omega
  rcases A with A|A<;>rw[A]<;>omega
end Go.Crisp
namespace Go.Proofs.YtjljhnandbbldaaGreatDoor
open Go Go.Crisp
attribute [local irreducible] ag df aW stK aF vK qK bJ gK eK aZ mkK di Fi GM CF bsK
open _root_.Go.Proofs.Tryz
theorem zbn {h:ah}{f n m i:Int}:ag prog Cn #[af f,af n,af m,af i] h λr h'=>r=.bool (decide (vY f n m i))∧h'=h:=by
 apply QJ;unfold FU;simp only[go_sem];refine⟨?_,trivial⟩
 congr 1
 rw[gE];unfold vY;omega
abbrev jB (j:Int):Prop:= -137438953472≤j∧j≤137438953472
theorem Ib {h:ah}{f n m i j:Int}(D:vY f n m i)(hj:jB j):ag prog lL #[af n,af m,af i,af j] h λr h'=>
  r=.tuple #[af (2*m*j-(2*i+1)*n+m),af (2*max n m)]∧h'=h:=by
 apply GA;unfold wB;simp only[go_sem];have H:=UZ D;obtain⟨L,b2,b3,b4,b5⟩:=H;obtain⟨f0,f1,n0,U,m0,m1,i0,W⟩:=D;have I:=KD (a:=j) (A:=137438953472) (b:=m) (B:=65536) ae ae ae ae;have G:2*m*j=2*(j*m):=by rw[oB,fQ m j]
 rw[w64 (n:=2*m) ae ae,w64 (n:=2*n) ae ae,w64 (n:=2*m*j) ae ae,w64 (n:=2*i) ae ae,w64 (n:=2*i+1) ae ae,w64 (n:=(2*i+1)*n) ae ae,
  w64 (n:=2*m*j-(2*i+1)*n) ae ae,w64 (n:=2*m*j-(2*i+1)*n+m) ae ae]
 refine bi (λF h'=>F=[af (2*max n m)]∧h'=h) ?_ ?_
 ·refine ao (λhc=>?_) (λhc=>?_)
  ·exact⟨by rw[show max n m=m by omega],rfl⟩
  ·exact⟨by rw[show max n m=n by omega],rfl⟩
 rintro F ρj h1 ⟨rfl,hh⟩;exact⟨rfl,hh⟩
theorem zbo {h:ah}{f n m i j:Int}(F:vY f n m i)(U:jB j):ag prog qH #[af f,af n,af m,af i,af j] h λr h'=>
  r=.bool (decide (inW f n m i j))∧h'=h:=by
 apply Tg;unfold Jt;simp only[go_sem];have G:=F;have L:=UZ F;obtain⟨b1,b2,b3,b4,b5⟩:=L;obtain⟨f0,f1,n0,n1,m0,m1,i0,i1⟩:=F;have W:=KD (a:=j) (A:=137438953472) (b:=m) (B:=65536) ae ae ae ae;have H:(j+1)*m=j*m+m:=by rw[jw,kp]
 refine ao (λD=>?_) (λD=>?_)
 ·rw[w64 (n:=i+1) ae ae,w64 (n:=(i+1)*n) ae ae,w64 (n:=j+1) ae ae,w64 (n:=(j+1)*m) ae ae,w64 (n:=i*n) ae ae,w64 (n:=j*m) ae ae];refine⟨?_,trivial⟩
  congr 1
  rw[gE];unfold inW;rw[aA D]
 ·refine(Ib G U).mono λv1 h1 ⟨I,w1⟩=>?_
  have w1:=w1.symm;subst I w1;simp only[go_sem];rw[w64 (n:=2*(2*max n m)) ae ae,w64 (n:=3*(2*max n m)) ae ae,w64 (n:=0-2*(2*max n m)) ae ae,w64 (n:=0-3*(2*max n m)) ae ae];refine ao (λhc=>?_) (λhc=>?_)
  ·refine⟨?_,trivial⟩
   congr 1
   rw[gE];unfold inW cU;rw[az D,az D,az ae];omega
  ·refine⟨?_,trivial⟩
   congr 1
   rw[gE];unfold inW cU;rw[az D,az D,aA ae];omega
theorem Vr {h:ah}{f n m i j:Int}(A:vY f n m i)(D:jB j):ag prog qH #[af f,af n,af m,af i,af j] h λr h'=>
  r=.bool (decide (qk f n m i≤j∧j<nA f n m i))∧h'=h:=
 (zbo A D).mono λv h1 ⟨e,w⟩=>⟨by rw[e];congr 1;exact gE.2 (WH A),w⟩
theorem ZQ {h:ah}{p q:Int}(G: -4611686018427387904≤p∧p≤4611686018427387904)(hq:I64 q):ag prog zN #[af p,af q] h λr h'=>r=af (HE p q)∧Ext h h':=by
 apply Oq;unfold DL
 try simp only[go_sem]
 unfold HE;refine ao (λh0=>?_) (λh0=>?_)
 ·rw[aA ae];exact⟨rfl,Ext.refl _⟩
 rw[w64 (n:=2*q) ae ae,w64 (n:= -2*q) ae ae];refine ao (λh1=>?_) (λh1=>?_)
 ·rw[aA ae];exact⟨rfl,Ext.refl _⟩
 rw[az ae];refine bi (λD h'=>D=[af (max p (-p))]∧h'=h) ?_ ?_
 ·refine ao (λhc=>?_) (λhc=>?_)
  ·rw[w64 ae ae];exact⟨by rw[show max p (-p)=0-p by omega],rfl⟩
  ·exact⟨by rw[show max p (-p)=p by omega],rfl⟩
 rintro D ρj F ⟨rfl,hh⟩;have hh:=hh.symm;subst hh;generalize max p (-p)=a
 try simp only[go_sem]
 simp only[yG,El,uJ,pX,yF,Ek];unfold Vl;refine ao (λh1=>?_) (λh1=>?_)
 ·rw[az ae];have A:3*(a*a*a)-5*(a*a)*q+2*(q*q*q)=3*(a*a*a)-5*(a*a*q)+2*(q*q*q):=by grind
  rw[A];exact jc (ka _) (by unfold I64;omega) (ka _)
 ·rw[aA ae];have A:5*(a*a)*q-a*a*a-8*a*(q*q)+4*(q*q*q)=4*(q*q*q)+5*(a*a*q)-a*a*a-8*(a*q*q):=by grind
  rw[A];exact jc (ka _) (by unfold I64;omega) (ka _)
theorem Vq {h:ah}{f n m i j:Int}(F:vY f n m i)(hj:jB j):ag prog vO #[af f,af n,af m,af i,af j] h λr h'=>
  r=af (yK f n m i j)∧Ext h h':=by
 apply Kl;unfold Ai
 try simp only[go_sem]
 have G:=F;have hb:=UZ F;obtain⟨b1,b2,b3,b4,b5⟩:=hb;obtain⟨f0,f1,n0,n1,m0,m1,i0,i1⟩:=F;unfold yK;have aa:=KD (a:=j) (A:=137438953472) (b:=m) (B:=65536) ae ae ae ae;have U:(j+1)*m=j*m+m:=by rw[jw,kp]
 have L:2*m*j=2*(j*m):=by rw[oB,fQ m j]
 refine ao (λH=>?_) (λH=>?_)
 ·rw[aA H];rw[w64 (n:=i+1) ae ae,w64 (n:=(i+1)*n) ae ae,w64 (n:=j+1) ae ae,w64 (n:=(j+1)*m) ae ae,w64 (n:=i*n) ae ae,w64 (n:=j*m) ae ae];refine bi (λI h'=>I=[af (max (i*n) (j*m))]∧h'=h) ?_ ?_
  ·refine ao (λhc=>?_) (λhc=>?_)
   ·exact⟨by rw[show max (i*n) (j*m)=j*m by omega],rfl⟩
   ·exact⟨by rw[show max (i*n) (j*m)=i*n by omega],rfl⟩
  rintro I ρj h2 ⟨rfl,hh⟩;have hh:=hh.symm;subst hh;simp only[go_sem];refine ao (λhc=>?_) (λhc=>?_)
  ·rw[w64 ae ae,show min ((i+1)*n) ((j+1)*m)=(j+1)*m by omega];exact jc (by unfold I64;omega) (by unfold I64;omega) (by unfold I64;omega)
  ·rw[w64 ae ae,show min ((i+1)*n) ((j+1)*m)=(i+1)*n by omega];exact jc (by unfold I64;omega) (by unfold I64;omega) (by unfold I64;omega)
 rw[az H];refine(Ib G hj).mono λv1 h1 ⟨W,w1⟩=>?_
 have w1:=w1.symm;subst W w1;simp only[go_sem];refine ao (λD=>?_) (λD=>?_)
 ·rw[aA D];exact ZQ ae (by unfold I64;omega)
 ·rw[az D];exact T7 (by unfold I64;omega) (by unfold I64;omega)
theorem zbm {h:ah}{f n m i:Int}:ag prog xd #[af f,af n,af m,af i] h λr h'=>
  ∃v,r=.tuple #[af (ft f n m i),v]∧New (Rp.int .i64) h h' v (dr f n m i):=by
 apply QI;unfold FT;refine zbn.mono λv1 h1 ⟨I,w1⟩=>?_
 have w1:=w1.symm;subst I w1;unfold ft dr;by_cases A:vY f n m i
 ·rw[aA A,aA A];simp only[go_sem,A];have ar:=MG A;have al:=SF A;have ad:=UZ A;obtain⟨b1,b2,b3,b4,b5⟩:=ad;have ab:=A;obtain⟨f0,f1,n0,n1,m0,m1,i0,i1⟩:=ab;have an:=rZ (a:=i*n) (b:=m) (L:=0) (U:=4294967296) ae ae ae ae ae;rw[w64 (n:=i*n) ae ae,mq _ _ _ _ ae,aj,wU b1.1,w64 ae ae];generalize D:qk f n m i=lo at*;generalize F:nA f n m i=hi at*;generalize i*n/m=W at*;refine lG (λk=>[af (W-(k:Int))]) (W-lo).toNat 0 (by simp) (bZ _) λk again ρj _ hk H=>?_
  simp only[go_sem];rw[w64 (n:=W-(k:Int)-1) ae ae];refine(Vr A ae).mono λv1 h1 ⟨I,w1⟩=>?_
  have w1:=w1.symm;subst I w1;rw[D,F];refine ao (λhc=>?_) (λhc=>?_)
  ·have H:=H ae;rw[show W-((k+1:Nat):Int)=W-(k:Int)-1 by omega]at H;exact H
  have hk:W-(k:Int)=lo:=ae;rw[hk];refine lG (λk=>[af lo]) 0 0 rfl (bU _) λk2 aa ρj2 _ au _=>?_
  simp only[go_sem];refine(Vr A ae).mono λv1 h1 ⟨I,w1⟩=>?_
  have w1:=w1.symm;subst I w1;rw[D,F,cP ae];simp only[go_sem];refine bH (hi-lo).toNat 0 (λk v=>[af (lo+(k:Int)),v]) (λk v h'=>New (Rp.int .i64) h h' v ((Er f n m i).take k)) (.slice none 0 0) (by simp) (bZ _) (New.nil (Ext.refl _)) λk v h2 again ρj _ hk hI H=>?_
  simp only[go_sem];have hl:(Er f n m i).length=(hi-lo).toNat:=by unfold Er;rw[cV,fg,D,F]
  refine(Vr A ae).mono λv1 h3 ⟨I,w1⟩=>?_
  have w1:=w1.symm;subst I w1;rw[D,F];refine ao (λh0=>?_) (λh0=>?_)
  ·refine(Vq A ae).mono λv2 h3 ⟨e2,w2⟩=>?_
   subst e2;have G:((Er f n m i).take k).length=k:=by rw[c5];omega
   refine(hI.ext w2).push_int rfl (by rw[G];omega) (by rw[G];omega) λs' h' H'=>?_
   try simp only[go_sem]
   rw[w64 ae ae];have:=H s' h' ae (by
    have e:=nJ (λk:Nat=>yK f n m i (qk f n m i+k)) (nA f n m i-qk f n m i).toNat k ae;unfold Er at H' ⊢;rw[e,D];rw[D]at H';exact H')
   rw[show lo+((k+1:Nat):Int)=lo+(k:Int)+1 by omega]at this;exact this
  ·rw[eS ae]at hI;exact⟨v,rfl,hI⟩
 ·rw[az A,az A];simp only[go_sem,A];exact⟨_,rfl,New.nil (Ext.refl _)⟩
end Go.Proofs.YtjljhnandbbldaaGreatDoor
namespace Go.Proofs.YtjljhnandbbldaaGreatDoor
open Go Go.Crisp
attribute [local irreducible] ag df aW stK aF vK qK bJ gK eK aZ mkK di Fi GM CF bsK clK
open _root_.Go.Proofs.Tryz
theorem T5 {h:ah}{a b:Int}(A:I64 a)(D:I64 b):ag prog uC #[af a,af b] h λr h'=>r=af (Dq a b)∧h'=h:=by
 apply Oj;unfold DG;simp only[go_sem,iW];unfold Dq I64 at*;refine ao (λh0=>?_) (λh0=>?_)
 ·exact⟨by congr 1;omega,trivial⟩
 refine ao (λh1=>?_) (λh1=>?_)
 ·exact⟨by congr 1;omega,trivial⟩
 ·exact⟨by congr 1;omega,trivial⟩
theorem T6 {h:ah}{x:Int}(A:I64 x):ag prog uD #[af x] h λr h'=>r=af (ni x)∧h'=h:=by
 apply Om;unfold DI;rw[FG A];simp only[go_sem,iW];unfold I64 at*;refine ao (λh0=>?_) (λh0=>?_)
 ·exact⟨by congr 1;omega,trivial⟩
 refine ao (λh1=>?_) (λh1=>?_)
 ·exact⟨by congr 1;omega,trivial⟩
 ·exact⟨by congr 1;omega,trivial⟩
theorem zbl {Z:Nat→Prop}{h:ah}{v:Value}{l:List Int}(H:SlI Z h v l)(F:∀x∈l,I64 x)(W:l.length<4611686018427387904):ag prog Cm #[v] h λr h'=>r=af (mN l)∧h'=h:=by
 apply QH;unfold FS;obtain⟨a,cap,e⟩:=H.isSl;have U:aD v=some (af (l.length:Int)):=by rw[e];rfl
 rw[U,aj];refine lG (λi=>[af ((l.take i).foldl Dq 0),af (i:Int)]) l.length 0 rfl (bZ _) λi again ρj _ hi D=>?_
 simp only[go_sem];refine ao (λh0=>?_) (λh0=>?_)
 ·have A:i<l.length:=ae;obtain⟨p,L,I⟩:=H.int_at (k':=.i64) A;simp only[go_sem,L,I];refine(T5 (qy yB _ _ yD) (F _ (cQ _))).mono λv1 h1 ⟨G,w1⟩=>?_
  subst G w1;rw[w64 ae ae];have:=D A;rw[Cx A]at this;exact this
 ·rw[eS ae];exact⟨rfl,trivial⟩
theorem X5 {Z:Nat→Prop}{h:ah}{v:Value}{l:List Int}(H:SlI Z h v l)(G:∀x∈l,I64 x)(hl:l.length<4611686018427387904):ag prog xE #[v] h λr h'=>r=af (mQ l)∧h'=h:=by
 apply LZ;unfold AQ;obtain⟨a,cap,e⟩:=H.isSl;have e2:aD v=some (af (l.length:Int)):=by rw[e];rfl
 rw[e2,aj];refine lG (λi=>[af ((l.take i).foldl (λs x=>Dq s (ni x)) 0),af (i:Int)]) l.length 0 rfl (bZ _) λi again ρj _ hi D=>?_
 simp only[go_sem];refine ao (λh0=>?_) (λh0=>?_)
 ·have A:i<l.length:=ae;obtain⟨p,W,U⟩:=H.int_at (k':=.i64) A;simp only[go_sem,W,U];have I:=G _ (cQ A);refine(T6 I).mono λL h1 ⟨F,w1⟩=>?_
  subst F w1;refine(T5 (qy (λa b=>yB a (ni b)) _ _ yD) (Pa I)).mono λL h1 ⟨F,w1⟩=>?_
  subst F w1
  try simp only[go_sem]
  rw[w64 ae ae];have:=D A;rw[Cx A]at this;exact this
 ·rw[eS ae];exact⟨rfl,trivial⟩
theorem NU (l:List Int):0≤mQ l∨¬ ∀x∈l,I64 x:=by
 by_cases h:∀x∈l,I64 x
 ·left;unfold mQ;have:∀(l:List Int) (s:Int),(∀x∈l,I64 x)→0≤s→0≤l.foldl (λs x=>Dq s (ni x)) s:=by
   intro l;induction l with
   |nil=>intro s _ A;exact A
   |cons x l F=>
    intro s h A;refine F _ (λy G=>h y (by simp[G])) ?_;have D:=FG (h x (by simp));show 0≤Dq s (ni x);rw[D];unfold Dq;omega
  exact this l 0 h (gC _)
 ·exact .inr h
theorem Nn {Z:Nat→Prop}{h:ah}{v:Value}{l:List Int}(H:SlI Z h v l)(F:∀x∈l,I64 x)(W:l.length<4611686018427387904):
  ag prog pd #[v] h λr h'=>∃u,r=.tuple #[u,af (AK l)]∧New (Rp.int .i64) h h' u (rk l):=by
 apply Ol;unfold DH;refine(X5 H F W).mono λv1 h1 ⟨e1,w1⟩=>?_
 have w1:=w1.symm;subst e1 w1;obtain⟨a,cap,e⟩:=H.isSl;have U:aD v=some (af (l.length:Int)):=by rw[e];rfl
 simp only[go_sem,U];rw[dP _ _ _ _ ae,aj,jT ae];simp only[go_sem,U];unfold AK rk;have hs:=Lm l;have aa:0≤mQ l:=(NU l).resolve_right λhh=>hh F
 refine ao (λh0=>?_) (λh0=>?_)
 ·have:jM l:=by unfold jM;omega
  rw[aA this,aA this];exact⟨_,rfl,New.nil (Ext.refl _)⟩
 ·have L:¬jM l:=by unfold jM;omega
  rw[az L,az L];refine bH l.length 0 (λk u=>[u,af (k:Int)]) (λk u h'=>New (Rp.int .i64) h h' u ((l.map λx=>cS x 1073741824 (mQ l)).take k)) (.slice none 0 0) rfl (bZ _) (New.nil (Ext.refl _)) λk u h2 again ρj _ hk G I=>?_
  simp only[go_sem];refine ao (λh0=>?_) (λh0=>?_)
  ·have D:k<l.length:=ae;obtain⟨p,e3,e4⟩:=(H.ext G.2.1).int_at (k':=.i64) D;simp only[go_sem,e3,e4];refine(jc (F _ (cQ _)) (by unfold I64;omega) hs).mono λv2 h3 ⟨e5,w5⟩=>?_
   subst e5;have A:((l.map λx=>cS x 1073741824 (mQ l)).take k).length=k:=by rw[c5,cV];omega
   unfold jM at L;refine(G.ext w5).push_int rfl (by rw[A];omega) (by rw[A];omega) λs' h' H'=>?_
   try rw[du,aj]
   rw[w64 ae ae];have:=I s' h' D (by rw[Ed _ _ D];exact H');exact this
  ·rw[eS (by rw[cV];omega)]at G;exact⟨u,rfl,G⟩
theorem R5 {h:ah}{s:Int}(hs:I64 s):ag prog qG #[af s] h λr h'=>∃u,r=.tuple #[u,af (Fe s)]∧New (Rp.int .i64) h h' u (oF s):=by
 apply Gz;unfold wA;simp only[go_sem];unfold Fe oF;refine ao (λh0=>?_) (λh0=>?_)
 ·have:mo s:=h0;rw[aA this,aA this];exact⟨_,rfl,New.nil (Ext.refl _)⟩
 ·have L:¬mo s:=h0;rw[az L,az L];have hr:0≤gJ s∧gJ s≤193∧65536*gJ s≥3*s∧65536*(gJ s-1)<3*s:=by unfold gJ;omega
  generalize gJ s=q at*;refine lG (λk=>[af (k:Int)]) q.toNat 0 rfl (bZ _) λk again ρj _ U D=>?_
  simp only[go_sem];rw[w64 (n:=(k:Int)*65536) ae ae,w64 (n:=3*s) ae ae];refine ao (λh1=>?_) (λh1=>?_)
  ·rw[w64 ae ae];exact D ae
  have H:(k:Int)=q:=ae;rw[H,w64 (n:=0-q) ae ae];obtain⟨N,hN⟩:∃N,N=(2*q+1).toNat:=⟨_,rfl⟩
  rw[←hN];refine bH N 0 (λk u=>[u,af ((k:Int)-q)]) (λk u h'=>New (Rp.int .i64) h h' u (((List.range N).map λk:Nat=>BQ ((k:Int)-q) s).take k)) (.slice none 0 0) rfl (bZ _) (New.nil (Ext.refl _)) λk u h2 again ρj _ U G D=>?_
  simp only[go_sem];refine ao (λI=>?_) (λI=>?_)
  ·have F:k<N:=ae;refine(X7 (by unfold I64;omega) hs).mono λv2 I ⟨e5,w5⟩=>?_
   subst e5;have A:(((List.range N).map λk:Nat=>BQ ((k:Int)-q) s).take k).length=k:=by rw[c5,cV,fg];omega
   refine(G.ext w5).push_int rfl (by rw[A];omega) (by rw[A];omega) λs' h' W=>?_
   try rw[du,aj]
   rw[w64 ae ae];have:=D s' h' F (by rw[nJ _ _ _ F];exact W);rw[show((k+1:Nat):Int)-q=(k:Int)-q+1 by omega]at this;exact this
  ·rw[eS (by rw[cV,fg];omega)]at G;exact⟨u,rfl,G⟩
theorem ZP {h:ah}{r:Int}(hr:I64 r):ag prog zL #[af r] h λw h'=>∃u,w=.tuple #[u,af (P8 r)]∧New (Rp.int .i64) h h' u (yx r):=by
 apply Oo;unfold DK
 try simp only[go_sem]
 unfold P8 yx;refine ao (λh0=>?_) (λh0=>?_)
 ·have:uu r:=h0;rw[aA this,aA this];exact⟨_,rfl,New.nil (Ext.refl _)⟩
 ·have H:¬uu r:=h0;rw[az H,az H];rw[w64 (n:=2*r) ae ae]
  try simp only[go_sem]
  rw[w64 (n:=2*r+1) ae ae];obtain⟨N,U⟩:∃N:Nat,N=(2*r+1).toNat:=⟨_,rfl⟩
  rw[←U,show 2*r+1=(N:Int)by omega];refine bH N 0 (λk u=>[u,af (k:Int)]) (λk u h'=>New (Rp.int .i64) h h' u (List.replicate k 1)) (.slice none 0 0) rfl (bZ _) (New.nil (Ext.refl _)) λk u h2 again ρj _ hk D A=>?_
  simp only[go_sem];refine ao (λF=>?_) (λF=>?_)
  ·refine D.push_int rfl (by rw[vv];omega) (by rw[vv];omega) λL h' G=>?_
   try rw[du,aj]
   rw[w64 ae ae];rw[←List.replicate_succ']at G;exact A L h' ae G
  ·have:k=N:=ae;subst this;refine(Nn D.sl (λx I=>by rw[(KJ.1 I).2];unfold I64;omega) (by rw[vv];omega)).mono λw F ⟨u,e,W⟩=>?_
   subst e
   try simp only[go_sem]
   exact⟨u,rfl,W.before D.2.1⟩
theorem Qu {k:IntKind}{Z:Nat→Prop}{h:ah}{v:Value}{l:List Int}(H:Rp.Ow (Rp.int k) Z h v l):Own 1 h v l.length (l.map λn=>Value.int k n):=by
 obtain⟨ds,A,_,G⟩:=H;have L:ds.length=l.length*1:=A.sl.1;have e:ds=l.map λn=>Value.int k n:=by
  apply qu
  ·simp;omega
  ·intro i h1 I;have F:=G i ae;have D:Rp.el 1 ds i=[Value.int k (l[i]'ae)]:=F;rw[Rp.el_one h1]at D;simpa using D
 rw[←e];exact A
structure NM (h0 h:ah)(x y:Value)(l m:List Int):Prop where
 ext:Ext h0 h
 ox:Rp.Ow (Rp.int .i64) (λ_=>False) h x l
 oy:Rp.Ow (Rp.int .i64) (λ_=>False) h y m
 nx:∀b,blk x b→h0.size≤b
 ny:∀b,blk y b→h0.size≤b
 dis:∀b,blk x b→¬blk y b
theorem NM.more {h0 h h':ah}{x y:Value}{l m:List Int}(T:NM h0 h x y l m)(e:Ext h h'):NM h0 h' x y l m:=⟨T.ext.trans e,T.ox.ext e,T.oy.ext e,T.nx,T.ny,T.dis⟩
theorem NM.push_x {h0 h:ah}{x y:Value}{l m:List Int}{n:Int}{t t':TypeId}{bytes:Nat}{K:Value→ah→Prop}(T:NM h0 h x y l m)(A:(l.length+1)*bytes≤140737488355328)(hn:l.length+1≤9223372036854775807)
  (H:∀D h',NM h0 h' D y (l++[n]) m→K D h'):df #[ai] t 1 [(0,1,af n)] h λL I=>di ai t' 1 bytes x L I K:=by
 refine Rp.push_ow1 (e:=Rp.int .i64) rfl T.ox (x:=n) rfl rfl A hn (λb A=>A.elim) λW h' o' G n'=>H W h' ⟨T.ext.then_fr G T.nx,o',T.oy.fr G (λ_ _=>False.elim) λb A U=>T.dis b U A,λb A=>?_,T.ny,λb A F=>?_⟩
 ·rcases n' b A with h1|h1
  ·exact T.nx b h1
  ·exact bh T.ext.1 h1
 ·rcases n' b A with h1|h1
  ·exact T.dis b h1 F
  ·have:=T.oy.lt F;omega
theorem NM.swap {h0 h:ah}{x y:Value}{l m:List Int}(T:NM h0 h x y l m):NM h0 h y x m l:=⟨T.ext,T.oy,T.ox,T.ny,T.nx,λb A D=>T.dis b D A⟩
theorem sH {β:Type}(g:Nat→β)(n k:Nat)(h:k<n):(List.range (k+1)).map g=(List.range k).map g++[g k]:=by
 rw[lU,iD];rfl
theorem Eh {Z:Nat→Prop}{h:ah}{v:Value}{l:List Int}(H:SlI Z h v l)(ab:∀x∈l,I64 x)(hl:l.length<4611686018427387904):
  ag prog iN #[v] h λr h'=>∃u,r=.tuple #[u,af (cW l)]∧New (Rp.int .i64) h h' u (cz l):=by
 apply EI;unfold uU;obtain⟨a,cap,e⟩:=H.isSl;have e2:aD v=some (af (l.length:Int)):=by rw[e];rfl
 simp only[go_sem,e2];refine ao (λh0=>?_) (λh0=>?_)
 ·have hB:Fs l:=by unfold Fs;rcases h0 with W|W;exact .inl ae;exact .inr (.inl ae)
  have hc:cW l=7:=by unfold cW;rw[aA hB]
  unfold cz;rw[hc,az ae];exact⟨_,rfl,New.nil (Ext.refl _)⟩
 refine bH (α:=Unit) l.length 0 (λi _=>[af (i:Int)]) (λi _ h'=>(∀j (L:j<l.length),j<i→¬1099511627776<ni l[j])∧h'=h) () rfl (bZ _) ⟨λj _ L=>absurd L ae,rfl⟩ λi _ h1 again ρj _ hi ⟨hs,eh⟩ ad=>?_
 have eh:=eh.symm;subst eh;simp only[go_sem];refine ao (λW=>?_) (λW=>?_)
 ·have F:i<l.length:=ae;obtain⟨p,e3,e4⟩:=H.int_at (k':=.i64) F;simp only[go_sem,e3,e4];have hx:=ab _ (cQ F);refine(T6 hx).mono λv1 h1 ⟨e1,w1⟩=>?_
  have w1:=w1.symm;subst e1 w1;simp only[go_sem];refine ao (λD=>?_) (λD=>?_)
  ·have hB:Fs l:=.inr (.inr ⟨_,cQ F,D⟩);have hc:cW l=7:=by unfold cW;rw[aA hB]
   unfold cz;rw[hc,az ae];exact⟨_,rfl,New.nil (Ext.refl _)⟩
  ·rw[w64 ae ae];refine ad () h F ⟨λj L cp=>?_,rfl⟩;by_cases be:j=i
   ·subst be;exact D
   ·exact hs j L ae
 have b0:i=l.length:=ae;subst b0;have hB:¬Fs l:=by
  unfold Fs;rintro(D|D|⟨x,hx,D⟩)
  ·omega
  ·omega
  ·obtain⟨j,L,rfl⟩:=List.getElem_of_mem hx;exact hs j L L D
 refine(zbl H ab hl).mono λv1 h1 ⟨e1,w1⟩=>?_
 have w1:=w1.symm;subst e1 w1;simp only[go_sem];refine ao (λD=>?_) (λD=>?_)
 ·have hc:cW l=8:=by unfold cW;rw[az hB,aA D]
  unfold cz;rw[hc,az ae];exact⟨_,rfl,New.nil (Ext.refl _)⟩
 have hc:cW l=0:=JO.2 ⟨hB,ae⟩;have G:=Zf ab hc;have s1:=G.sum;have b5:=SA l;have hn:=G.len;have bv:=G.pos;unfold cz;rw[aA hc,hc];refine bH (α:=Value×Value) l.length 0 (λk a=>[a.1,a.2,af (vA l k),af (k:Int)]) (λk a h'=>NM h h' a.1 a.2 ((List.range k).map (gw l)) ((List.range k).map (dW l))) (.slice none 0 0,.slice none 0 0) rfl (bZ _)
  ⟨Ext.refl _,Rp.Ow.nil,Rp.Ow.nil,λb A=>A.elim,λb A=>A.elim,λb A=>A.elim⟩ λk a h1 again ρj _ hk T ad=>?_
 obtain⟨x,y⟩:=a;have T:NM h h1 x y ((List.range k).map (gw l)) ((List.range k).map (dW l)):=T;simp only[go_sem];refine ao (λh4=>?_) (λh4=>?_)
 ·have al:k<l.length:=ae;obtain⟨p,e3,e4⟩:=(H.ext T.ext).int_at (k':=.i64) al;simp only[go_sem,e3,e4];have eg:l.getD k 0=l[k]:=by simp[dQ,al]
  have hx:=G.small k;rw[eg]at hx;rw[w64 (n:=l[k]*16384) ae ae];refine(PQ (by unfold I64;omega) b5).mono λv1 h4 ⟨e5,w5⟩=>?_
  subst e5;rw[qA (by unfold I64;omega) ae];have eb:l[k]*16384/mN l=gw l k:=by unfold gw;rw[eg]
  have er:dW l k=l[k]*16384-gw l k*mN l:=by unfold dW;rw[←eb,eg,Int.emod_def,fQ (mN l)]
  rw[eb];have a9:=yA G k;have b8:=MJ G k;have b6:=LJ G k;refine(T.more w5).push_x (by rw[cV,fg];omega) (by rw[cV,fg];omega) λx' h5 T=>?_
  try simp only[go_sem]
  have cc:gw l k*mN l=l[k]*16384-dW l k:=by rw[er];omega
  have cr:dW l k<mN l:=b6.2;have ca:mN l≤1152921504606846976:=by
   have h6:=Qq G l.length;rw[←OZ G]at h6;have:(l.length:Int)*1099511627776≤1048576*1099511627776:=ae;omega
  rw[w64 (n:=gw l k*mN l) ae ae,←er,w64 (n:=dW l k) ae ae];refine T.swap.push_x (by rw[cV,fg];omega) (by rw[cV,fg];omega) λy' h6 T=>?_
  try simp only[go_sem]
  rw[w64 (n:=vA l k-gw l k) ae ae,w64 (n:=(k:Int)+1) ae ae];refine ad (x',y') h6 al ?_;rw[sH _ (k+1) k ae,sH _ (k+1) k ae];exact T.swap
 have a8:k=l.length:=ae;subst a8;obtain⟨L0,L1⟩:=left_bd G;obtain⟨m,hm⟩:∃m:Nat,yt l=(m:Int):=⟨(yt l).toNat,ae⟩
 have bd:vA l l.length=(m:Int):=hm;rw[bd];have o1:=Qu T.ox;have o2:=Qu T.oy;rw[cV,fg,CZ]at o1 o2;have ar:=T.dis;have nx:=T.nx;have ny:=T.ny;have E1:=T.ext;obtain⟨ya,aw,ey⟩:=o2.isSl;have ey:y=.slice ya l.length aw:=ey;have bo:aD y=some (af (l.length:Int)):=by rw[ey];rfl
 refine bH (α:=Unit) m 0 (λk _=>[af ((m:Int)-(k:Int))])
  (λk _ h'=>Ext h h'∧Own 1 h' x l.length ((List.range l.length).map λi=>af (gw l i+(if(lS (dW l) l.length i:Int)<(k:Int)then 1 else 0)))∧Own 1 h' y l.length ((List.range l.length).map λi=>af (jQ (dW l) l.length k i)))
  () (by simp) (bZ _) ⟨E1,by
   rw[bM (f:=λi=>af (gw l i)) (λi hi=>by rw[az ae,Int.add_zero])];exact o1,by rw[S0];exact o2⟩ λk _ W ax ρj2 _ hk ⟨E2,q1,q2⟩ an=>?_
 simp only[go_sem];refine ao (λh5=>?_) (λh5=>?_)
 ·have b4:k<m:=ae;rw[bo,aj];have bk:∀i,i<l.length→0≤dW l i:=λi _=>(LJ G i).1
  refine bH (α:=Nat) l.length 0 (λj b=>[af (b:Int),af (j:Int)])
   (λj b h'=>h'=W∧b<l.length∧(∀i,i<j→jQ (dW l) l.length k i≤jQ (dW l) l.length k b)∧(∀i,i<b→jQ (dW l) l.length k i<jQ (dW l) l.length k b)∧b≤j) 0 rfl (bZ _)
   ⟨rfl,bv,λi hi=>absurd hi ae,λi hi=>absurd hi ae,bU _⟩ λj b D ay ρj3 _ L ⟨eh,A,p1,p2,cb⟩ U=>?_
  have eh:=eh.symm;subst eh;simp only[go_sem];refine ao (λh6=>?_) (λh6=>?_)
  ·have I:j<l.length:=ae;obtain⟨pj,j1,j2,_⟩:=Own.at_map q2 (k:=.i64) I;obtain⟨pb,b1,b2,_⟩:=Own.at_map q2 (k:=.i64) A;simp only[go_sem,j1,j2,b1,b2];rw[w64 (n:=(j:Int)+1) ae ae];refine ao (λh7=>?_) (λh7=>?_)
   ·refine U j W I ⟨rfl,I,λi hi=>?_,λi hi=>?_,ae⟩
    ·by_cases aa:i=j
     ·rw[aa];exact gC _
     ·have:=p1 i ae;omega
    ·have:=p1 i hi;omega
   ·refine U b W I ⟨rfl,A,λi hi=>?_,p2,ae⟩;by_cases aa:i=j
    ·rw[aa];omega
    ·exact p1 i ae
  have bg:j=l.length:=ae;subst bg;have au:=Ys bk (k:=k) ae A p1 p2;obtain⟨px,x1,x2,x3⟩:=Own.at_map q1 (k:=.i64) A;simp only[go_sem,x1,x2];have a9:=yA G b;rw[w64 (n:=gw l b+(if(lS (dW l) l.length b:Int)<(k:Int)then 1 else 0)+1) (by split<;>omega) (by split<;>omega)];refine x3 _ _ λD b7 f3=>?_
  have b3:=q2.fr f3 λc hc hx=>ar c hx hc
  obtain⟨py,y1,y2,y3⟩:=Own.at_map b3 (k:=.i64) A;simp only[go_sem,y1];refine y3 _ _ λh4 a7 f4=>?_
  have bc:=b7.fr f4 λc hc hy=>ar c hc hy
  rw[w64 ae ae,show(m:Int)-(k:Int)-1=(m:Int)-((k+1:Nat):Int)by omega];refine an () h4 b4 ⟨(E2.then_fr f3 nx).then_fr f4 ny,?_,?_⟩
  ·rw[bM (f:=λj=>af (if j=b then gw l b+(if(lS (dW l) l.length b:Int)<(k:Int)then 1 else 0)+1 else gw l j+if(lS (dW l) l.length j:Int)<(k:Int)then 1 else 0)) (λi hi=>by
    congr 1
    by_cases he:i=b
    ·rw[aA he,he,aA ae,az ae];omega
    ·rw[az he];have ci:lS (dW l) l.length i≠k:=λe=>he (Gs hi A (e.trans au.symm))
     by_cases h8:lS (dW l) l.length i<k
     ·rw[aA ae,aA ae]
     ·rw[az ae,az ae])]
   exact bc
  ·rw[bM (f:=λj=>af (if j=b then-1 else jQ (dW l) l.length k j)) (λi hi=>by rw[S5 A au hi])];exact a7
 ·have:k=m:=ae;subst this;refine⟨x,rfl,⟨(mM l).map λn=>af n,?_,λc _=>id,λi hi=>?_⟩,E2,nx⟩
  ·rw[p8];unfold mM;rw[CZ];simp only[←hm]at q1;exact q1
  ·have e:Rp.el (Rp.int .i64).w ((mM l).map λn=>af n) i=[af (mM l)[i]]:=by
    have:=Rp.el_one (ds:=(mM l).map λn=>af n) (i:=i) (by simpa using hi);rw[eU]at this;exact this
   exact e
end Go.Proofs.YtjljhnandbbldaaGreatDoor
namespace Go.Proofs.YtjljhnandbbldaaGreatDoor
open Go Go.Crisp
attribute [local irreducible] ag df aW stK aF vK qK bJ gK eK aZ mkK di Fi GM CF bsK
open _root_.Go.Proofs.Tryz
theorem Jg (a:Option Addr)(n c:Nat):ak .sl .eql (.slice a n c) (.slice none 0 0)=some (.bool a.isNone):=by cases a<;>rfl
theorem Yo {h:ah}{Z:Nat→Prop}{v:Value}{l:List Int}(H:Rp.Sl rI Z h v l)(hl:l.length≤1000000000):
  ag prog dd #[v] h λr h'=>Rp.Sl rI (λb=>h.size≤b) h' r l∧Ext h h':=by
 apply jr;unfold fP;obtain⟨ds,⟨D,a,cap,rfl,F⟩,A,he⟩:=H;rw[Jg,aj];cases a with
 | none=>
  have:l=[]:=by
   rcases F with F|⟨b,o,h0,_⟩
   ·subst F;have h2:([]:List Value).length=l.length*1:=D;exact mX (by simpa using h2.symm)
   ·cases h0
  subst this;simp only[Rn,go_sem];exact⟨Rp.Sl.nil,Ext.refl _⟩
 | some a=>
  simp only[Rm,go_sem];refine da (c':=#[]) rfl λb h1 r1 L n1=>?_
  have O:Rp.Ow rI (λ_=>False) h1 (.slice (some ⟨b,0,none⟩) 0 0) []:=⟨[],.inr ⟨b,0,[],_,rfl,bU _,rfl,rfl,r1⟩,λb hb I=>I,λi hi=>absurd hi (by simp)⟩
  have S1:SlC 1 h1 (.slice (some a) l.length cap) l.length ds:=SlC.ext ⟨D,some a,cap,rfl,F⟩ L;refine Rp.app_ow (e:=rI) (l:=[]) (l2:=l) O S1 (λi hi=>he i hi) rfl (by simp;omega) (by simp;omega) (λb hb=>hb.elim) λv2 h2 W f2 n2=>?_
  rw[fB]at W;have nb:∀k,blk (.slice (some ⟨b,0,none⟩) 0 0) k→h.size≤k:=λk U=>by have:k=b:=U;omega
  refine⟨W.sl.mono λk U A=>?_,L.then_fr f2 nb⟩;rcases A with A|A
  ·exact A.elim
  ·rcases n2 k A with G|G
   ·exact nb k G
   ·exact bh L.1 G
end Go.Proofs.YtjljhnandbbldaaGreatDoor
namespace Go.Crisp
open Go
def dB (g:Nat→Int):Nat→Int
 |0=>0
 |k+1=>if dB g k≠0 then dB g k else g k
theorem Ee {g:Nat→Int}{k n:Nat}(h:dB g k≠0)(D:k≤n):dB g n=dB g k:=by
  induction n with
  | zero => have:k=0:=ae
            rw[this]
  | succ n A=>
    rcases oE n k with h1|h1
    · have:k=n+1:=ae
      rw[this]
    · have:=A h1
      show(if dB g n≠0 then dB g n else g n)=_;rw[this,aA h]
end Go.Crisp
namespace Go.Proofs.YtjljhnandbbldaaGreatDoor
open Go Go.Crisp
attribute [local irreducible] ag df aW stK aF vK qK bJ gK eK aZ mkK di Fi GM CF bsK clK
open _root_.Go.Proofs.Tryz
def bC (n:Int):Prop:=1≤n∧n≤65536
instance (n:Int):Decidable (bC n):=by unfold bC;infer_instance
theorem TM (f:Int):TN f=[]↔ ¬(0≤f∧f<3):=by
 unfold TN;split
 ·constructor
  ·intro h;cases h
  ·intro h;omega
 split
 ·constructor
  ·intro h;cases h
  ·intro h;omega
 split
 ·constructor
  ·intro h;cases h
  ·intro h;omega
 ·constructor
  ·intro _;omega
  ·intro _;rfl
def eI (f n m:Int):Int:=if¬(0≤f∧f<3)∨¬bC n∨¬bC m then 6 else dB (λi=>cW (dr f n m i)) m.toNat
def gb (f n m:Int):Tbl:=⟨n,(List.range m.toNat).map λi:Nat=>(ft f n m i,cz (dr f n m i))⟩
theorem vl (f n m i:Int):∀x∈dr f n m i,I64 x:=by
 unfold dr;split
 ·intro x A;unfold Er at A;obtain⟨k,_,rfl⟩:=iG.1 A;exact Uv _ _ _ _ _
 ·simp
theorem LI (f n m i:Int):(dr f n m i).length<4611686018427387904:=by
 unfold dr;split
 ·rename_i h;unfold Er;rw[cV,fg];have:=MG h;omega
 ·simp
theorem qB {l:List Int}(A:∀x∈l,I64 x):(cz l).length≤1048576∧∀x∈cz l, -67108864≤x∧x≤67108865:=by
 unfold cz;split
 ·rename_i h;have G:=Zf A h;exact⟨by rw[p8];exact G.len,Xn G⟩
 ·simp
theorem JX {l:List Int}(A:∀x∈l,I64 x):∀x∈cz l,I64 x:=λx D=>by
 have:=(qB A).2 x D;unfold I64;omega
def VJ (h:ah)(code:Int)(t:Tbl)(r:Value)(h':ah):Prop:=∃p,r=.tuple #[p,.int .i64 code]∧Ext h h'∧(code≠0→p=.pointer none)∧(code=0→fG (λc=>h.size≤c∧c<h'.size) h' p t)
theorem Nx {h:ah}(G:eB h){f n m:Int}(hf:I64 f)(hn:I64 n)(hm:I64 m):ag prog lg #[af f,af n,af m] h (VJ h (eI f n m) (gb f n m)):=by
 apply Kg;unfold Ad;refine(PM G).mono λv1 h1 ⟨e1,w1⟩=>?_
 subst e1 w1;rw[Xf,NH,aj];unfold eI;have ab:=TM f;have I:(¬(0≤f∧f<3)∨¬bC n∨¬bC m)→VJ h1 (if¬(0≤f∧f<3)∨¬bC n∨¬bC m then 6 else dB (λi=>cW (dr f n m i)) m.toNat) (gb f n m) (.tuple #[.pointer none,af 6]) h1:=by
  intro hb;rw[aA hb];exact⟨_,rfl,Ext.refl _,λ_=>rfl,λh=>by cases h⟩
 by_cases h0:TN f=[]
 ·have A:=I (.inl (ab.1 h0));simp only[go_sem,h0];exact A
 have ar:0≤f∧f<3:=co λh=>h0 (ab.2 h)
 simp only[go_sem,h0];refine BY.mono λv1 h2 ⟨e1,w1⟩=>?_
 subst e1 w1;by_cases H:¬bC n
 ·have A:=I (.inr (.inl H));have q:(1≤n∧n≤65536)=False:=fJ H;simp only[go_sem,q];exact A
 have H:bC n:=co H;have q:(1≤n∧n≤65536)=True:=jx H;simp only[go_sem,q];refine BY.mono λv1 h3 ⟨e1,w1⟩=>?_
 subst e1 w1;by_cases D:¬bC m
 ·have A:=I (.inr (.inr D));have q:(1≤m∧m≤65536)=False:=fJ D;simp only[go_sem,q];exact A
 have D:bC m:=co D;have q:(1≤m∧m≤65536)=True:=jx D;simp only[go_sem,q,WQ (a:=af n) rfl,cI];rw[az (by rintro(h|h|h);exact h ar;exact h H;exact h D)]
 clear I q
 refine aI λb h4 r4 e4 n4=>?_
 have W:=H;have U:=D;unfold bC at W U;have F:∀k:Nat,((List.range k).map λi:Nat=>(ft f n m i,cz (dr f n m i))).length=k:=λk=>by simp
 refine bH m.toNat 0 (λk (_:Unit)=>[af (k:Int)]) (λk _ h'=>dB (λi=>cW (dr f n m i)) k=0∧∃Z lv,Ei h3 Z h' b 224 lv n ((List.range k).map λi:Nat=>(ft f n m i,cz (dr f n m i)))) () rfl (bZ _)
  ⟨rfl,λ_=>False,_,e4,r4,Rp.Ow.nil,n4,λc hc=>hc.elim,id,id,λc hc=>hc.elim⟩ λk _ h5 again ρj _ hk ⟨hg,Z,lv,T⟩ ad=>?_
 try simp only[go_sem]
 refine ao (λh6=>?_) (λh6=>?_)
 ·have aa:k<m.toNat:=ae;have G5:=G.ext T.ext;refine(T0 G5).mono λw h7 ⟨v,e,Nw⟩=>?_
  subst e
  try simp only[go_sem]
  refine(Cc Nw.sl (vl _ _ _ _) (LI _ _ _ _)).mono λw h8 ⟨u,e,Nu⟩=>?_
  subst e
  try simp only[go_sem]
  refine ao (λL=>?_) (λL=>?_)
  ·have hc:dB (λi=>cW (dr f n m i)) (k+1)=cW (dr f n m k):=by
    show(if dB (λi=>cW (dr f n m i)) k≠0 then _ else _)=_;rw[az (by rw[hg];simp)]
   have hs:=Ee (g:=λi=>cW (dr f n m i)) (k:=k+1) (n:=m.toNat) (by rw[hc];exact L) aa;rw[hs,hc];exact⟨_,rfl,(T.ext.trans Nw.2.1).trans Nu.2.1,λ_=>rfl,λh=>absurd h L⟩
  ·have L:cW (dr f n m k)=0:=co L;have bd:=qB (vl f n m k);have T2:Ei h3 (λc=>Z c∨blk u c) h8 b 224 lv n _:=T.more (Z':=λc=>Z c∨blk u c) (Nw.2.1.trans Nu.2.1) (λc=>.inl) λc hc hz=>by
    rcases hc with hc|hc
    ·exact absurd hc hz
    ·exact⟨bh Nw.2.1.1 (Nu.2.2 c hc),Nu.1.lt hc⟩
   refine(Ni T2 (Nu.sl.mono λc _ hc=>.inr hc) (JX (vl _ _ _ _)) ae (by rw[F];omega)).mono λw al ⟨an,T3,_⟩=>?_
   rw[w64 ae ae];refine ad () al aa ⟨?_,λc=>Z c∨blk u c,an,?_⟩
   ·show(if dB (λi=>cW (dr f n m i)) k≠0 then _ else _)=_;rw[az (by rw[hg];simp)];exact L
   ·rw[lU,iD];exact T3
 ·have:k=m.toNat:=ae;subst this;exact⟨_,by rw[hg],T.ext,λh=>absurd hg h,λ_=>T.done⟩
def jV (l:List Int)(n:Int):Int:=if¬bC n then 6 else if l.length%2=0 then 7 else cW l
def lI (l:List Int)(n:Int):Tbl:=⟨n,(List.range n.toNat).map λi:Nat=>((i:Int)-(l.length/2:Nat),cz l)⟩
theorem Uh {h:ah}{Z:Nat→Prop}{v:Value}{l:List Int}{n:Int}(H:SlI Z h v l)(G:∀x∈l,I64 x)(hl:l.length<4611686018427387904)(hn:I64 n):ag prog oQ #[v,af n] h (VJ h (jV l n) (lI l n)):=by
 apply Kh;unfold Ae;refine BY.mono λv1 h1 ⟨e1,w1⟩=>?_
 subst e1 w1;unfold jV;obtain⟨a,cap,e⟩:=H.isSl;have e2:aD v=some (af (l.length:Int)):=by rw[e];rfl
 by_cases D:¬bC n
 ·rw[aA D];have q:(1≤n∧n≤65536)=False:=fJ D;simp only[go_sem,q];exact⟨_,rfl,Ext.refl _,λ_=>rfl,λh=>by cases h⟩
 rw[az D];have D:bC n:=co D;have q:(1≤n∧n≤65536)=True:=jx D;have L:=D;unfold bC at L;simp only[go_sem,q,e2];rw[dP _ _ _ _ ae,aj,jT ae];simp only[go_sem];refine ao (λh0=>?_) (λh0=>?_)
 ·rw[aA ae];exact⟨_,rfl,Ext.refl _,λ_=>rfl,λh=>by cases h⟩
 rw[az ae];refine(Cc H G hl).mono λw h2 ⟨u,e,I⟩=>?_
 subst e;simp only[go_sem];refine ao (λF=>?_) (λF=>?_)
 ·exact⟨_,rfl,I.2.1,λ_=>rfl,λh=>absurd h F⟩
 have F:cW l=0:=co F;have U:(cz l).length=l.length:=by unfold cz;rw[aA F,p8]
 have bd:=qB G;simp only[WQ (a:=af n) rfl,cI,aj,bO];refine aI λb h4 r4 e4 n4=>?_
 have A:∀k:Nat,((List.range k).map λi:Nat=>((i:Int)-(l.length/2:Nat),cz l)).length=k:=λk=>by simp
 refine bH n.toNat 0 (λk (_:Unit)=>[af (k:Int)]) (λk _ h'=>∃lv,Ei h1 (blk u) h' b 224 lv n ((List.range k).map λi:Nat=>((i:Int)-(l.length/2:Nat),cz l))∧SlI (blk u) h' u (cz l)) () rfl (bZ _)
  ⟨_,⟨I.2.1.trans e4,r4,Rp.Ow.nil,bh I.2.1.1 n4,λc hc=>hc.elim,λhc=>by have:=I.1.lt hc;omega,id,λc hc=>⟨I.2.2 c hc,by have:=I.1.lt hc;have:=e4.1;omega⟩⟩,I.sl.ext e4⟩ λk _ h5 again ρj _ hk ⟨lv,T,Hu⟩ aa=>?_
 try simp only[go_sem]
 refine ao (λh6=>?_) (λh6=>?_)
 ·have al:k<n.toNat:=ae;obtain⟨au,cu,eu⟩:=Hu.isSl;have ad:aD u=some (af (l.length:Int)):=by rw[eu,U];rfl
  simp only[go_sem,ad];rw[mq _ _ _ _ ae,aj,wU ae,w64 (n:=(l.length:Int)/2) ae ae];simp only[go_sem];rw[w64 (n:=(k:Int)-(l.length:Int)/2) ae ae,show(k:Int)-(l.length:Int)/2=(k:Int)-(l.length/2:Nat)by omega];refine(Ni T Hu (JX G) ae (by rw[A];omega)).mono λw ab ⟨an,T3,F3⟩=>?_
  try simp only[go_sem]
  rw[w64 ae ae];have hd:∀c,blk u c→¬(c=b∨blk lv c):=λc hc W=>by
   rcases W with rfl|W
   ·exact T.zb hc
   ·obtain⟨ds,_,h2,_⟩:=T.ow;exact h2 c W hc
  refine aa () ab al ⟨an,?_,Hu.fr F3 λc _ hc=>hd c hc⟩;rw[lU,iD];exact T3
 ·have:k=n.toNat:=ae;subst this;exact⟨_,by rw[F],T.ext,λh=>absurd F h,λ_=>T.done⟩
theorem Sg {Z:Nat→Prop}{h:ah}{p:Value}{t:Tbl}(H:fG Z h p t):ag prog fT #[p] h λr h'=>r=af t.n∧h'=h:=by
 apply Dh;unfold tC;obtain⟨b,lv,rfl,A,D,G,I,F,_⟩:=H.open;simp only[go_sem,A];exact⟨by simp,by simp⟩
theorem Dp {Z:Nat→Prop}{h:ah}{p:Value}{t:Tbl}(H:fG Z h p t):ag prog bI #[p] h λr h'=>r=af (t.lines.length:Int)∧h'=h:=by
 apply Gw;unfold wu;obtain⟨b,lv,rfl,G,D,I,L,A,_⟩:=H.open;obtain⟨a,cap,e⟩:=A.isSl;have F:aD lv=some (af (t.lines.length:Int)):=by rw[e];rfl
 simp only[go_sem,D,F];exact⟨by simp,by simp⟩
theorem Sf {Z:Nat→Prop}{h:ah}{p:Value}{t:Tbl}(H:fG Z h p t):ag prog fS #[p] h λr h'=>r=af (cD t.lines)∧h'=h:=by
 apply Df;unfold tu;obtain⟨b,lv,rfl,F,D,A,I,G,_⟩:=H.open;simp only[go_sem,A];exact⟨by simp,by simp⟩
structure _root_.Go.Crisp.Tbl.Wf (t:Tbl):Prop where
 len:t.lines.length≤65536
 taps:∀x∈t.lines,x.2.length≤1048576∧ -70368744177664≤x.1∧x.1≤70368744177664
def bE (t:Tbl)(i:Int):Int×List Int:=if 0≤i then t.lines.getD i.toNat (0,[])else(0,[])
theorem Cb {Z:Nat→Prop}{h:ah}{p:Value}{t:Tbl}(H:fG Z h p t)(W:t.Wf){i:Int}:ag prog bF #[p,af i] h λr h'=>∃u,r=.agg #[af (bE t i).1,u]∧SlI (λb=>h.size≤b∧b<h'.size) h' u (bE t i).2∧Ext h h':=by
 apply Dg;unfold tz;refine aI λbv h1 r1 D n1=>?_
 obtain⟨b,lv,rfl,c0,G,c2,c3,hl,_⟩:=fG.open (H.ext D);obtain⟨a,cap,e⟩:=hl.isSl;have e2:aD lv=some (af (t.lines.length:Int)):=by rw[e];rfl
 simp only[go_sem,G,e2];unfold bE;refine ao (λh0=>?_) (λh0=>?_)
 ·have U:(if 0≤i then t.lines.getD i.toNat (0,[])else((0,[]):Int×List Int))=(0,[]):=by
   split
   ·rw[dQ,GV ae];rfl
   ·rfl
  rw[U,gG,cI,aj];refine cT (l:=[ai,.slice none 0 0]) r1 rfl (aq rfl (aq rfl aX)) rfl λh2 r2 u2=>?_
  rw[aU r2 2 rfl,aj];exact⟨_,rfl,Rp.Sl.nil,D.upd n1 u2⟩
 ·obtain⟨k,rfl⟩:∃k:Nat,i=(k:Int):=⟨i.toNat,ae⟩
  have I:k<t.lines.length:=ae;have U:(if(0:Int)≤(k:Int)then t.lines.getD (k:Int).toNat (0,[])else((0,[]):Int×List Int))=t.lines[k]:=by
   rw[aA ae,eT,dQ,ja I];rfl
  rw[U];obtain⟨b2,o2,cs,A,i2,i3,⟨u,rfl,hu⟩,F⟩:=Rp.Sl.atp (e:=mh) hl (show 0<2 by omega) (k:=.i64) I;have A:bu 2 lv (af (k:Int))=some (.pointer (some ⟨b2,o2,none⟩)):=A;have j0:=i3 0 (by simp);have j1:=i3 1 (by simp);simp only[CS,List.getElem_cons_succ]at j0 j1;refine aP (λh'=>Ext h1 h') (Ext.refl _) ?_;refine aC lv (λh' e=>e.cell G) ?_;rw[A];simp only[go_sem];refine aC _ (λh' e=>e.cell j0) ?_;refine aC lv (λh' e=>e.cell G) ?_;rw[A];simp only[go_sem];refine aC _ (λh' e=>e.cell j1) ?_;have aa:=(W.taps _ (cQ I)).1;refine(Yo hu ae).mono λw h3 ⟨hw,L⟩=>?_
  refine⟨L,?_⟩;have one:=hw.one;rw[zD (a:=af t.lines[k].1) rfl one,cI,aj];refine cT (l:=[af t.lines[k].1,w]) (L.row r1) rfl (aq rfl (aq one aX)) rfl λh5 r5 u5=>?_
  rw[aU r5 2 rfl,aj];have hb:=bB r1;refine⟨w,rfl,?_,(D.trans L).upd n1 u5⟩;obtain⟨ds,hs,F,he⟩:=hw.fr (M:=λc=>c=bv) u5.fr λc hc F he=>by have:=he▸F;omega
  refine⟨ds,hs,λh0 c hc=>⟨?_,?_⟩,λi hi=>he i hi⟩
  ·have:=F h0 c hc;have:=D.1;omega
  ·exact hs.lt h0 hc
def Es (ls:List (Int×List Int))(x0:Int):Int:=ls.foldl (λm x=>min m x.1) x0
def Iw (ls:List (Int×List Int))(x0:Int):Int:=ls.foldl (λm x=>max m (x.1+(x.2.length:Int))) x0
def Qg (t:Tbl)(i k:Nat):List (Int×List Int):=(t.lines.drop i).take (k-i)
def xk (t:Tbl)(i k:Int):Int×Int:=
 if(min k (t.lines.length:Int))≤max i 0 then(0,0)
 else let i':=(max i 0).toNat;let k':=(min k (t.lines.length:Int)).toNat;let x0:=(t.lines.getD i' (0,[])).1
  (Es (Qg t i' k') x0,Iw (Qg t i' k') x0-Es (Qg t i' k') x0)
theorem BT {β γ:Type}(f:γ→β→γ)(l:List β){k:Nat}(h:k<l.length)(s:γ):(l.take (k+1)).foldl f s=f ((l.take k).foldl f s) l[k]:=by
 rw[ju h,CJ];rfl
theorem YM {ls:List (Int×List Int)}{x0:Int}(h0: -70368744177664≤x0∧x0≤70368744177664)(h:∀x∈ls,x.2.length≤1048576∧ -70368744177664≤x.1∧x.1≤70368744177664):
  (-70368744177664≤Es ls x0∧Es ls x0≤70368744177664)∧ -70368744177664≤Iw ls x0∧Iw ls x0≤70369000000000:=by
 unfold Es Iw;have G:∀(ls:List (Int×List Int)) (m:Int),(∀x∈ls,x.2.length≤1048576∧ -70368744177664≤x.1∧x.1≤70368744177664)→ -70368744177664≤m∧m≤70368744177664→ -70368744177664≤ls.foldl (λm x=>min m x.1) m∧ls.foldl (λm x=>min m x.1) m≤70368744177664:=by
  intro ls;induction ls with
  |nil=>intro m _ h;exact h
  |cons x ls A=>intro m h H;have:=h x (by simp);exact A _ (λy D=>h y (by simp[D])) (by dsimp only;omega)
 have F:∀(ls:List (Int×List Int)) (m:Int),(∀x∈ls,x.2.length≤1048576∧ -70368744177664≤x.1∧x.1≤70368744177664)→ -70368744177664≤m∧m≤70369000000000→ -70368744177664≤ls.foldl (λm x=>max m (x.1+(x.2.length:Int))) m∧ls.foldl (λm x=>max m (x.1+(x.2.length:Int))) m≤70369000000000:=by
  intro ls;induction ls with
  |nil=>intro m _ h;exact h
  |cons x ls A=>intro m h H;have:=h x (by simp);exact A _ (λy D=>h y (by simp[D])) (by dsimp only;omega)
 exact⟨G ls x0 h h0,F ls x0 h ae⟩
theorem Sd {Z:Nat→Prop}{h:ah}{p:Value}{t:Tbl}(H:fG Z h p t)(W:t.Wf){i k:Int}(hi:I64 i)(hk:I64 k):ag prog gL #[p,af i,af k] h λr h'=>r=.tuple #[af (xk t i k).1,af (xk t i k).2]∧Ext h h':=by
 apply Bz;unfold ry;obtain⟨b,lv,rfl,c0,c1,c2,c3,hl,_,_,⟨la,ln,lc,el,aw⟩⟩:=H.open;have e2:aD lv=some (af (t.lines.length:Int)):=by
  obtain⟨a,cap,e⟩:=hl.isSl;rw[e];rfl
 simp only[go_sem,c1,e2];unfold xk;refine ao (λh0=>?_) (λh0=>?_)
 ·rw[aA h0];exact⟨rfl,Ext.refl _⟩
 rw[az h0];obtain⟨A,ad⟩:∃A:Nat,max i 0=(A:Int):=⟨(max i 0).toNat,ae⟩
 obtain⟨k',ay⟩:∃k':Nat,min k (t.lines.length:Int)=(k':Int):=⟨(min k (t.lines.length:Int)).toNat,ae⟩
 simp only[ad,ay,eT]at h0 ⊢;have bc:A<k':=ae;have al:k'≤t.lines.length:=ae;have I:A<t.lines.length:=ae;have eg:t.lines.getD A (0,[])=t.lines[A]:=by rw[dQ,ja I];rfl
 rw[eg];obtain⟨b2,o2,cs,q1,q2,q3,⟨u,rfl,hu⟩,hz⟩:=Rp.Sl.atp (e:=mh) hl (show 0<2 by omega) (k:=.i64) I;have q1:bu 2 lv (af (A:Int))=some (.pointer (some ⟨b2,o2,none⟩)):=q1;have j0:=q3 0 (by simp);simp only[CS]at j0;obtain⟨L,s1,s2⟩:=hl.part (show A≤k' by omega) al el aw (k:=.i64) (k':=.i64);have s1:xj 2 lv (some (af (A:Int))) (some (af (k':Int)))=some L:=s1;simp only[go_sem,q1,j0,c1,s1];have aa:(t.lines.drop A).take (k'-A)=Qg t A k':=rfl;rw[aa]at s2;have bd:(Qg t A k').length=k'-A:=by unfold Qg;rw[c5,iZ];omega
 have G:∀x∈Qg t A k',x∈t.lines:=λx hx=>Rt (CP hx)
 obtain⟨a3,a9,e3⟩:=s2.isSl;have e4:aD L=some (af ((Qg t A k').length:Int)):=by rw[e3];rfl
 rw[e4,aj];generalize an:t.lines[A].1=x0;have U:=W.taps _ (cQ I);rw[an]at U;generalize a7:Qg t A k'=D at*;refine bH D.length 0 (λk (_:Unit)=>[af (Es (D.take k) x0),af (Iw (D.take k) x0),af (k:Int)]) (λk _ h'=>Ext h h') () rfl (bZ _) (Ext.refl _) λk _ h2 again ρj _ hk E2 ax=>?_
 simp only[go_sem];refine ao (λh3=>?_) (λh3=>?_)
 ·have F:k<D.length:=ae;obtain⟨p2,a8,z1,z2,⟨u2,rfl,ab⟩⟩:=Rp.Sl.atw (e:=mh) (s2.ext E2) (show 0<2 by omega) (k:=.i64) F;have z1:bu 2 L (af (k:Int))=some p2:=z1;have z2:aO 2 h2 p2=some (.agg #[af D[k].1,u2]):=z2;rw[z1,aj,z2,aj];refine dk (cs:=[af D[k].1,u2]) rfl (aq rfl (aq ab.one aX)) rfl λbv h4 r4 e5 n5=>?_
  obtain⟨au,cu,eu⟩:=ab.isSl;have ar:aD u2=some (af (D[k].2.length:Int)):=by rw[eu];rfl
  have d0:aG h4 ⟨bv,0,none⟩=some (af D[k].1):=am r4;have d1:aG h4 ⟨bv,1,none⟩=some u2:=am r4;have hw:=W.taps _ (G _ (cQ F));simp only[go_sem,d0,d1,ar];rw[w64 (n:=D[k].1+(D[k].2.length:Int)) ae ae,w64 (n:=(k:Int)+1) (by have:=W.len;omega) (by have:=W.len;omega)];have:=ax () h4 F (E2.trans e5);unfold Es Iw at this ⊢;rw[BT _ _ F,BT _ _ F]at this;exact this
 ·rw[eS ae];have:=YM (ls:=D) (x0:=x0) U.2 (λx hx=>W.taps x (G x hx));rw[w64 ae ae];exact⟨rfl,E2⟩
theorem Ul (b:Int):NJ b=[]↔ ¬(0≤b∧b<3):=by
 unfold NJ;split
 ·constructor
  ·intro h;cases h
  ·intro h;omega
 split
 ·constructor
  ·intro h;cases h
  ·intro h;omega
 split
 ·constructor
  ·intro h;cases h
  ·intro h;omega
 ·constructor
  ·intro _;omega
  ·intro _;rfl
def kF (o:OpD):Prop:=(0≤o.kind∧o.kind<4)∧(0≤o.border∧o.border<3)∧(o.kind=3→bC o.w∧bC o.hh∧0≤o.filter∧o.filter<3)
instance (o:OpD):Decidable (kF o):=by unfold kF;infer_instance
theorem Ic {h:ah}{n:Int}:ag prog uI #[af n] h λr h'=>r=.bool (decide (bC n))∧h'=h:=by
 apply UV;unfold Ls;simp only[go_sem];exact⟨rfl,by first|rfl|trivial⟩
theorem zbt {Z:Nat→Prop}{h:ah}(G:eB h){cs:List Value}{o:OpD}(H:rOp.R Z h cs o):ag prog NO #[.agg cs.toArray] h λr h'=>r=.bool (decide (kF o))∧Ext h h':=by
 apply XC;unfold Pb;obtain⟨s,t,rfl,Hx,Hy⟩:=H;simp only[bO];refine aI λb h1 r1 D n1=>?_
 have G1:=G.ext D;simp only[go_sem,am r1];have L:=Ul o.border;by_cases hk:o.kind<0∨4≤o.kind
 ·have q:kF o=False:=fJ (by unfold kF;omega);simp only[go_sem,hk,q];exact⟨by simp,D⟩
 simp only[go_sem,hk];refine(Ie G1).mono λv h2 ⟨e,w⟩=>?_
 subst e w
 try rw[Xf]
 rw[NH,aj];by_cases W:NJ o.border=[]
 ·have q:kF o=False:=fJ (by unfold kF;exact λh=>L.1 W h.2.1);simp only[go_sem,W,q];exact⟨by simp,D⟩
 have U:0≤o.border∧o.border<3:=co λh=>W (L.2 h)
 simp only[go_sem,W,am r1];by_cases A:¬o.kind=3
 ·have q:kF o=True:=jx ⟨ae,U,λh=>absurd h A⟩;simp only[go_sem,A,q];exact⟨by simp,D⟩
 have A:o.kind=3:=co A;simp only[go_sem,A,am r1];refine Ic.mono λv h3 ⟨e,w⟩=>?_
 subst e w;by_cases F:¬bC o.w
 ·have q:kF o=False:=fJ (λh=>F (h.2.2 A).1);simp only[go_sem,F,q];exact⟨by simp,D⟩
 have F:bC o.w:=co F;simp only[go_sem,F,am r1];refine Ic.mono λv h4 ⟨e,w⟩=>?_
 subst e w;by_cases hh:¬bC o.hh
 ·have q:kF o=False:=fJ (λh=>hh (h.2.2 A).2.1);simp only[go_sem,hh,q];exact⟨by simp,D⟩
 have hh:bC o.hh:=co hh;simp only[go_sem,hh,am r1];refine(PM G1).mono λv h5 ⟨e,w⟩=>?_
 subst e w
 try rw[Xf]
 rw[NG,aj];have I:=TM o.filter;simp only[go_sem];refine⟨?_,D⟩
 congr 1
 rw[gE];unfold kF;constructor
 ·intro hf;exact⟨ae,U,λ_=>⟨F,hh,co λh=>hf (I.2 h)⟩⟩
 ·intro hf he;exact I.1 he (hf.2.2 A).2.2
def gY (o:OpD):Int:=if o.kind=0 then Fe o.sigma else if o.kind=1 then P8 o.radius else if AK o.x≠0 then AK o.x else AK o.y
def dZ (o:OpD):List Int:=if o.kind=0 then oF o.sigma else if o.kind=1 then yx o.radius else rk o.x
def dy (o:OpD):List Int:=if o.kind=0 then oF o.sigma else if o.kind=1 then yx o.radius else rk o.y
theorem yJ (o:OpD):∀x∈dZ o,I64 x:=by
 unfold dZ;split
 ·exact M5 _
 split
 ·exact P7 _
 ·exact Im _
theorem yI (o:OpD):∀x∈dy o,I64 x:=by
 unfold dy;split
 ·exact M5 _
 split
 ·exact P7 _
 ·exact Im _
theorem xT (l:List Int):(rk l).length≤1024:=by
 unfold rk;split
 ·simp
 ·rename_i h;unfold jM at h;rw[cV];omega
theorem Fc (s:Int):(oF s).length≤1024:=by
 unfold oF;split
 ·simp
 ·rename_i h;unfold mo at h;rw[cV,fg];unfold gJ;omega
theorem Jf (r:Int):(yx r).length≤1024:=by
 unfold yx;split
 ·simp
 ·exact xT _
theorem FC (o:OpD):(dZ o).length<4611686018427387904:=by
 unfold dZ;split
 ·have:=Fc o.sigma;omega
 split
 ·have:=Jf o.radius;omega
 ·have:=xT o.x;omega
theorem FB (o:OpD):(dy o).length<4611686018427387904:=by
 unfold dy;split
 ·have:=Fc o.sigma;omega
 split
 ·have:=Jf o.radius;omega
 ·have:=xT o.y;omega
abbrev fN (h h':ah)(c:Nat):Prop:=h.size≤c∧c<h'.size
theorem _root_.Go.Crisp.New.since {α:Type}{e:Rp α}{h0 h h':ah}{v:Value}{l:List α}(H:New e h h' v l)(k:Ext h0 h):Rp.Sl e (fN h0 h') h' v l:=H.sl.mono λb D A=>⟨bh k.1 (H.2.2 b A),D⟩
theorem X3 {Z:Nat→Prop}{h:ah}{cs:List Value}{o:OpD}(H:rOp.R Z h cs o)(W:o.Wf)(lx:o.x.length<4611686018427387904)(ly:o.y.length<4611686018427387904):
  ag prog zT #[.agg cs.toArray] h λr h'=>∃u v,r=.tuple #[u,v,af (gY o)]∧Ext h h'∧(gY o=0→SlI (fN h h') h' u (dZ o)∧SlI (fN h h') h' v (dy o)):=by
 apply OC;unfold DU;obtain⟨s,t,rfl,I,U⟩:=H;simp only[bO];refine aI λb h1 r1 D n1=>?_
 simp only[go_sem,am r1];unfold gY dZ dy;refine ao (λF=>?_) (λF=>?_)
 ·rw[aA F,aA F,aA F];refine(Ny W.sigma).mono λw G ⟨u,e,N⟩=>?_
  subst e;simp only[go_sem];exact⟨u,u,rfl,D.trans N.2.1,λ_=>⟨N.since D,N.since D⟩⟩
 rw[az F,az F,az F];refine ao (λA=>?_) (λA=>?_)
 ·rw[aA A,aA A,aA A];refine(zc4 W.radius).mono λw G ⟨u,e,N⟩=>?_
  subst e;simp only[go_sem];exact⟨u,u,rfl,D.trans N.2.1,λ_=>⟨N.since D,N.since D⟩⟩
 rw[az A,az A,az A];refine(Fl (I.ext D) W.x lx).mono λw G ⟨u,e,N⟩=>?_
 subst e;simp only[go_sem];refine ao (λhu=>?_) (λhu=>?_)
 ·rw[aA hu];exact⟨_,_,rfl,D.trans N.2.1,λh=>absurd h hu⟩
 rw[az hu];simp only[go_sem,am (N.2.1.row r1)];refine(Fl ((U.ext D).ext N.2.1) W.y ly).mono λw h3 ⟨v,e,M⟩=>?_
 subst e;simp only[go_sem];refine⟨u,v,rfl,(D.trans N.2.1).trans M.2.1,λ_=>⟨?_,M.since (D.trans N.2.1)⟩⟩;exact((N.since D).ext M.2.1).mono λc hc L=>⟨L.1,hc⟩
def jN (o:OpD)(w h:Int):Int:=
 if o.kind=3 then(if eI o.filter w o.w≠0 then eI o.filter w o.w else eI o.filter h o.hh)
 else if gY o≠0 then gY o else if jV (dZ o) w≠0 then jV (dZ o) w else jV (dy o) h
def ko (o:OpD)(w:Int):Tbl:=if o.kind=3 then gb o.filter w o.w else lI (dZ o) w
def gQ (o:OpD)(h:Int):Tbl:=if o.kind=3 then gb o.filter h o.hh else lI (dy o) h
theorem ZK {Z:Nat→Prop}{h:ah}(G:eB h){cs:List Value}{o:OpD}(H:rOp.R Z h cs o)(W:o.Wf)(lx:o.x.length<4611686018427387904)(ly:o.y.length<4611686018427387904){w hh:Int}(hw:I64 w)(U:I64 hh):
  ag prog Cs #[.agg cs.toArray,af w,af hh] h λr h'=>∃p q,r=.tuple #[p,q,af (jN o w hh)]∧Ext h h'∧(jN o w hh=0→fG (fN h h') h' p (ko o w)∧fG (fN h h') h' q (gQ o hh)):=by
 apply QS;unfold Gb;have H0:=H;obtain⟨s,t,rfl,Hx,Hy⟩:=H;simp only[bO];refine aI λb h1 r1 A n1=>?_
 have G1:=G.ext A;simp only[go_sem,am r1];unfold jN ko gQ;refine ao (λI=>?_) (λI=>?_)
 ·rw[aA I,aA I,aA I];refine(Nx G1 W.filter hw W.w).mono λr h2 ⟨p,e,D,p0,p1⟩=>?_
  subst e;simp only[go_sem];refine ao (λhc=>?_) (λhc=>?_)
  ·rw[az (by simpa using hc)];simp only[go_sem,am (D.row r1)];refine(Nx (G1.ext D) W.filter U W.hh).mono λr h3 ⟨q,e,L,q0,q1⟩=>?_
   subst e;simp only[go_sem];refine⟨p,q,rfl,(A.trans D).trans L,λh0=>⟨?_,?_⟩⟩
   ·exact((p1 hc).ext L).mono λc hc F=>⟨bh A.1 F.1,hc⟩
   ·exact(q1 h0).mono λc hc F=>⟨bh (A.trans D).1 F.1,F.2⟩
  ·rw[aA (by simpa using hc)];exact⟨p,_,rfl,A.trans D,λh0=>absurd h0 hc⟩
 rw[az I,az I,az I];rw[aU r1 9 rfl,aj];refine(X3 (rOp.ext H0 A) W lx ly).mono λr h2 ⟨u,v,e,D,hu⟩=>?_
 subst e;simp only[go_sem];refine ao (λhc=>?_) (λhc=>?_)
 ·rw[aA hc];exact⟨_,_,rfl,A.trans D,λh0=>absurd h0 hc⟩
 have aa:gY o=0:=co hc;rw[az hc];obtain⟨Hu,Hv⟩:=hu aa;refine(Uh Hu (yJ o) (FC o) hw).mono λr h3 ⟨p,e,L,p0,p1⟩=>?_
 subst e;simp only[go_sem];refine ao (λhc=>?_) (λhc=>?_)
 ·rw[az (by simpa using hc)];refine(Uh (Hv.ext L) (yI o) (FB o) U).mono λr h4 ⟨q,e,e4,q0,q1⟩=>?_
  subst e;simp only[go_sem];refine⟨p,q,rfl,((A.trans D).trans L).trans e4,λh0=>⟨?_,?_⟩⟩
  ·exact((p1 hc).ext e4).mono λc hc F=>⟨bh (A.trans D).1 F.1,hc⟩
  ·exact(q1 h0).mono λc hc F=>⟨bh ((A.trans D).trans L).1 F.1,F.2⟩
 ·rw[aA (by simpa using hc)];exact⟨p,_,rfl,(A.trans D).trans L,λh0=>absurd h0 hc⟩
structure Stg where
 x:Tbl
 y:Tbl
 border:Int
def pU (Z:Nat→Prop)(h:ah)(v:Value)(s:Stg):Prop:=∃p q,v=.agg #[p,q,.int .i64 s.border]∧fG Z h p s.x∧fG Z h q s.y
theorem pU.mono {Z Z':Nat→Prop}{h:ah}{v:Value}{s:Stg}(H:pU Z h v s)(q:∀b,b<h.size→Z b→Z' b):pU Z' h v s:=by
 obtain⟨p,r,rfl,h1,A⟩:=H;exact⟨p,r,rfl,h1.mono q,A.mono q⟩
theorem pU.ext {Z:Nat→Prop}{h h':ah}{v:Value}{s:Stg}(H:pU Z h v s)(e:Ext h h'):pU Z h' v s:=by
 obtain⟨p,r,rfl,h1,A⟩:=H;exact⟨p,r,rfl,h1.ext e,A.ext e⟩
theorem mF {α:Type}{e:Rp α}{Z:Nat→Prop}{h:ah}{v:Value}{x:α}(H:Rp.Pt e Z h v x):aQ v=true:=by
 obtain⟨b,ds,t,rfl,_⟩:=H;rfl
theorem zcB {a b c x y z:Value}(A:aQ a=true)(D:aQ b=true)(hc:aQ c=true):aM #[x,y,z] [(0,1,a),(1,1,b),(2,1,c)]=some #[a,b,c]:=by
 simp only[aM,cC A,cC D,cC hc];rfl
abbrev noStg:Value:=.agg #[.pointer none,.pointer none,.int .i64 0]
def fu (o:OpD)(w h:Int):Int:=if¬kF o∨¬bC w∨¬bC h then 6 else jN o w h
def ch (o:OpD)(w h:Int):Stg:=⟨ko o w,gQ o h,o.border⟩
def zan (h:ah)(code:Int)(s:Stg)(r:Value)(h':ah):Prop:=∃v,r=.tuple #[v,.int .i64 code]∧Ext h h'∧(code≠0→v=noStg)∧(code=0→pU (fN h h') h' v s)
theorem Jd {Z:Nat→Prop}{h:ah}(G:eB h){cs:List Value}{o:OpD}(H:rOp.R Z h cs o)(W:o.Wf)(lx:o.x.length<4611686018427387904)(ly:o.y.length<4611686018427387904){w hh:Int}(hw:I64 w)(ar:I64 hh):
  ag prog nF #[.agg cs.toArray,af w,af hh] h (zan h (fu o w hh) (ch o w hh)):=by
 apply UX;unfold Lu;have H0:=H;obtain⟨s,t,rfl,Hx,Hy⟩:=H;simp only[bO];refine aI λb h1 r1 e1 n1=>?_
 have l1:=bB r1;refine aI λb2 h2 r2 e2 n2=>?_
 have r1:=e2.row r1;have D:=e1.trans e2;have l2:=bB r2;have hb:b≠b2:=ae;rw[aU r1 9 rfl,aj];refine(zbt (G.ext D) (rOp.ext H0 D)).mono λv h3 ⟨e,L⟩=>?_
 subst e;have U:∀(code:Int) (h4:ah),fu o w hh=code→code≠0→Ext h2 h4→stK 3 (.pointer (some ⟨b2,0,none⟩)) (.agg #[.pointer none,.pointer none,ai]) h4 λ_ al=>vK (aO 3 al (.pointer (some ⟨b2,0,none⟩))) λan=>zan h (fu o w hh) (ch o w hh) (.tuple #[an,af code]) al:=by
  intro code h4 A hc e4;rw[A];refine cT (l:=[.pointer none,.pointer none,ai]) (e4.row r2) rfl (aq rfl (aq rfl (aq rfl aX))) rfl λh5 r5 u5=>?_
  rw[aU r5 3 rfl,aj];exact⟨_,rfl,(D.trans e4).upd (bh e1.1 n2) u5,λ_=>rfl,λh=>absurd h hc⟩
 by_cases hm:¬kF o
 ·have A:fu o w hh=6:=aA (.inl hm);simp only[go_sem,hm,gG,cI];exact U 6 h3 A ae L
 have hm:kF o:=co hm;simp only[go_sem,hm];refine Ic.mono λv h4 ⟨e,w⟩=>?_
 subst e w;by_cases I:¬bC w
 ·have A:fu o w hh=6:=aA (.inr (.inl I));simp only[go_sem,I,gG,cI];exact U 6 _ A ae L
 have I:bC w:=co I;simp only[go_sem,I];refine Ic.mono λv h5 ⟨e,w⟩=>?_
 subst e w;by_cases F:¬bC hh
 ·have A:fu o w hh=6:=aA (.inr (.inr F));simp only[go_sem,F,gG,cI];exact U 6 _ A ae L
 have F:bC hh:=co F;have A:fu o w hh=jN o w hh:=az (by rintro(h|h|h);exact h hm;exact h I;exact h F);simp only[go_sem,F];rw[aU (L.row r1) 9 rfl,aj];refine(ZK ((G.ext D).ext L) (rOp.ext (rOp.ext H0 D) L) W lx ly hw ar).mono λr h6 ⟨p,q,e,e6,hp⟩=>?_
 subst e;simp only[go_sem];refine ao (λhc=>?_) (λhc=>?_)
 ·simp only[gG,cI,aj];exact U _ _ A hc (L.trans e6)
 have ab:jN o w hh=0:=co hc;obtain⟨ad,aa⟩:=hp ab;have c1:aG h6 ⟨b,1,none⟩=some (af o.border):=am (e6.row (L.row r1));simp only[go_sem,c1];rw[zcB (mF ad) (mF aa) rfl,cI,aj];refine cT (l:=[p,q,af o.border]) (e6.row (L.row r2)) rfl (aq (mF ad) (aq (mF aa) (aq rfl aX))) rfl λh7 r7 u7=>?_
 rw[aU r7 3 rfl,aj];have hz:∀c,c<h6.size→fN h5 h6 c→¬c=b2:=λc _ hz he=>by
  have:=hz.1;have:=(L.1)
  subst he;omega
 have E:Ext h h6:=(D.trans L).trans e6;have fin:∀{t:Tbl} {p:Value},fG (fN h5 h6) h6 p t→fG (fN h h7) h7 p t:=λH=>by
  have:=Rp.Pt.fr H u7.fr hz;refine this.mono λc hc hz=>⟨?_,hc⟩
  exact bh (D.trans L).1 hz.1
 rw[A];exact⟨.agg #[p,q,af o.border],by rw[ab],E.upd (bh e1.1 n2) u7,λh=>absurd ab h,λ_=>⟨p,q,rfl,fin ad,fin aa⟩⟩
def jC {α:Type}(e:Rp α)(h h':ah)(v:Value)(l:List α):Prop:=∃Z,Rp.Ow e Z h' v l∧Ext h h'∧(∀b,blk v b→h.size≤b)∧∀c,Z c→h.size≤c∧c<h'.size
theorem jC.nil {α:Type}{e:Rp α}{h h':ah}(k:Ext h h'):jC e h h' (.slice none 0 0) []:=⟨λ_=>False,Rp.Ow.nil,k,λb A=>A.elim,λc hc=>hc.elim⟩
theorem jC.ext {α:Type}{e:Rp α}{h h' A:ah}{v:Value}{l:List α}(H:jC e h h' v l)(k:Ext h' A):jC e h A v l:=by
 obtain⟨Z,o,x,n,z⟩:=H;exact⟨Z,o.ext k,x.trans k,n,λc hc=>⟨(z c hc).1,bT (z c hc).2 k.1⟩⟩
theorem jC.exts {α:Type}{e:Rp α}{h h':ah}{v:Value}{l:List α}(H:jC e h h' v l):Ext h h':=by obtain⟨Z,o,x,n,z⟩:=H;exact x
theorem jC.sl {α:Type}{e:Rp α}{h h':ah}{v:Value}{l:List α}(H:jC e h h' v l):Rp.Sl e (fN h h') h' v l:=by
 obtain⟨Z,o,x,n,z⟩:=H;exact o.sl.mono λc hc A=>by
  rcases A with A|A
  ·exact z c A
  ·exact⟨n c A,hc⟩
theorem jC.isSl {α:Type}{e:Rp α}{h h':ah}{v:Value}{l:List α}(H:jC e h h' v l):∃a cap,v=.slice a l.length cap:=by obtain⟨Z,o,x,n,z⟩:=H;exact o.isSl
theorem jC.push {α:Type}{e:Rp α}{z:Value}{c:Array Value}{t t':TypeId}{bytes:Nat}{h h1:ah}{v:Value}{l:List α}{cs:List Value}{x:α}{Y:Nat→Prop}{K:Value→ah→Prop}(H:jC e h h1 v l)
  (hx:e.R Y h1 cs x) (hY:∀b,Y b→h.size≤b∧b<h1.size∧¬blk v b) (hc:c.size=e.w) (D:z.cells.size=e.w) (A:(l.length+1)*bytes≤140737488355328) (hn:l.length+1≤9223372036854775807)
  (L:∀F h',jC e h h' F (l++[x])→Fr (blk v) h1 h'→(∀b,blk F b→blk v b∨h1.size≤b)→K F h'):df c t 1 [(0,e.w,.agg cs.toArray)] h1 λW U=>di z t' e.w bytes v W U K:=by
 obtain⟨Z,o,ex,n,zf⟩:=H;have dz:∀b,blk v b→¬Z b:=by obtain⟨ds,_,d,_⟩:=o;exact d
 have o2:Rp.Ow e (λb=>Z b∨Y b) h1 v l:=o.mono (λb _ A=>.inl A) λb A D=>by
  rcases D with D|D
  ·exact dz b A D
  ·exact(hY b D).2.2 A
 refine Rp.push_ow o2 (e.mono hx λb _ A=>.inr A) hc D A hn (λb A=>?_) λF h' o' I n'=>L F h' ⟨λb=>Z b∨Y b,o',ex.then_fr I n,λb A=>?_,λb A=>?_⟩ I n'
 ·rcases A with A|A
  ·exact(zf b A).2
  ·exact(hY b A).2.1
 ·rcases n' b A with G|G
  ·exact n b G
  ·exact bh ex.1 G
 ·have hl:=I.1;rcases A with A|A
  ·have:=zf b A;omega
  ·have:=hY b A;omega
theorem jC.lt {α:Type}{e:Rp α}{h h':ah}{v:Value}{l:List α}(H:jC e h h' v l){b:Nat}(A:blk v b):b<h'.size:=by obtain⟨Z,o,x,n,z⟩:=H;exact o.lt A
theorem _root_.Go.Crisp.New.lt {α:Type}{e:Rp α}{h h':ah}{v:Value}{l:List α}(H:New e h h' v l){b:Nat}(A:blk v b):b<h'.size:=H.1.lt A
theorem Nk {h:ah}{n:Int}:ag prog oW #[af n] h λr h'=>r=.bool (decide (bC n))∧h'=h:=by
 apply Oi;unfold DF;simp only[go_sem];exact⟨rfl,trivial⟩
def Us (h:ah)(code:Int)(ls:List (Int×List Int))(r:Value)(h':ah):Prop:=∃v,r=.tuple #[v,.int .i64 code]∧Ext h h'∧(code≠0→v=.slice none 0 0)∧(code=0→jC mh h h' v ls)
theorem Nl {h:ah}{f n m:Int}(hf:I64 f)(hn:I64 n)(hm:I64 m):ag prog oZ #[af f,af n,af m] h (Us h (eI f n m) (gb f n m).lines):=by
 apply Kj;unfold Ag;have rc:eI f n m=if¬(0≤f∧f<3)∨¬bC n∨¬bC m then 6 else dB (λi=>cW (dr f n m i)) m.toNat:=rfl
 have I:∀b:Bool,(b=true↔(¬(0≤f∧f<3)∨¬bC n∨¬bC m))→∀X:Prop,((0≤f∧f<3)→bC n→bC m→X)→aF (.bool b)
   (Us h (eI f n m) (gb f n m).lines (.tuple #[.slice none 0 0,af 6]) h) X:=by
  intro b W X hX;refine jU (λhc=>?_) (λhc=>?_)
  ·rw[rc,aA (W.1 hc)];exact⟨_,rfl,Ext.refl _,λ_=>rfl,λh=>by cases h⟩
  ·have H:¬(¬(0≤f∧f<3)∨¬bC n∨¬bC m):=λhh=>by rw[W.2 hh]at hc;cases hc
   exact hX (co λhh=>H (.inl hh)) (co λhh=>H (.inr (.inl hh))) (co λhh=>H (.inr (.inr hh)))
 have rest:(0≤f∧f<3)→bC n→bC m→aZ [.slice none 0 0,ai] h λD b4 au F=>
   vK (ak .i .lss (ix D 1) (af m)) λbc=>aF bc (
    ag prog xd #[af f,af n,af m,(ix D 1)] au λar b0=>
    vK (aL ar 0) λa7=>vK (aL ar 1) λbk=>
    ag prog iN #[bk] b0 λal an=>
    vK (aL al 0) λbo=>vK (aL al 1) λaa=>
    vK (ak .i .neq aa ai) λa8=>aF a8 (
     Us h (eI f n m) (gb f n m).lines (.tuple #[(.slice none 0 0),aa]) an) (
     vK ((aM #[ai,(.slice none 0 0)] [(0,1,a7),(1,1,bo)]).map .agg) λa9=>
     df #[ai,(.slice none 0 0)] 240 1 [(0,2,a9)] an λbe bg=>
     di (.agg #[ai,.slice none 0 0]) 240 2 32 (ix D 0) be bg λbv bd=>
     vK (ak .i .add (ix D 1) aH) λax=>F [bv,ax] bd)) (
    Us h (eI f n m) (gb f n m).lines (.tuple #[(ix D 0),ai]) au):=by
  intro G A ad;rw[az (by rintro(h|h|h);exact h G;exact h A;exact h ad)]at rc;rw[rc];have ab:=ad;unfold bC at ab;refine bH m.toNat 0 (λk v=>[v,af (k:Int)]) (λk v h'=>dB (λi=>cW (dr f n m i)) k=0∧jC mh h h' v ((List.range k).map λi:Nat=>(ft f n m i,cz (dr f n m i)))) (.slice none 0 0) rfl (bZ _)
   ⟨rfl,jC.nil (Ext.refl _)⟩ λk v h5 again ρj _ hk ⟨hg,T⟩ ay=>?_
  simp only[go_sem];refine ao (λh6=>?_) (λh6=>?_)
  ·have aw:k<m.toNat:=ae;refine zbm.mono λw h7 ⟨u,e,Nw⟩=>?_
   subst e
   try simp only[go_sem]
   refine(Eh Nw.sl (vl _ _ _ _) (LI _ _ _ _)).mono λw h8 ⟨u,e,L⟩=>?_
   subst e
   try simp only[go_sem]
   refine ao (λU=>?_) (λU=>?_)
   ·have hc:dB (λi=>cW (dr f n m i)) (k+1)=cW (dr f n m k):=by
     show(if dB (λi=>cW (dr f n m i)) k≠0 then _ else _)=_;rw[az (by rw[hg];simp)]
    have hs:=Ee (g:=λi=>cW (dr f n m i)) (k:=k+1) (n:=m.toNat) (by rw[hc];exact U) aw;rw[hs,hc];exact⟨_,rfl,(T.exts.trans Nw.2.1).trans L.2.1,λ_=>rfl,λh=>absurd h U⟩
   ·have U:cW (dr f n m k)=0:=co U;rw[zD (a:=af (ft f n m k)) (b:=u) rfl L.sl.one,cI,aj];have T2:=T.ext (Nw.2.1.trans L.2.1);refine jC.push (e:=mh) (cs:=[af (ft f n m k),u]) (x:=(ft f n m k,cz (dr f n m k))) (Y:=blk u) T2 ⟨u,rfl,L.sl⟩ (λb W=>⟨bh (T.exts.trans Nw.2.1).1 (L.2.2 b W),L.lt W,λhv=>?_⟩) rfl rfl (by simp;omega) (by simp;omega) λs' h' N' _ _=>?_
    ·have b3:=T.lt hv;have b1:=L.2.2 b W;have b2:=Nw.2.1.1;omega
    ·try simp only[go_sem]
     rw[w64 ae ae];refine ay s' h' aw ⟨?_,?_⟩
     ·show(if dB (λi=>cW (dr f n m i)) k≠0 then _ else _)=_;rw[az (by rw[hg];simp)];exact U
     ·rw[lU,iD];exact N'
  ·have:k=m.toNat:=ae;subst this;exact⟨_,by rw[hg],T.exts,λh=>absurd hg h,λ_=>T⟩
 by_cases G:0≤f∧f<3
 ·have q1:(f<0)=False:=fJ ae;have q2:(2<f)=False:=fJ ae;simp only[go_sem,q1,q2];refine Nk.mono λv1 h2 ⟨e1,w1⟩=>?_
  have w1:=w1.symm;subst e1 w1;by_cases A:bC n
  ·simp only[go_sem,A];refine Nk.mono λv1 h2 ⟨e1,w1⟩=>?_
   have w1:=w1.symm;subst e1 w1;simp only[go_sem];refine I _ ?_ _ rest;rw[dS];constructor
   ·exact λhh=>.inr (.inr hh)
   ·rintro(hh|hh|hh)
    ·exact absurd G hh
    ·exact absurd A hh
    ·exact hh
  ·simp only[go_sem,A];exact(iI _ _).mp (I true ⟨λ_=>.inr (.inl A),λ_=>rfl⟩ True λ_ _ _=>trivial)
 ·have q1:(f<0∨2<f)=True:=jx ae;simp only[go_sem,q1];exact(iI _ _).mp (I true ⟨λ_=>.inl G,λ_=>rfl⟩ True λ_ _ _=>trivial)
theorem Nm {h:ah}{Z:Nat→Prop}{v:Value}{l:List Int}{n:Int}(H:SlI Z h v l)(W:∀x∈l,I64 x)(hl:l.length<4611686018427387904)(hn:I64 n):ag prog o0 #[v,af n] h (Us h (jV l n) (lI l n).lines):=by
 apply Kk;unfold Ah;refine Nk.mono λv1 h1 ⟨e1,w1⟩=>?_
 have w1:=w1.symm;subst e1 w1;unfold jV lI;obtain⟨a,cap,e⟩:=H.isSl;have e2:aD v=some (af (l.length:Int)):=by rw[e];rfl
 by_cases A:¬bC n
 ·rw[aA A];simp only[go_sem,A];exact⟨_,rfl,Ext.refl _,λ_=>rfl,λh=>by cases h⟩
 rw[az A];have A:bC n:=co A;have U:=A;unfold bC at U;simp only[go_sem,A,e2];rw[dP _ _ _ _ ae,aj,jT ae];simp only[go_sem];refine ao (λh0=>?_) (λh0=>?_)
 ·rw[aA ae];exact⟨_,rfl,Ext.refl _,λ_=>rfl,λh=>by cases h⟩
 rw[az ae];refine(Eh H W hl).mono λw h2 ⟨u,e,L⟩=>?_
 subst e;simp only[go_sem];refine ao (λI=>?_) (λI=>?_)
 ·exact⟨_,rfl,L.2.1,λ_=>rfl,λh=>absurd h I⟩
 have I:cW l=0:=co I;have ad:(cz l).length=l.length:=by unfold cz;rw[aA I,p8]
 have bd:=qB W;refine bH n.toNat 0 (λk v=>[v,af (k:Int)]) (λk v h'=>jC mh h h' v ((List.range k).map λi:Nat=>((i:Int)-(l.length/2:Nat),cz l))∧SlI (blk u) h' u (cz l)∧Ext h2 h'∧(∀b,blk v b→h2.size≤b)∧∀b,blk u b→¬blk v b) (.slice none 0 0) rfl (bZ _)
  ⟨jC.nil L.2.1,L.sl,Ext.refl _,λb F=>F.elim,λb _ F=>F⟩ λk v h5 again ρj _ hk ⟨T,Hu,E,NV,D⟩ aa=>?_
 try simp only[go_sem]
 refine ao (λh6=>?_) (λh6=>?_)
 ·have ab:k<n.toNat:=ae
  try simp only[go_sem,e2]
  rw[mq _ _ _ _ ae,aj,wU ae,w64 (n:=(l.length:Int)/2) ae ae]
  try simp only[go_sem]
  rw[w64 (n:=(k:Int)-(l.length:Int)/2) ae ae,show(k:Int)-(l.length:Int)/2=(k:Int)-(l.length/2:Nat)by omega];rw[zD (a:=af ((k:Int)-(l.length/2:Nat))) (b:=u) rfl Hu.one,cI,aj];refine jC.push (e:=mh) (cs:=[af ((k:Int)-(l.length/2:Nat)),u]) (x:=((k:Int)-(l.length/2:Nat),cz l)) (Y:=blk u) T ⟨u,rfl,Hu⟩ (λb F=>⟨L.2.2 b F,bT (L.lt F) E.1,D b F⟩) rfl rfl (by simp;omega) (by simp;omega) λs' h' N' F' n'=>?_
  try simp only[go_sem]
  rw[w64 ae ae];refine aa s' h' ab ⟨?_,Hu.fr F' λb _ F=>D b F,?_,?_,λb F hs=>?_⟩
  ·rw[lU,iD];exact N'
  ·exact E.then_fr F' NV
  ·intro b F;rcases n' b F with G|G
   ·exact NV b G
   ·exact bh E.1 G
  ·rcases n' b hs with G|G
   ·exact D b F G
   ·have:=L.lt F;have:=E.1;omega
 ·have:k=n.toNat:=ae;subst this;exact⟨_,by rw[I],T.exts,λh=>absurd I h,λ_=>T⟩
def mz (side:Int)(o:OpD):Prop:=40<o.x.length∨40<o.y.length∨(262144<o.sigma∧o.sigma≤4194304)∨(20<o.radius∧o.radius<512)∨(side<o.w∧o.w≤65536)∨(side<o.hh∧o.hh≤65536)
instance (side:Int)(o:OpD):Decidable (mz side o):=by unfold mz;infer_instance
def ns (side:Int)(l:List OpD):Prop:=∀o∈l,¬mz side o
instance (side:Int)(l:List OpD):Decidable (ns side l):=by unfold ns;infer_instance
theorem zad {Z:Nat→Prop}{h:ah}{v:Value}{l:List OpD}{side:Int}(H:Rp.Sl rOp Z h v l)(hl:l.length<4611686018427387904):
  ag prog vS #[v,af side] h λr h'=>r=.bool (decide (ns side l))∧Ext h h':=by
 apply Ks;unfold Ao;obtain⟨a,cap,e⟩:=H.isSl;have e2:aD v=some (af (l.length:Int)):=by rw[e];rfl
 rw[e2,aj];refine bH l.length 0 (λk (_:Unit)=>[af (k:Int)]) (λk _ h'=>Ext h h'∧∀o∈l.take k,¬mz side o) () rfl (bZ _) ⟨Ext.refl _,by simp⟩ λk _ h1 again ρj _ hk ⟨F,W⟩ G=>?_
 simp only[go_sem];refine ao (λh0=>?_) (λh0=>?_)
 ·have A:k<l.length:=ae;obtain⟨p,cs,q1,q2,I⟩:=Rp.Sl.atw (e:=rOp) (H.ext F) (show 0<9 by omega) (k:=.i64) A;have q1:bu 9 v (af (k:Int))=some p:=q1;have q2:aO 9 h1 p=some (.agg cs.toArray):=q2;rw[q1,aj,q2,aj];have ab:=I;have L:=rOp.one I;obtain⟨s,t,rfl,Hx,Hy⟩:=I;refine dk (cs:=[af l[k].kind,af l[k].border,af l[k].sigma,af l[k].radius,s,t,af l[k].filter,af l[k].w,af l[k].hh]) rfl L rfl λb h2 r2 e3 n3=>?_
  obtain⟨ax,cx,ex⟩:=Hx.isSl;have aa:aD s=some (af (l[k].x.length:Int)):=by rw[ex];rfl
  obtain⟨ay,cy,ey⟩:=Hy.isSl;have U:aD t=some (af (l[k].y.length:Int)):=by rw[ey];rfl
  simp only[go_sem,am r2,aa,U];refine ao (λh3=>?_) (λh3=>?_)
  ·refine⟨?_,F.trans e3⟩
   congr 1
   rw[Eq.comm,G0];intro hh;refine hh _ (cQ A) ?_;unfold mz;omega
  ·rw[w64 ae ae];refine G () h2 A ⟨F.trans e3,λo D=>?_⟩;rw[ju A]at D;rcases gS.1 D with D|D
   ·exact W o D
   ·rw[ib.1 D];unfold mz;omega
 ·rw[eS ae]at W;refine⟨?_,F⟩
  congr 1
  rw[Eq.comm,dS];exact W
theorem ZW {Z:Nat→Prop}{h:ah}{cs:List Value}{o:OpD}(H:rOp.R Z h cs o){w hh:Int}:ag prog Jm #[.agg cs.toArray,af w,af hh] h λr h'=>
  r=.tuple #[af (if o.kind=3 then o.w else w),af (if o.kind=3 then o.hh else hh)]∧Ext h h':=by
 apply UW;unfold Lt;obtain⟨s,t,rfl,F,I⟩:=H;simp only[bO];refine aI λb h1 r1 D G=>?_
 simp only[go_sem,am r1];refine ao (λA=>?_) (λA=>?_)
 ·rw[aA A,aA A];simp only[go_sem,am r1];exact⟨by simp,D⟩
 ·rw[az A,az A];exact⟨rfl,D⟩
def xm:Rp Stg where
 w:=5
 R:=λZ h cs s=>∃x y,cs=[x,y,.int .i64 s.x.n,.int .i64 s.y.n,.int .i64 s.border]∧Rp.Sl mh Z h x s.x.lines∧Rp.Sl mh Z h y s.y.lines
 len:=by rintro _ _ _ _ ⟨x,y,rfl,_⟩;rfl
 one:=by
  rintro _ _ _ _ ⟨x,y,rfl,H,K⟩;exact aq H.one (aq K.one (aq rfl (aq rfl (aq rfl aX))))
 fr:=by rintro _ _ _ _ _ _ ⟨x,y,rfl,H,K⟩ f q;exact⟨x,y,rfl,H.fr f q,K.fr f q⟩
 mono:=by rintro _ _ _ _ _ ⟨x,y,rfl,H,K⟩ q;exact⟨x,y,rfl,H.mono q,K.mono q⟩
abbrev YY:List Value:=[.slice none 0 0,.slice none 0 0,.int .i64 0,.int .i64 0,.int .i64 0]
def Sk (h:ah)(code:Int)(s:Stg)(r:Value)(h':ah):Prop:=∃cs,r=.tuple #[.agg cs.toArray,.int .i64 code]∧Ext h h'∧(code≠0→cs=YY)∧(code=0→xm.R (fN h h') h' cs s)
theorem C7 {h:ah}{n:Int}:ag prog lK #[af n] h λr h'=>r=.bool (decide (bC n))∧h'=h:=by
 apply Oe;unfold DB;simp only[go_sem];exact⟨rfl,trivial⟩
theorem Zy {a b c v w x y z:Value}(A:aQ a=true)(D:aQ b=true)(hc:aQ c=true):aM #[v,w,x,y,z] [(2,1,a),(3,1,b),(4,1,c)]=some #[v,w,a,b,c]:=by
 simp only[aM,cC A,cC D,cC hc];rfl
theorem Yb {Z:Nat→Prop}{h:ah}{cs:List Value}{o:OpD}(H:rOp.R Z h cs o)(W:o.Wf)(lx:o.x.length<4611686018427387904)(ly:o.y.length<4611686018427387904){w hh:Int}(hw:I64 w)(bg:I64 hh):
  ag prog zK #[.agg cs.toArray,af w,af hh] h (Sk h (fu o w hh) (ch o w hh)):=by
 apply Og;unfold DD;have H0:=H;obtain⟨s,t,rfl,Hx,Hy⟩:=H;simp only[bO];refine aI λb h1 r1 e1 n1=>?_
 have l1:=bB r1;refine aI λb2 h2 r2 e2 n2=>?_
 have r1:=e2.row r1;have ay:=e1.trans e2;have l2:=bB r2;have hb:b≠b2:=ae;have k2:h.size≤b2:=bh e1.1 n2;have U:∀(code:Int) (I:ah),fu o w hh=code→code≠0→Ext h2 I→stK 5 (.pointer (some ⟨b2,0,none⟩)) (.agg #[.slice none 0 0,.slice none 0 0,ai,ai,ai]) I λ_ be=>vK (aO 5 be (.pointer (some ⟨b2,0,none⟩))) λb6=>Sk h (fu o w hh) (ch o w hh) (.tuple #[b6,af code]) be:=by
  intro code I D hc e4;rw[D];refine cT (l:=YY) (e4.row r2) rfl (aq rfl (aq rfl (aq rfl (aq rfl (aq rfl aX))))) rfl λL r5 u5=>?_
  rw[aU r5 5 rfl,aj];exact⟨YY,rfl,(ay.trans e4).upd k2 u5,λ_=>rfl,λh=>absurd h hc⟩
 have m6:(¬kF o∨¬bC w∨¬bC hh)→fu o w hh=6:=λhc=>aA hc
 by_cases hm:((o.kind<0∨3<o.kind)∨o.border<0)∨2<o.border
 ·have D:=m6 (.inl (by unfold kF;omega));simp only[go_sem,am r1,hm];simp only[gG,cI,aj];exact U 6 h2 D ae (Ext.refl _)
 have a9:0≤o.kind∧o.kind<4:=ae;have a8:0≤o.border∧o.border<3:=ae;simp only[go_sem,am r1,hm];refine C7.mono λv I ⟨e,wq⟩=>?_
 have wq:=wq.symm;subst e wq;by_cases ar:¬bC w
 ·have D:=m6 (.inr (.inl ar));simp only[go_sem,ar,gG,cI];exact U 6 _ D ae (Ext.refl _)
 have ar:bC w:=co ar;simp only[go_sem,ar];refine C7.mono λv L ⟨e,wq⟩=>?_
 have wq:=wq.symm;subst e wq;by_cases ad:¬bC hh
 ·have D:=m6 (.inr (.inr ad));simp only[go_sem,ad,gG,cI];exact U 6 _ D ae (Ext.refl _)
 have ad:bC hh:=co ad;have mt:kF o→fu o w hh=jN o w hh:=λhm=>az (by rintro(h|h|h);exact h hm;exact h ar;exact h ad)
 simp only[go_sem,ad,am r1];rw[Zy rfl rfl rfl,cI,aj];refine dk (cs:=[.slice none 0 0,.slice none 0 0,af w,af hh,af o.border]) rfl (aq rfl (aq rfl (aq rfl (aq rfl (aq rfl aX))))) rfl λb3 h3 r3 e3 n3=>?_
 have r1:=e3.row r1;have r2:=e3.row r2;have ab:=ay.trans e3;have l3:=bB r3;have k3:h.size≤b3:=bh ay.1 n3;have ca:b3≠b:=by have:=e2.1;omega
 have aa:b3≠b2:=ae
 -- a row of lines is stored
 have aw:∀{I:ah} {u:Value} {a c:Value} {K:Value→ah→Prop},aQ u=true→I[b3]? =some (.cells #[a,c,af w,af hh,af o.border] 38 (0,0))→
   (∀L,L[b3]? =some (.cells #[u,c,af w,af hh,af o.border] 38 (0,0))→Upd b3 I L→K undef L)→stK 1 (.pointer (some ⟨b3,0,none⟩)) u I K:=by
  intro I u a c K hu r HK;exact b9 r (by simp) hu λL r5 u5=>HK L r5 u5
 have ax:∀{I:ah} {u:Value} {a c:Value} {K:Value→ah→Prop},aQ u=true→I[b3]? =some (.cells #[a,c,af w,af hh,af o.border] 38 (0,0))→
   (∀L,L[b3]? =some (.cells #[a,u,af w,af hh,af o.border] 38 (0,0))→Upd b3 I L→K undef L)→stK 1 (.pointer (some ⟨b3,1,none⟩)) u I K:=by
  intro I u a c K hu r HK;exact b9 r (by simp) hu λL r5 u5=>HK L r5 u5
 -- the end
 have fin:∀{h6:ah} {x y:Value},Ext h h6→h6[b2]? =some (.cells #[.slice none 0 0,.slice none 0 0,ai,ai,ai] 38 (0,0))→h6[b3]? =some (.cells #[x,y,af w,af hh,af o.border] 38 (0,0))→
   Rp.Sl mh (fN h3 h6) h6 x (ko o w).lines→Rp.Sl mh (fN h3 h6) h6 y (gQ o hh).lines→(ko o w).n=w→(gQ o hh).n=hh→fu o w hh=0→
   vK (aO 5 h6 (.pointer (some ⟨b3,0,none⟩))) λbv=>stK 5 (.pointer (some ⟨b2,0,none⟩)) bv h6 λ_ au=>vK (aO 5 au (.pointer (some ⟨b2,0,none⟩))) λbo=>Sk h (fu o w hh) (ch o w hh) (.tuple #[bo,ai]) au:=by
  intro h6 x y E q2 q3 Hx Hy nx ny D;rw[aU (l:=[x,y,af w,af hh,af o.border]) q3 5 rfl,aj];have bd:∀v∈[x,y,af w,af hh,af o.border],aQ v=true:=aq Hx.one (aq Hy.one (aq rfl (aq rfl (aq rfl aX))));refine cT (l:=[x,y,af w,af hh,af o.border]) q2 rfl bd rfl λh7 r7 u7=>?_
  rw[aU r7 5 rfl,aj];have F:∀c,c<h6.size→fN h3 h6 c→¬c=b2:=λc _ F he=>by
   have:=F.1;have:=bB r2;omega
  refine⟨_,by rw[D],E.upd k2 u7,λh=>absurd D h,λ_=>⟨x,y,?_,?_,?_⟩⟩
  ·show _=[x,y,af (ko o w).n,af (gQ o hh).n,af o.border];rw[nx,ny]
  ·exact(Hx.fr u7.fr F).mono λc hc F=>⟨bh ab.1 F.1,hc⟩
  ·exact(Hy.fr u7.fr F).mono λc hc F=>⟨bh ab.1 F.1,hc⟩
 have nX:(ko o w).n=w:=by unfold ko;split<;>rfl
 have nY:(gQ o hh).n=hh:=by unfold gQ;split<;>rfl
 simp only[go_sem,am r1];refine ao (λhk=>?_) (λhk=>?_)
 ·refine C7.mono λv L ⟨e,wq⟩=>?_
  have wq:=wq.symm;subst e wq;by_cases al:¬bC o.w
  ·have D:=m6 (.inl (by unfold kF;rintro⟨_,_,hx⟩;exact al (hx hk).1));simp only[go_sem,al,gG,cI];exact U 6 _ D ae e3
  have al:bC o.w:=co al;simp only[go_sem,al,am r1];refine C7.mono λv L ⟨e,wq⟩=>?_
  have wq:=wq.symm;subst e wq;by_cases an:¬bC o.hh
  ·have D:=m6 (.inl (by unfold kF;rintro⟨_,_,hx⟩;exact an (hx hk).2.1));simp only[go_sem,an,gG,cI];exact U 6 _ D ae e3
  have an:bC o.hh:=co an;simp only[go_sem,an,am r1];refine ao (λb4=>?_) (λb4=>?_)
  ·have D:=m6 (.inl (by unfold kF;rintro⟨_,_,hx⟩;have:=(hx hk).2.2;omega));simp only[gG,cI,aj];exact U 6 _ D ae e3
  have a7:kF o:=⟨a9,a8,λ_=>⟨al,an,ae,ae⟩⟩
  have A:=mt a7;unfold jN at A;rw[aA hk]at A;have tX:(ko o w).lines=(gb o.filter w o.w).lines:=by unfold ko;rw[aA hk]
  have tY:(gQ o hh).lines=(gb o.filter hh o.hh).lines:=by unfold gQ;rw[aA hk]
  refine(Nl W.filter hw W.w).mono λr I ⟨p,e,e4,p0,p1⟩=>?_
  subst e;simp only[go_sem];have po:aQ p=true:=by
   by_cases hc:eI o.filter w o.w=0
   ·obtain⟨_,_,e⟩:=(p1 hc).isSl;rw[e];rfl
   ·rw[p0 hc];rfl
  refine aw po (e4.row r3) λL r5 u5=>?_
  have E5:=(ab.trans e4).upd k3 u5;have bk:=(e3.trans e4).upd n3 u5;refine ao (λhc=>?_) (λhc=>?_)
  ·rw[aA hc]at A;simp only[gG,cI,aj];exact U _ _ A hc bk
  have hc:eI o.filter w o.w=0:=co hc;rw[az (by simpa using hc)]at A;have b8:=u5.row (ie ca) (e4.row r1);simp only[go_sem,am b8];refine(Nl W.filter bg W.hh).mono λr h6 ⟨q,e,e6,q0,q1⟩=>?_
  subst e;simp only[go_sem];have qo:aQ q=true:=by
   by_cases hc:eI o.filter hh o.hh=0
   ·obtain⟨_,_,e⟩:=(q1 hc).isSl;rw[e];rfl
   ·rw[q0 hc];rfl
  refine ax qo (e6.row r5) λh7 r7 u7=>?_
  have E7:=(E5.trans e6).upd k3 u7;have b5:=(bk.trans e6).upd n3 u7;refine ao (λG=>?_) (λG=>?_)
  ·simp only[gG,cI,aj];exact U _ _ A G b5
  have G:eI o.filter hh o.hh=0:=co G;have zz:∀{a d:ah},h3.size≤a.size→∀c,c<d.size→fN a d c→¬c=b3:=λha c _ F he=>by
   have:=F.1;omega
  refine fin E7 (u7.row (ie aa) (e6.row (u5.row (ie aa) (e4.row r2)))) r7 ?_ ?_ nX nY (by rw[A,G])
  ·rw[tX];have a1:=(p1 hc).sl.fr u5.fr (zz (bU _));have a2:=(a1.ext e6).mono (Z':=fN h3 h6) λc _ F=>⟨F.1,by have:=F.2;have:=u5.1;have:=e6.1;omega⟩
   exact(a2.fr u7.fr (zz (bU _))).mono λc hc F=>⟨F.1,hc⟩
  ·rw[tY];have b1:h3.size≤L.size:=by have:=e4.1;have:=u5.1;omega
   exact((q1 G).sl.fr u7.fr (zz b1)).mono λc hc F=>⟨bh b1 F.1,hc⟩
 have a7:kF o:=⟨a9,a8,λh=>absurd h hk⟩
 have A:=mt a7;unfold jN at A;rw[az hk]at A;have tX:(ko o w).lines=(lI (dZ o) w).lines:=by unfold ko;rw[az hk]
 have tY:(gQ o hh).lines=(lI (dy o) hh).lines:=by unfold gQ;rw[az hk]
 refine bi (λxs I=>∃u v,xs=[af (gY o),u,v]∧Ext h3 I∧(gY o=0→SlI (fN h3 I) I u (dZ o)∧SlI (fN h3 I) I v (dy o))) ?_ ?_
 ·refine ao (λk0=>?_) (λk0=>?_)
  ·refine(R5 W.sigma).mono λr I ⟨u,e,N⟩=>?_
   subst e;simp only[go_sem];have c1:gY o=Fe o.sigma:=by unfold gY;rw[aA k0]
   have c2:dZ o=oF o.sigma:=by unfold dZ;rw[aA k0]
   have c3:dy o=oF o.sigma:=by unfold dy;rw[aA k0]
   rw[c1,c2,c3];exact⟨u,u,rfl,N.2.1,λ_=>⟨N.since (Ext.refl _),N.since (Ext.refl _)⟩⟩
  refine ao (λk1=>?_) (λk1=>?_)
  ·simp only[go_sem,am r1];refine(ZP W.radius).mono λr I ⟨u,e,N⟩=>?_
   subst e;simp only[go_sem];have c1:gY o=P8 o.radius:=by unfold gY;rw[az k0,aA k1]
   have c2:dZ o=yx o.radius:=by unfold dZ;rw[az k0,aA k1]
   have c3:dy o=yx o.radius:=by unfold dy;rw[az k0,aA k1]
   rw[c1,c2,c3];exact⟨u,u,rfl,N.2.1,λ_=>⟨N.since (Ext.refl _),N.since (Ext.refl _)⟩⟩
  have k2:(o.kind=2)=True:=jx ae;simp only[go_sem,am r1,k2];have c1:gY o=if AK o.x≠0 then AK o.x else AK o.y:=by unfold gY;rw[az k0,az k1]
  have c2:dZ o=rk o.x:=by unfold dZ;rw[az k0,az k1]
  have c3:dy o=rk o.y:=by unfold dy;rw[az k0,az k1]
  refine(Nn (Hx.ext ab) W.x lx).mono λr I ⟨u,e,N⟩=>?_
  subst e;simp only[go_sem,am (N.2.1.row r1)];refine(Nn (Hy.ext (ab.trans N.2.1)) W.y ly).mono λr L ⟨v,e,M⟩=>?_
  subst e;simp only[go_sem];have s1:SlI (fN h3 L) L u (rk o.x):=((N.since (Ext.refl _)).ext M.2.1).mono λc hc F=>⟨F.1,bT F.2 M.2.1.1⟩
  have s2:SlI (fN h3 L) L v (rk o.y):=M.since N.2.1;rw[c1,c2,c3];refine ao (λhc=>?_) (λhc=>?_)
  ·rw[az (by simpa using hc)];exact⟨u,v,rfl,N.2.1.trans M.2.1,λ_=>⟨s1,s2⟩⟩
  ·rw[aA hc];exact⟨u,v,rfl,N.2.1.trans M.2.1,λ_=>⟨s1,s2⟩⟩
 rintro xs ρj I ⟨u,v,rfl,e4,hu⟩;have cb:=e4;simp only[go_sem];refine ao (λhc=>?_) (λhc=>?_)
 ·rw[aA hc]at A;simp only[gG,cI,aj];exact U _ _ A hc (e3.trans e4)
 have b0:gY o=0:=co hc;rw[az hc]at A;obtain⟨Hu,Hv⟩:=hu b0;refine(Nm Hu (yJ o) (FC o) hw).mono λr L ⟨p,e,e5,p0,p1⟩=>?_
 subst e;simp only[go_sem];have po:aQ p=true:=by
  by_cases hc:jV (dZ o) w=0
  ·obtain⟨_,_,e⟩:=(p1 hc).isSl;rw[e];rfl
  ·rw[p0 hc];rfl
 refine aw po ((e4.trans e5).row r3) λh6 r6 u6=>?_
 have E6:=(ab.trans (e4.trans e5)).upd k3 u6;have bc:=(e3.trans (e4.trans e5)).upd n3 u6;refine ao (λhc=>?_) (λhc=>?_)
 ·rw[aA hc]at A;simp only[gG,cI,aj];exact U _ _ A hc bc
 have hc:jV (dZ o) w=0:=co hc;rw[az (by simpa using hc)]at A;have zz:∀{a d:ah},h3.size≤a.size→∀c,c<d.size→fN a d c→¬c=b3:=λha c _ F he=>by
  have:=F.1;omega
 refine(Nm ((Hv.ext e5).fr u6.fr λc _ F he=>by have:=F.1;omega) (yI o) (FB o) bg).mono λr h7 ⟨q,e,e7,q0,q1⟩=>?_
 subst e;simp only[go_sem];have qo:aQ q=true:=by
  by_cases hc:jV (dy o) hh=0
  ·obtain⟨_,_,e⟩:=(q1 hc).isSl;rw[e];rfl
  ·rw[q0 hc];rfl
 refine ax qo (e7.row r6) λh8 r8 u8=>?_
 have E8:=(E6.trans e7).upd k3 u8;have b7:=(bc.trans e7).upd n3 u8;refine ao (λG=>?_) (λG=>?_)
 ·simp only[gG,cI,aj];exact U _ _ A G b7
 have G:jV (dy o) hh=0:=co G;refine fin E8 (u8.row (ie aa) (e7.row (u6.row (ie aa) ((e4.trans e5).row r2)))) r8 ?_ ?_ nX nY (by rw[A,G])
 ·rw[tX];have a1:=(p1 hc).sl.fr u6.fr (zz e4.1);have a2:=(a1.ext e7).mono (Z':=fN h3 h7) λc _ F=>⟨bh e4.1 F.1,by have:=F.2;have:=u6.1;have:=e7.1;omega⟩
  exact(a2.fr u8.fr (zz (bU _))).mono λc hc F=>⟨F.1,hc⟩
 ·rw[tY];have b1:h3.size≤h6.size:=by have:=e4.1;have:=e5.1;have:=u6.1;omega
  exact((q1 G).sl.fr u8.fr (zz b1)).mono λc hc F=>⟨bh b1 F.1,hc⟩
theorem Ya {Z:Nat→Prop}{h:ah}{cs:List Value}{o:OpD}(H:rOp.R Z h cs o){w hh:Int}:ag prog zJ #[.agg cs.toArray,af w,af hh] h λr h'=>
  r=.tuple #[af (if o.kind=3 then o.w else w),af (if o.kind=3 then o.hh else hh)]∧Ext h h':=by
 apply Of;unfold DC;obtain⟨s,t,rfl,F,I⟩:=H;simp only[bO];refine aI λb h1 r1 D G=>?_
 simp only[go_sem,am r1];refine ao (λA=>?_) (λA=>?_)
 ·rw[aA A,aA A];exact⟨rfl,D⟩
 ·rw[az A,az A];exact⟨rfl,D⟩
end Go.Proofs.YtjljhnandbbldaaGreatDoor
namespace Go.Proofs.YtjljhnandbbldaaGreatDoor
open Go Go.Crisp
attribute [local irreducible] ag df aW stK aF vK qK bJ gK eK aZ mkK di Fi GM CF bsK
open _root_.Go.Proofs.Tryz
theorem VX {Z:Nat→Prop}{h:ah}{v:Value}{l:List Int}(H:Rp.Sl rI Z h v l){i:Nat}(hi:i<l.length):
  ∃p,bu 1 v (af (i:Int))=some p∧ldV h p=some (af l[i]):=by
 obtain⟨p,c,D,hc,A⟩:=H.at1 rfl (k:=.i64) hi;have A:[c]=[af l[i]]:=A;obtain rfl:c=af l[i]:=by simpa using A
 exact⟨p,D,hc⟩
theorem Ue {h:ah}{Z Z':Nat→Prop}{v u:Value}{l:List Int}(H:Rp.Sl rI Z h v l)(K:Rp.Sl rI Z' h u l)(L:l.length≤4398046511104):
  ag prog uE #[v,u] h λr h'=>r=.bool true∧h'=h:=by
 apply On;unfold DJ;have I:=H;have K0:=K;obtain⟨a,c,rfl⟩:=H.isSl;obtain⟨U,c',rfl⟩:=K.isSl;simp only[go_sem];refine EY l.length (λi F=>i≤l.length∧F=h) ⟨ae,rfl⟩ ?_;rintro i _ again ρj ⟨hi,rfl⟩ D;simp only[go_sem];refine ao (λh1=>?_) (λh1=>?_)
 ·have A:i<l.length:=ae;obtain⟨p,G,hc⟩:=VX I A;obtain⟨q,hq,hd⟩:=VX K0 A;simp only[go_sem,G,hc,hq,hd];rw[w64 ae ae];exact D _ A ⟨ae,rfl⟩
 ·exact⟨trivial,trivial⟩
theorem c_Ref {h:ah}{Z:Nat→Prop}{cs:List Value}{o:OpD}(H:rOp.R Z h cs o):
  ag prog Ct #[.agg cs.toArray] h λr h'=>r=.agg cs.toArray∧rOp.R Z h' cs o∧Ext h h':=by
 apply QU;unfold Gd;have G:=H;obtain⟨s,t,rfl,I,W⟩:=H;have os:=I.one;have ot:=W.one;simp only[bO];refine aI λb1 h1 r1 D n1=>aI λb2 h2 r2 F n2=>?_
 have r1:=F.row r1;have e:=D.trans F;have s1:=D.1;simp only[go_sem,am r1];have U:aM #[ai,ai,ai,ai,(.slice none 0 0),(.slice none 0 0),ai,ai,ai]
   [(0,1,(af o.kind)),(1,1,(af o.border)),(2,1,(af o.sigma)),(3,1,(af o.radius)),(4,1,s),(5,1,t),(6,1,(af o.filter)),(7,1,(af o.w)),(8,1,(af o.hh))]=
   some #[af o.kind,af o.border,af o.sigma,af o.radius,s,t,af o.filter,af o.w,af o.hh]:=by
  simp[aM,cC os,cC ot,cC (show aQ (.int _ _)=true from rfl)]
 rw[U,cI,aj];refine cT (l:=[af o.kind,af o.border,af o.sigma,af o.radius,s,t,af o.filter,af o.w,af o.hh]) r2 rfl (rOp.one G) rfl λh3 L A=>?_
 rw[aU L 9 rfl,aj];exact⟨rfl,rOp.ext G (e.upd ae A),e.upd ae A⟩
end Go.Proofs.YtjljhnandbbldaaGreatDoor
namespace Go.Proofs.YtjljhnandbbldaaGreatDoor
open Go Go.Crisp
attribute [local irreducible] ag df aW stK aF vK qK bJ gK eK aZ mkK di Fi GM CF bsK clK
open _root_.Go.Proofs.Tryz
def jA (w h c:Int):Prop:=1≤w∧w≤65536∧1≤h∧h≤65536∧(c=1∨c=3)∧w*h*c≤268435456
instance (w h c:Int):Decidable (jA w h c):=by unfold jA;infer_instance
theorem VE {h:ah}{x y c:Int}:ag prog my #[af x,af y,af c] h λr h'=>r=.bool (decide (jA x y c))∧h'=h:=by
 apply L9;unfold AY;simp only[go_sem];refine⟨?_,trivial⟩
 congr 1
 rw[gE];unfold jA;by_cases h1:1≤x∧x≤65536∧1≤y∧y≤65536∧(c=1∨c=3)
 ·have D:=mT (a:=x) (A:=65536) (b:=y) (B:=65536) ae ae ae ae;rw[w64 (n:=x*y) ae ae,w64 (n:=x*y*c) (by rcases h1.2.2.2.2 with h|h<;>subst h<;>omega) (by rcases h1.2.2.2.2 with h|h<;>subst h<;>omega)];omega
 ·omega
theorem T4 {h:ah}{x y c:Int}:ag prog uB #[af x,af y,af c] h λr h'=>r=.bool (decide (jA x y c))∧h'=h:=by
 apply Oh;unfold DE;simp only[go_sem];refine ao (λh0=>?_) (λh0=>?_)
 ·refine⟨?_,trivial⟩;rw[cB];unfold jA;omega
 refine ao (λh1=>?_) (λh1=>?_)
 ·refine⟨?_,trivial⟩;rw[cB];unfold jA;omega
 have D:=mT (a:=x) (A:=65536) (b:=y) (B:=65536) ae ae ae ae;rw[w64 (n:=x*y) ae ae,mq _ _ _ _ ae,aj];simp only[go_sem];refine⟨?_,trivial⟩
 congr 1
 rw[gE];unfold jA;have hc:c=1∨c=3:=ae;rcases hc with hc|hc<;>subst hc
 ·rw[show Int.tdiv 268435456 1=268435456 from by decide,w64 ae ae];omega
 ·rw[show Int.tdiv 268435456 3=89478485 from by decide,w64 ae ae];omega
def pH (o:OpD)(w:Int):Int:=if o.kind=3 then o.w else w
def tj (o:OpD)(h:Int):Int:=if o.kind=3 then o.hh else h
def Fu (c:Int):List OpD→Int→Int→Int
 | [],_,_=>0
 |o::l,w,h=>if fu o w h≠0 then fu o w h else if¬jA (pH o w) (tj o h) c then 5 else Fu c l (pH o w) (tj o h)
def xC:List OpD→Int→Int→List Stg
 | [],_,_=>[]
 |o::l,w,h=>ch o w h::xC l (pH o w) (tj o h)
def Az (l:List OpD)(w h c:Int):Int:=if 16<l.length then 6 else if¬jA w h c then 5 else Fu c l w h
def D8:Rp Stg where
 w:=3
 R:=λZ h cs s=>∃p q,cs=[p,q,.int .i64 s.border]∧fG Z h p s.x∧fG Z h q s.y
 len:=by rintro _ _ _ _ ⟨x,y,rfl,_⟩;rfl
 one:=by
  rintro _ _ _ _ ⟨x,y,rfl,H,K⟩;exact aq (mF H) (aq (mF K) (aq rfl aX))
 fr:=by rintro _ _ _ _ _ _ ⟨x,y,rfl,H,K⟩ f q;exact⟨x,y,rfl,Rp.Pt.fr H f q,Rp.Pt.fr K f q⟩
 mono:=by rintro _ _ _ _ _ ⟨x,y,rfl,H,K⟩ q;exact⟨x,y,rfl,Rp.Pt.mono H q,Rp.Pt.mono K q⟩
def zas (e:Rp Stg)(h:ah)(code:Int)(l:List Stg)(r:Value)(h':ah):Prop:=∃v,r=.tuple #[v,.int .i64 code]∧Ext h h'∧(code≠0→v=.slice none 0 0)∧(code=0→jC e h h' v l)
structure Ej (l:List OpD):Prop where
 wf:∀o∈l,o.Wf
 len:∀o∈l,o.x.length≤17592186044416∧o.y.length≤17592186044416
 few:l.length≤4398046511104
theorem SI {o:OpD}(W:o.Wf){w h:Int}(A:I64 w)(hh:I64 h):I64 (pH o w)∧I64 (tj o h):=by
 unfold pH tj;constructor
 ·split;exact W.w;exact A
 ·split;exact W.hh;exact hh
theorem PE {α:Type}{l:List α}{k:Nat}(h:k<l.length):l.drop k=l[k]::l.drop (k+1):=zj h
theorem zbu {Z:Nat→Prop}{h:ah}(G:eB h){v:Value}{l:List OpD}(H:Rp.Sl rOp Z h v l)(W:Ej l){w hh c:Int}(hw:I64 w)(ar:I64 hh):
  ag prog NP #[v,af w,af hh,af c] h (zas D8 h (Az l w hh c) (xC l w hh)):=by
 apply XD;unfold Pc;obtain⟨a,cap,e⟩:=H.isSl;have e2:aD v=some (af (l.length:Int)):=by rw[e];rfl
 rw[e2,aj];have few:=W.few;have ro:Az l w hh c=if 16<l.length then 6 else if¬jA w hh c then 5 else Fu c l w hh:=rfl
 simp only[go_sem];refine ao (λh0=>?_) (λh0=>?_)
 ·rw[aA ae]at ro;rw[ro];exact⟨_,rfl,Ext.refl _,λ_=>rfl,λh=>by cases h⟩
 rw[az ae]at ro;refine VE.mono λr h1 ⟨e,U⟩=>?_
 have U:=U.symm;subst e U;simp only[go_sem];refine ao (λh1=>?_) (λh1=>?_)
 ·rw[aA h1]at ro;rw[ro];exact⟨_,rfl,Ext.refl _,λ_=>rfl,λh=>by cases h⟩
 rw[az h1]at ro
 try rw[e2,aj]
 refine bH (α:=Int×Int×Value) l.length 0 (λk a=>[af a.1,af a.2.1,a.2.2,af (k:Int)])
  (λk a h'=>I64 a.1∧I64 a.2.1∧Az l w hh c=Fu c (l.drop k) a.1 a.2.1∧∃done,done.length=k∧xC l w hh=done++xC (l.drop k) a.1 a.2.1∧jC D8 h h' a.2.2 done) (w,hh,.slice none 0 0) rfl (bZ _)
  ⟨hw,ar,ro,[],rfl,rfl,jC.nil (Ext.refl _)⟩ λk a h2 again ρj _ hk ⟨iw,ih,hc,done,dl,hd,N⟩ au=>?_
 obtain⟨w1,A,out⟩:=a;simp only[go_sem];have N:jC D8 h h2 out done:=N;have iw:I64 w1:=iw;have ih:I64 A:=ih;refine ao (λh3=>?_) (λh3=>?_)
 ·have I:k<l.length:=ae;have hc:Az l w hh c=Fu c (l.drop k) w1 A:=hc;have hd:xC l w hh=done++xC (l.drop k) w1 A:=hd;rw[PE I]at hc hd;have hm:=cQ I;have Wo:=W.wf _ hm;have Lo:=W.len _ hm;obtain⟨p,cs,q1,q2,Ho⟩:=Rp.Sl.atw (e:=rOp) (H.ext N.exts) (show 0<9 by omega) (k:=.i64) I;have q1:bu 9 v (af (k:Int))=some p:=q1;have q2:aO 9 h2 p=some (.agg cs.toArray):=q2;rw[q1,aj,q2,aj];have F:cs.length=9:=rOp.len Ho;refine dk (cs:=cs) F (rOp.one Ho) F λb h4 r4 e4 n4=>?_
  rw[aU r4 9 F,aj];have G4:=G.ext (N.exts.trans e4);have ad:=rOp.ext Ho e4;generalize l[k]=o at*;refine(Jd G4 ad Wo ae ae iw ih).mono λr h5 ⟨sv,e,e5,s0,s1⟩=>?_
  subst e;simp only[go_sem];have so:∃ds:List Value,sv=.agg ds.toArray∧ds.length=3∧(∀x∈ds,aQ x=true)∧(fu o w1 A=0→D8.R (fN h4 h5) h5 ds (ch o w1 A)):=by
   by_cases hm:fu o w1 A=0
   ·obtain⟨p,q,e,t1,t2⟩:=s1 hm;exact⟨[p,q,af (ch o w1 A).border],e,rfl,aq (mF t1) (aq (mF t2) (aq rfl aX)),λ_=>⟨p,q,rfl,t1,t2⟩⟩
   ·exact⟨[.pointer none,.pointer none,ai],s0 hm,rfl,aq rfl (aq rfl (aq rfl aX)),λh=>absurd h hm⟩
  obtain⟨ds,rfl,ab,d1,dR⟩:=so;refine dk (cs:=ds) ab d1 ab λb2 h6 r6 e6 n6=>?_
  have aa:Ext h2 h6:=e4.trans (e5.trans e6);refine ao (λD=>?_) (λD=>?_)
  ·unfold Fu at hc;rw[aA D]at hc;rw[hc];exact⟨_,rfl,N.exts.trans aa,λ_=>rfl,λh=>absurd h D⟩
  have D:fu o w1 A=0:=co D;unfold Fu at hc;rw[az (by simpa using D)]at hc;have an:=(e5.trans e6).row r4;rw[aU an 9 F,aj];refine(ZW (rOp.ext ad (e5.trans e6))).mono λr h7 ⟨e,e7⟩=>?_
  subst e;simp only[go_sem];refine VE.mono λr L ⟨e,U⟩=>?_
  have U:=U.symm;subst e U;simp only[go_sem];refine ao (λL=>?_) (λL=>?_)
  ·have L:¬jA (pH o w1) (tj o A) c:=L;rw[aA L]at hc;rw[hc];exact⟨_,rfl,N.exts.trans (aa.trans e7),λ_=>rfl,λh=>by cases h⟩
  have L:¬ ¬jA (pH o w1) (tj o A) c:=L;rw[az L]at hc;rw[aU (e7.row r6) 3 ab,aj];have aw:=aa.trans e7;have N7:=N.ext aw;have R7:=D8.ext (dR D) (e6.trans e7);refine jC.push (e:=D8) (Y:=fN h4 h5) N7 R7 (λb hb=>⟨bh (N.exts.trans e4).1 hb.1,?_,λhv=>?_⟩) rfl rfl (by rw[dl];omega) (by rw[dl];omega) λs' h' N' _ _=>?_
  ·have:=hb.2;have:=e6.1;have:=e7.1;omega
  ·have h9:=N.lt hv;have ay:=hb.1;have ax:=e4.1;omega
  ·try simp only[go_sem]
   rw[w64 ae ae];have hs:=SI Wo iw ih;refine au (pH o w1,tj o A,s') h' I ⟨hs.1,hs.2,hc,done++[ch o w1 A],by simp[dl],?_,N'⟩;rw[cf];exact hd
 ·have al:k=l.length:=ae;subst al;have hc:Az l w hh c=Fu c (l.drop l.length) w1 A:=hc;have hd:xC l w hh=done++xC (l.drop l.length) w1 A:=hd;rw[List.drop_length]at hc hd;have hc:Az l w hh c=0:=hc;rw[hc,hd];refine⟨_,rfl,N.exts,λh=>absurd rfl h,λ_=>?_⟩;rw[show xC [] w1 A=[]from rfl,gR];exact N
theorem ZU {Z:Nat→Prop}{h:ah}{v:Value}{l:List OpD}(H:Rp.Sl rOp Z h v l)(W:Ej l){w hh c:Int}(hw:I64 w)(an:I64 hh):
  ag prog Cl #[v,af w,af hh,af c] h (zas xm h (Az l w hh c) (xC l w hh)):=by
 apply QG;unfold FR;obtain⟨a,cap,e⟩:=H.isSl;have e2:aD v=some (af (l.length:Int)):=by rw[e];rfl
 rw[e2,aj];have few:=W.few;have ro:Az l w hh c=if 16<l.length then 6 else if¬jA w hh c then 5 else Fu c l w hh:=rfl
 simp only[go_sem];refine ao (λh0=>?_) (λh0=>?_)
 ·rw[aA ae]at ro;rw[ro];exact⟨_,rfl,Ext.refl _,λ_=>rfl,λh=>by cases h⟩
 rw[az ae]at ro;refine T4.mono λr h1 ⟨e,L⟩=>?_
 have L:=L.symm;subst e L;simp only[go_sem];refine ao (λh1=>?_) (λh1=>?_)
 ·rw[aA h1]at ro;rw[ro];exact⟨_,rfl,Ext.refl _,λ_=>rfl,λh=>by cases h⟩
 rw[az h1]at ro
 try rw[e2,aj]
 refine bH (α:=Int×Int×Value) l.length 0 (λk a=>[af a.1,af a.2.1,a.2.2,af (k:Int)])
  (λk a h'=>I64 a.1∧I64 a.2.1∧Az l w hh c=Fu c (l.drop k) a.1 a.2.1∧∃done,done.length=k∧xC l w hh=done++xC (l.drop k) a.1 a.2.1∧jC xm h h' a.2.2 done) (w,hh,.slice none 0 0) rfl (bZ _)
  ⟨hw,an,ro,[],rfl,rfl,jC.nil (Ext.refl _)⟩ λk a h2 again ρj _ hk ⟨iw,ih,hc,done,dl,hd,N⟩ ar=>?_
 obtain⟨w1,A,out⟩:=a;simp only[go_sem];have N:jC xm h h2 out done:=N;have iw:I64 w1:=iw;have ih:I64 A:=ih;refine ao (λh3=>?_) (λh3=>?_)
 ·have G:k<l.length:=ae;have hc:Az l w hh c=Fu c (l.drop k) w1 A:=hc;have hd:xC l w hh=done++xC (l.drop k) w1 A:=hd;rw[PE G]at hc hd;have hm:=cQ G;have Wo:=W.wf _ hm;have Lo:=W.len _ hm;obtain⟨p,cs,q1,q2,Ho⟩:=Rp.Sl.atw (e:=rOp) (H.ext N.exts) (show 0<9 by omega) (k:=.i64) G;have q1:bu 9 v (af (k:Int))=some p:=q1;have q2:aO 9 h2 p=some (.agg cs.toArray):=q2;rw[q1,aj,q2,aj];have F:cs.length=9:=rOp.len Ho;refine dk (cs:=cs) F (rOp.one Ho) F λb h4 r4 e4 n4=>?_
  rw[aU r4 9 F,aj];have ab:=rOp.ext Ho e4;generalize l[k]=o at*;refine(Yb ab Wo ae ae iw ih).mono λr h5 ⟨ds,e,e5,s0,dR⟩=>?_
  subst e;simp only[go_sem];have so:ds.length=5∧(∀x∈ds,aQ x=true):=by
   by_cases hm:fu o w1 A=0
   ·exact⟨xm.len (dR hm),xm.one (dR hm)⟩
   ·rw[s0 hm];exact⟨rfl,aq rfl (aq rfl (aq rfl (aq rfl (aq rfl aX))))⟩
  obtain⟨aa,d1⟩:=so;refine dk (cs:=ds) aa d1 aa λb2 h6 r6 e6 n6=>?_
  have U:Ext h2 h6:=e4.trans (e5.trans e6);refine ao (λD=>?_) (λD=>?_)
  ·unfold Fu at hc;rw[aA D]at hc;rw[hc];exact⟨_,rfl,N.exts.trans U,λ_=>rfl,λh=>absurd h D⟩
  have D:fu o w1 A=0:=co D;unfold Fu at hc;rw[az (by simpa using D)]at hc;have al:=(e5.trans e6).row r4;rw[aU al 9 F,aj];refine(Ya (rOp.ext ab (e5.trans e6))).mono λr h7 ⟨e,e7⟩=>?_
  subst e;simp only[go_sem];refine T4.mono λr I ⟨e,L⟩=>?_
  have L:=L.symm;subst e L;simp only[go_sem];refine ao (λI=>?_) (λI=>?_)
  ·have I:¬jA (pH o w1) (tj o A) c:=I;rw[aA I]at hc;rw[hc];exact⟨_,rfl,N.exts.trans (U.trans e7),λ_=>rfl,λh=>by cases h⟩
  have I:¬ ¬jA (pH o w1) (tj o A) c:=I;rw[az I]at hc;rw[aU (e7.row r6) 5 aa,aj];have au:=U.trans e7;have N7:=N.ext au;have R7:=xm.ext (dR D) (e6.trans e7);refine jC.push (e:=xm) (Y:=fN h4 h5) N7 R7 (λb hb=>⟨bh (N.exts.trans e4).1 hb.1,?_,λhv=>?_⟩) rfl rfl (by rw[dl];omega) (by rw[dl];omega) λs' h' N' _ _=>?_
  ·have:=hb.2;have:=e6.1;have:=e7.1;omega
  ·have h9:=N.lt hv;have ax:=hb.1;have aw:=e4.1;omega
  ·try simp only[go_sem]
   rw[w64 ae ae];have hs:=SI Wo iw ih;refine ar (pH o w1,tj o A,s') h' G ⟨hs.1,hs.2,hc,done++[ch o w1 A],by simp[dl],?_,N'⟩;rw[cf];exact hd
 ·have ad:k=l.length:=ae;subst ad;have hc:Az l w hh c=Fu c (l.drop l.length) w1 A:=hc;have hd:xC l w hh=done++xC (l.drop l.length) w1 A:=hd;rw[List.drop_length]at hc hd;have hc:Az l w hh c=0:=hc;rw[hc,hd];refine⟨_,rfl,N.exts,λh=>absurd rfl h,λ_=>?_⟩;rw[show xC [] w1 A=[]from rfl,gR];exact N
theorem zcV {Z:Nat→Prop}{h:ah}{v:Value}{l:List OpD}(H:Rp.Sl rOp Z h v l)(few:l.length≤4398046):
  ag prog zV #[v] h λr h'=>Rp.Sl rOp (λ_=>True) h' r l∧Ext h h':=by
 apply OE;unfold DX;obtain⟨a,cap,e⟩:=H.isSl;have e2:aD v=some (af (l.length:Int)):=by rw[e];rfl
 rw[e2,aj];have H:=H.mono (Z':=λc=>c<h.size) λc hc _=>hc
 refine bH (α:=Value) l.length 0 (λk a=>[a,af (k:Int)])
  (λk a h'=>Rp.Ow rOp (λc=>c<h.size) h' a (l.take k)∧Ext h h'∧∀b,blk a b→h.size≤b) (.slice none 0 0) rfl (bZ _)
  ⟨Rp.Ow.nil,Ext.refl _,λb hb=>hb.elim⟩ λk out h2 again ρj _ hk ⟨N,E,nb⟩ G=>?_
 simp only[go_sem];refine ao (λh3=>?_) (λh3=>?_)
 ·have D:k<l.length:=ae;obtain⟨p,cs,q1,q2,I⟩:=Rp.Sl.atw (e:=rOp) (H.ext E) (show 0<9 by omega) (k:=.i64) D;have q1:bu 9 v (af (k:Int))=some p:=q1;have q2:aO 9 h2 p=some (.agg cs.toArray):=q2;rw[q1,aj,q2,aj];have A:cs.length=9:=rOp.len I;refine dk (cs:=cs) A (rOp.one I) A λb h4 r4 W n4=>?_
  rw[aU r4 9 A,aj];refine(c_Ref (rOp.ext I W)).mono λr h5 ⟨e,L,e5⟩=>?_
  subst e;have E5:=(E.trans W).trans e5;have F:(l.take k).length=k:=by rw[c5];omega
  refine Rp.push_ow (e:=rOp) (N.ext (W.trans e5)) L rfl rfl (by rw[F];omega) (by rw[F];omega) (λc hc=>bT hc E5.1) λs' h' o' f' n'=>?_
  try simp only[go_sem]
  rw[w64 ae ae];rw[←ju D]at o';refine G s' h' D ⟨o',E5.then_fr f' nb,λc hc=>?_⟩;rcases n' c hc with U|U
  ·exact nb c U
  ·exact bh E5.1 U
 ·rw[eS ae]at N;exact⟨N.sl.mono λ_ _ _=>trivial,E⟩
abbrev rU:Rp Int:=Rp.int .u16
abbrev JZ (l:List Int):List Value:=l.map λn=>Value.int .u16 n
structure Pic where
 w:Int
 h:Int
 c:Int
 most:Int
 l:List Int
structure Pic.Wf (m:Pic):Prop where
 fits:jA m.w m.h m.c
 m1:1≤m.most
 m2:m.most≤65535
 len:(m.l.length:Int)=m.w*m.h*m.c
 smp:∀x∈m.l,0≤x∧x≤m.most
def inP (m:Pic)(x y c:Int):Prop:=0≤x∧x<m.w∧0≤y∧y<m.h∧0≤c∧c<m.c
instance (m:Pic)(x y c:Int):Decidable (inP m x y c):=by unfold inP;infer_instance
def pC (m:Pic)(x y c:Int):Int:=(y*m.w+x)*m.c+c
def atP (m:Pic)(x y c:Int):Int:=if inP m x y c then m.l.getD (pC m x y c).toNat 0 else 0
def SJ (m:Pic)(x y c v:Int):Pic:={m with l:=m.l.set (pC m x y c).toNat v}
theorem dH {w h c:Int}(f:jA w h c):1≤w∧w≤65536∧1≤h∧h≤65536∧1≤c∧c≤3∧0≤w*h∧w*h≤4294967296∧0≤w*h*c∧w*h*c≤268435456:=by
 obtain⟨h1,F,G,H,L,I⟩:=f;have D:=mT (a:=w) (A:=65536) (b:=h) (B:=65536) ae ae ae ae;refine⟨h1,F,G,H,ae,ae,D.1,D.2,mV D.1 ae,I⟩
theorem LO {m:Pic}(W:m.Wf){x y c:Int}(h:inP m x y c):0≤y*m.w∧y*m.w+x≤4294967296∧0≤pC m x y c∧pC m x y c<m.l.length:=by
 obtain⟨h1,h2,L,h4,h5,h6,h7,I,F,D⟩:=dH W.fits;obtain⟨x0,H,y0,y1,G,U⟩:=h;have a0:0≤y*m.w:=mV y0 ae;have a1:y*m.w≤(m.h-1)*m.w:=sK ae ae;rw[Rx,kp,fQ m.h]at a1;have b0:0≤(y*m.w+x)*m.c:=mV ae ae;have A:(y*m.w+x)*m.c≤(m.w*m.h-1)*m.c:=sK ae ae;rw[Rx,kp]at A;have:=W.len;unfold pC;refine⟨a0,ae,ae,ae⟩
structure db (h:ah)(b:Nat)(v:Value)(m:Pic):Prop where
 row:h[b]? =some (.cells #[.int .i64 m.w,.int .i64 m.h,.int .i64 m.c,.int .i64 m.most,v] 110 (0,0))
 own:Own 1 h v m.l.length (JZ m.l)
 ap:¬blk v b
abbrev ptr (b:Nat):Value:=.pointer (some ⟨b,0,none⟩)
theorem db.fr {M:Nat→Prop}{h h':ah}{b:Nat}{v:Value}{m:Pic}(H:db h b v m)(f:Fr M h h')(A:¬M b)(q:∀c,blk v c→¬M c):db h' b v m:=⟨f.row H.row A,H.own.fr f q,H.ap⟩
theorem db.ext {h h':ah}{b:Nat}{v:Value}{m:Pic}(H:db h b v m)(e:Ext h h'):db h' b v m:=H.fr (M:=λ_=>False) e.fr id λ_ _=>id
theorem db.lt {h:ah}{b:Nat}{v:Value}{m:Pic}(H:db h b v m):b<h.size:=bB H.row
theorem db.ltv {h:ah}{b:Nat}{v:Value}{m:Pic}(H:db h b v m){c:Nat}(hc:blk v c):c<h.size:=H.own.lt hc
theorem ut {h:ah}{b:Nat}{v:Value}{m:Pic}(H:db h b v m):ag prog bL #[ptr b] h λr h'=>r=af m.w∧h'=h:=by
 apply AD;unfold pL;simp only[go_sem,am H.row];exact⟨by simp,by simp⟩
theorem sq {h:ah}{b:Nat}{v:Value}{m:Pic}(H:db h b v m):ag prog bN #[ptr b] h λr h'=>r=af m.h∧h'=h:=by
 apply yT;unfold nP;simp only[go_sem,am H.row];exact⟨by simp,by simp⟩
theorem fD {h:ah}{b:Nat}{v:Value}{m:Pic}(H:db h b v m):ag prog aV #[ptr b] h λr h'=>r=af m.c∧h'=h:=by
 apply xq;unfold mg;simp only[go_sem,am H.row];exact⟨by simp,by simp⟩
theorem uH {h:ah}{b:Nat}{v:Value}{m:Pic}(H:db h b v m):ag prog dp #[ptr b] h λr h'=>r=af m.most∧h'=h:=by
 apply BA;unfold rz;simp only[go_sem,am H.row];exact⟨by simp,by simp⟩
theorem WY {h:ah}{b:Nat}{v:Value}{m:Pic}(H:db h b v m)(W:m.Wf){x y c:Int}:ag prog iR #[ptr b,af x,af y,af c] h λr h'=>
  r=af (if inP m x y c then pC m x y c else-1)∧h'=h:=by
 apply AC;unfold pK;have D:aG h ⟨b,0,none⟩=some (af m.w):=am H.row;have G:aG h ⟨b,1,none⟩=some (af m.h):=am H.row;have F:aG h ⟨b,2,none⟩=some (af m.c):=am H.row;simp only[go_sem,aK,D,G,F];refine ao (λh0=>?_) (λh0=>?_)
 ·rw[az (by unfold inP;omega)];exact⟨rfl,trivial⟩
 ·have hi:inP m x y c:=by unfold inP;omega
  have L:=LO W hi;have U:=dH W.fits;have I:=W.len;rw[aA hi];have e:(y*m.w+x)*m.c+c=pC m x y c:=rfl;have A:=hi;unfold inP at A;rw[w64 (n:=y*m.w) ae ae,w64 (n:=y*m.w+x) ae ae,w64 (n:=(y*m.w+x)*m.c) ae ae,w64 ae ae];exact⟨rfl,trivial⟩
theorem zbN {h:ah}{b:Nat}{v:Value}{m:Pic}(H:db h b v m)(W:m.Wf){x y c:Int}:ag prog gy #[ptr b,af x,af y,af c] h λr h'=>
  r=.int .u16 (atP m x y c)∧h'=h:=by
 apply EJ;unfold uV;refine(WY H W).mono λr h1 ⟨e,D⟩=>?_
 have D:=D.symm;subst e D;unfold atP;have I:aG h ⟨b,4,none⟩=some v:=am H.row;by_cases hi:inP m x y c
 ·have U:=LO W hi;rw[aA hi,aA hi];simp only[go_sem,aK,I];rw[cP U.2.2.1,iI];obtain⟨i,F⟩:∃i:Nat,pC m x y c=(i:Int):=⟨(pC m x y c).toNat,ae⟩
  rw[F,eT];have A:i<m.l.length:=ae;obtain⟨p,G,L,_⟩:=H.own.at1 (k:=.i64) A;rw[G,aj,L,aj];refine⟨?_,trivial⟩;rw[eU];simp[dQ,A]
 ·rw[az hi,az hi];simp only[go_sem];rw[show decide ((0:Int)≤ -1)=false from rfl,cK];exact⟨by simp,by simp⟩
theorem W0 {h:ah}{b:Nat}{v:Value}{m:Pic}(H:db h b v m)(W:m.Wf){x y c n:Int}(n0:0≤n)(n1:n≤65535):ag prog fW #[ptr b,af x,af y,af c,.int .u16 n] h λr h'=>
  r=.bool (decide (inP m x y c∧n≤m.most))∧db h' b v (if inP m x y c∧n≤m.most then SJ m x y c n else m)∧Fr (blk v) h h'∧h'.size=h.size:=by
 apply Di;unfold tD;refine(WY H W).mono λr h1 ⟨e,F⟩=>?_
 have F:=F.symm;subst e F;have U:aG h ⟨b,3,none⟩=some (af m.most):=am H.row;have q4:aG h ⟨b,4,none⟩=some v:=am H.row;simp only[go_sem,aK,U,q4];rw[w64 ae ae];by_cases hi:inP m x y c
 ·have hp:=LO W hi;rw[aA hi];refine ao (λh0=>?_) (λh0=>?_)
  ·have D:¬(inP m x y c∧n≤m.most):=by rintro⟨_,_⟩;omega
   rw[az D,cB D];exact⟨rfl,H,Fr.refl _ _,trivial⟩
  ·have I:inP m x y c∧n≤m.most:=⟨hi,ae⟩
   rw[aA I,cP I];obtain⟨i,A⟩:∃i:Nat,pC m x y c=(i:Int):=⟨(pC m x y c).toNat,ae⟩
   have hs:SJ m x y c n={m with l:=m.l.set i n}:=by unfold SJ;rw[A,eT]
   rw[A,hs];have G:i<m.l.length:=ae;obtain⟨p,p1,p2,p3⟩:=H.own.at1 (k:=.i64) G;rw[p1,aj];refine p3 _ _ rfl λh2 o2 f2 L=>⟨rfl,⟨f2.row H.row H.ap,?_,H.ap⟩,f2,L⟩
   show Own 1 h2 v (m.l.set i n).length (JZ (m.l.set i n));rw[GU,JZ,KO];exact o2
 ·have D:¬(inP m x y c∧n≤m.most):=λhh=>hi hh.1
  rw[az hi,az D,cB D];rw[show decide ((-1:Int)<0∨m.most<n)=true from cP ae,iI];exact⟨rfl,H,Fr.refl _ _,trivial⟩
theorem VU {m:Pic}(W:m.Wf){x y c n:Int}(A:0≤n)(F:n≤m.most):(SJ m x y c n).Wf:=by
 refine⟨W.fits,W.m1,W.m2,?_,λz D=>?_⟩
 ·show((m.l.set _ n).length:Int)=_;rw[GU];exact W.len
 ·rcases List.mem_or_eq_of_mem_set D with h|h
  ·exact W.smp z h
  ·rw[h];exact⟨A,F⟩
theorem Eu {k:IntKind}{h:ah}{v:Value}{l:List Int}(H:Own 1 h v l.length (l.map λn=>Value.int k n)):Rp.Sl (Rp.int k) (blk v) h v l:=
 (V0 H).sl.mono λb _ A=>A.elim False.elim id
theorem Uj {h:ah}{Z:Nat→Prop}{v:Value}{l:List Int}(H:Rp.Sl rU Z h v l)(hl:l.length≤1000000000):
  ag prog dx #[v] h λr h'=>New rU h h' r l:=by
 apply oe;unfold iJ;obtain⟨ds,⟨A,a,cap,rfl,D⟩,hz,he⟩:=H;rw[Jg,aj];cases a with
 | none=>
  have:l=[]:=by
   rcases D with D|⟨b,o,h0,_⟩
   ·subst D;have W:([]:List Value).length=l.length*1:=A;exact mX (by simpa using W.symm)
   ·cases h0
  subst this;simp only[Rn,go_sem];exact New.nil (Ext.refl _)
 |some a=>
  simp only[Rm,go_sem];refine da (c':=#[]) rfl λb h1 r1 L n1=>?_
  have O:Rp.Ow rU (λ_=>False) h1 (.slice (some ⟨b,0,none⟩) 0 0) []:=⟨[],.inr ⟨b,0,[],_,rfl,bU _,rfl,rfl,r1⟩,λb hb G=>G,λi hi=>absurd hi (by simp)⟩
  have S1:SlC 1 h1 (.slice (some a) l.length cap) l.length ds:=SlC.ext ⟨A,some a,cap,rfl,D⟩ L;refine Rp.app_ow (e:=rU) (l:=[]) (l2:=l) O S1 (λi hi=>he i hi) rfl (by simp;omega) (by simp;omega) (λb hb=>hb.elim) λv2 W U f2 n2=>?_
  rw[fB]at U;have nb:∀k,blk (.slice (some ⟨b,0,none⟩) 0 0) k→h.size≤k:=λk I=>by have:k=b:=I;omega
  refine⟨U,L.then_fr f2 nb,λk I=>?_⟩;rcases n2 k I with F|F
  ·exact nb k F
  ·exact bh L.1 F
theorem Yl {h:ah}{b:Nat}{v:Value}{m:Pic}(H:db h b v m)(W:m.Wf):ag prog jZ #[ptr b] h λr h'=>New rU h h' r m.l:=by
 apply yp;unfold nr;have A:aG h ⟨b,4,none⟩=some v:=am H.row;simp only[go_sem,aK,A];have D:=dH W.fits;have:=W.len;exact Uj (Eu H.own) ae
theorem Zx {a b c d e v w x y z:Value}(A:aQ a=true)(D:aQ b=true)(hc:aQ c=true)(hd:aQ d=true)(F:aQ e=true):aM #[v,w,x,y,z] [(0,1,a),(1,1,b),(2,1,c),(3,1,d),(4,1,e)]=some #[a,b,c,d,e]:=by
 simp only[aM,cC A,cC D,cC hc,cC hd,cC F];rfl
def BN (w h c most:Int):Int:=if most<1∨65535<most∨(c≠1∧c≠3)then 2 else if¬jA w h c then 5 else 0
def ur (w h c most:Int):Pic:=⟨w,h,c,most,List.replicate (w*h*c).toNat 0⟩
def sU (h h':ah)(p:Value)(m:Pic):Prop:=∃b v,p=ptr b∧db h' b v m∧h.size≤b∧(∀c,blk v c→h.size≤c)∧Ext h h'
theorem yv {w h c most:Int}:BN w h c most=0↔jA w h c∧1≤most∧most≤65535:=by
 unfold BN;split
 ·constructor
  ·intro h;cases h
  ·rintro⟨⟨_,_,_,_,_,_⟩,_,_⟩;omega
 ·split
  ·constructor
   ·intro h;cases h
   ·rintro⟨h,_⟩;contradiction
  ·rename_i h1 A;exact⟨λ_=>⟨co A,ae,ae⟩,λ_=>rfl⟩
theorem C1 {w h c most:Int}(H:BN w h c most=0):(ur w h c most).Wf:=by
 obtain⟨h1,A,D⟩:=yv.1 H;have G:=dH h1;refine⟨h1,A,D,?_,λx F=>?_⟩
 ·show((List.replicate (w*h*c).toNat (0:Int)).length:Int)=w*h*c;rw[vv];omega
 ·have:x=0:=(KJ.1 F).2;subst this;show 0≤(0:Int)∧(0:Int)≤most;omega
theorem yw {h:ah}{w hh c most:Int}:ag prog iQ #[af w,af hh,af c,af most] h λr h'=>
  ∃p,r=.tuple #[p,af (BN w hh c most)]∧Ext h h'∧(BN w hh c most≠0→p=.pointer none)∧(BN w hh c most=0→sU h h' p (ur w hh c most)):=by
 apply OA;unfold DS;simp only[go_sem];have A:BN w hh c most=if most<1∨65535<most∨(c≠1∧c≠3)then 2 else if¬jA w hh c then 5 else 0:=rfl
 refine ao (λh0=>?_) (λh0=>?_)
 ·rw[aA ae]at A;rw[A];exact⟨_,rfl,Ext.refl _,λ_=>rfl,λh=>by cases h⟩
 rw[az ae]at A;refine VE.mono λr h1 ⟨e,D⟩=>?_
 have D:=D.symm;subst e D;simp only[go_sem];refine ao (λh1=>?_) (λh1=>?_)
 ·rw[aA h1]at A;rw[A];exact⟨_,rfl,Ext.refl _,λ_=>rfl,λh=>by cases h⟩
 rw[az h1]at A;have hf:=dH (co h1);rw[w64 (n:=w*hh) ae ae,w64 (n:=w*hh*c) ae ae];obtain⟨n,H⟩:∃n:Nat,w*hh*c=(n:Int):=⟨(w*hh*c).toNat,ae⟩
 rw[H];refine og rfl ae ae λv h2 o2 G U=>?_
 obtain⟨av,cv,ev⟩:=o2.isSl;rw[Zx rfl rfl rfl rfl (by rw[ev];rfl),cI,aj];refine aI (c:=#[af w,af hh,af c,af most,v]) λb L r3 F I=>?_
 rw[A];refine⟨_,rfl,G.trans F,λh=>absurd rfl h,λ_=>⟨b,v,rfl,⟨r3,?_,λW=>?_⟩,bh G.1 I,U,G.trans F⟩⟩
 ·show Own 1 L v (List.replicate (w*hh*c).toNat (0:Int)).length (JZ (List.replicate (w*hh*c).toNat 0));rw[H,eT,vv,JZ,Rl];exact o2.fr (M:=λ_=>False) F.fr λ_ _=>id
 ·have:=o2.lt W;omega
theorem Q8 {l m:List Int}(h:l.length=m.length)(H:∀i (h1:i<l.length) (A:i<m.length),l[i]=m[i]):l=m:=qu h λi h1 A=>H i h1 A
theorem New.img {h h0:ah}{u:Value}{m:Pic}{b:Nat}{h':ah}(N:New rU h h0 u m.l)(r:h'[b]? =some (.cells #[af m.w,af m.h,af m.c,af m.most,u] 110 (0,0)))(e:Ext h0 h')(n:h0.size≤b):sU h h' (ptr b) m:=
 ⟨b,u,rfl,⟨r,(Qu N.1).fr (M:=λ_=>False) e.fr λ_ _=>id,λA=>by have:=N.1.lt A;omega⟩,bh N.2.1.1 n,N.2.2,N.2.1.trans e⟩
theorem zc3 {h:ah}{b:Nat}{v:Value}{m:Pic}(H:db h b v m)(W:m.Wf):ag prog mc #[ptr b] h λr h'=>sU h h' r m:=by
 apply BB;unfold rA;simp only[go_sem,aK];have q:∀h',Ext h h'→_:=λh' e=>e.row H.row
 refine aP (Ext h) (Ext.refl _) ?_;refine aC (af m.w) (λh' e=>am (q h' e)) ?_;refine aC (af m.h) (λh' e=>am (q h' e)) ?_;refine aC (af m.c) (λh' e=>am (q h' e)) ?_;refine aC (af m.most) (λh' e=>am (q h' e)) ?_;refine aC v (λh' e=>am (q h' e)) ?_;have L:=dH W.fits;have:=W.len;refine(Uj (Eu H.own) ae).mono λu h1 N=>⟨N.2.1,?_⟩
 obtain⟨av,cv,ev⟩:=N.isSl;rw[Zx rfl rfl rfl rfl (by rw[ev];rfl),cI,aj];refine aI (c:=#[af m.w,af m.h,af m.c,af m.most,u]) λG I D F A=>?_
 exact New.img N D F A
theorem zc1 {h:ah}{Z:Nat→Prop}{v:Value}{l:List Int}(H:Rp.Sl rU Z h v l)(h0:0<l.length)(hl:l.length≤1000000000):
  ag prog gn #[v] h λr h'=>(∃x∈l,r=.int .u16 x)∧h'=h:=by
 apply qg;unfold jq;obtain⟨a,c,e⟩:=H.isSl;have U:aD v=some (af (l.length:Int)):=by rw[e];rfl
 refine bi (λxs h'=>h'=h) ?_ ?_
 ·simp only[go_sem,U];rw[cB ae,cK];trivial
 rintro xs ρj h1 hh;have hh:=hh.symm;subst hh;obtain⟨p,G,p2⟩:=H.int_at (k':=.i64) h0;have G:bu 1 v ai=some p:=G;rw[G,aj,p2,aj];refine bH (α:=Int) l.length 1 (λi x=>[.int .u16 x,af (i:Int)]) (λi x h'=>x∈l∧h'=h) l[0] rfl ae ⟨cQ _,rfl⟩ λi x h1 again ρj W hi ⟨L,I⟩ D=>?_
 have I:=I.symm;subst I;simp only[go_sem,U];refine ao (λh2=>?_) (λh2=>?_)
 ·have A:i<l.length:=ae;obtain⟨q,q1,q2⟩:=H.int_at (k':=.i64) A;simp only[go_sem,q1,q2];rw[w64 ae ae];refine D _ h A ⟨?_,rfl⟩;rcases CM x l[i]with F|F
  ·rw[Int.max_eq_right F];exact cQ _
  ·rw[Int.max_eq_left F];exact L
 ·exact⟨⟨x,L,rfl⟩,trivial⟩
theorem R9 {h:ah}{Z:Nat→Prop}{v:Value}{l:List Int}{w hh c most:Int}(H:Rp.Sl rU Z h v l)(hc:BN w hh c most=0)(hl:(l.length:Int)=w*hh*c)(hs:∀x∈l,0≤x∧x≤most):
  ag prog sC #[af w,af hh,af c,af most,v] h λr h'=>∃p,r=.tuple #[p,ai]∧sU h h' p ⟨w,hh,c,most,l⟩:=by
 apply QO;unfold FZ;refine yw.mono λr h1 ⟨p,e,L,_,s1⟩=>?_
 subst e;obtain⟨b,u,rfl,I,nb,nu,_⟩:=s1 hc;obtain⟨f1,f2,f3⟩:=yv.1 hc;have hf:=dH f1;have W:=C1 hc;obtain⟨a,ca,e⟩:=H.isSl;have e2:aD v=some (af (l.length:Int)):=by rw[e];rfl
 obtain⟨au,cu,eu⟩:=I.own.isSl;have il:((ur w hh c most).l.length:Int)=w*hh*c:=W.len;have G:aD u=some (af (l.length:Int)):=by rw[eu,hl,←il];rfl
 have q4:aG h1 ⟨b,4,none⟩=some u:=am I.row;simp only[go_sem,hc,e2,aK,q4,G];have h0:0<l.length:=by
  have a1:1≤w*hh:=by
   have:=qn (show(1:Int)≤w by omega) (show(1:Int)≤hh by omega) ae ae;omega
  have:=qn a1 (show(1:Int)≤c by omega) ae ae;omega
 refine(zc1 (H.ext L) h0 ae).mono λr h2 ⟨⟨x,hx,e⟩,D⟩=>?_
 have D:=D.symm;subst e D;have aa:=hs x hx;simp only[go_sem];rw[w64 ae ae,cB ae,cK];simp only[go_sem,aK,q4];have hn:(ur w hh c most).l.length=l.length:=ae;have A:=I.own;rw[hn]at A;obtain⟨ds,S,_,he⟩:=H.ext L;have U:ds=JZ l:=by
  have ab:ds.length=l.length*1:=S.1;apply qu
  ·simp;omega
  ·intro i F h4;have h5:=he i (by simpa using h4);have h6:Rp.el 1 ds i=[Value.int .u16 (l[i]'(by simpa using h4))]:=h5;rw[Rp.el_one F]at h6;simpa using h6
 subst U;refine Ia A S (λy hy=>by obtain⟨z,_,rfl⟩:=iG.1 hy;rfl) λF o3 f3 s3=>?_
 refine⟨_,rfl,b,u,rfl,⟨f3.row I.row I.ap,?_,I.ap⟩,nb,nu,L.then_fr f3 nu⟩;show Own 1 F u l.length (JZ l);have e5:(JZ l).take l.length++(JZ (ur w hh c most).l).drop l.length=JZ l:=by
  rw[eS (by simp),qp (by simp;omega),gR]
 rw[←e5];exact o3
def BV (w h c most:Int)(l:List Int):Pic:=
 ⟨1+w%20,1+h%20,1+2*(c%2),1+most%65535,(List.range ((1+w%20)*(1+h%20)*(1+2*(c%2))).toNat).map λi=>if 0<l.length then(l.getD (i%l.length) 0+((i/l.length:Nat):Int))%(1+most%65535+1)else 0⟩
theorem TP (w h c:Int):1≤(1+w%20)*(1+h%20)*(1+2*(c%2))∧(1+w%20)*(1+h%20)*(1+2*(c%2))≤1200:=by
 have h1:=mT (a:=1+w%20) (A:=20) (b:=1+h%20) (B:=20) ae ae ae ae;have D:=qn (show(1:Int)≤1+w%20 by omega) (show(1:Int)≤1+h%20 by omega) ae ae;generalize(1+w%20)*(1+h%20)=a at*;have:c%2=0∨c%2=1:=ae;rcases this with h|h<;>rw[h]<;>omega
theorem TQ (w h c most:Int)(l:List Int):(BV w h c most l).Wf:=by
 have D:=TP w h c;refine⟨⟨?_,?_,?_,?_,?_,?_⟩,?_,?_,?_,λx A=>?_⟩
 ·show 1≤1+w%20;omega
 ·show 1+w%20≤65536;omega
 ·show 1≤1+h%20;omega
 ·show 1+h%20≤65536;omega
 ·show 1+2*(c%2)=1∨1+2*(c%2)=3;omega
 ·show(1+w%20)*(1+h%20)*(1+2*(c%2))≤268435456;omega
 ·show 1≤1+most%65535;omega
 ·show 1+most%65535≤65535;omega
 ·show((List.map _ (List.range _)).length:Int)=(1+w%20)*(1+h%20)*(1+2*(c%2));rw[cV,fg];omega
 ·obtain⟨i,_,rfl⟩:=iG.1 A;show 0≤_∧_≤1+most%65535;split
  ·have:=ks (l.getD (i%l.length) 0+((i/l.length:Nat):Int)) (show 1+most%65535+1≠0 by omega);have:=iF (l.getD (i%l.length) 0+((i/l.length:Nat):Int)) (show 0<1+most%65535+1 by omega);omega
  ·omega
theorem Own.at_mapU {h:ah}{v:Value}{n:Nat}{g:Nat→Int}(H:Own 1 h v n ((List.range n).map λi=>Value.int .u16 (g i))){k:IntKind}{i:Nat}(hi:i<n):
  ∃p,bu 1 v (.int k (i:Int))=some p∧∀(x:Int) (K:Value→ah→Prop),
   (∀h',Own 1 h' v n ((List.range n).map λj=>Value.int .u16 (if j=i then x else g j))→Fr (blk v) h h'→K undef h')→stK 1 p (.int .u16 x) h K:=by
 obtain⟨p,h1,F,D⟩:=Own.at1 H (k:=k) hi;refine⟨p,h1,λx K A=>D _ _ rfl λh' o f _=>A h' ?_ f⟩;rw[D7 _ _ _ _ hi]at o;have e:(λj=>if j=i then Value.int .u16 x else Value.int .u16 (g j))=λj=>Value.int .u16 (if j=i then x else g j):=by
  funext j;split<;>rfl
 rw[e]at o;exact o
abbrev U16 (n:Int):Prop:=0≤n∧n≤65535
theorem ZX {h:ah}{Z:Nat→Prop}{v:Value}{l:List Int}{w hh c most:Int}(H:Rp.Sl rU Z h v l)(hw:U16 w)(bo:U16 hh)(hc:U16 c)(hm:U16 most)(a7:∀x∈l,U16 x)(hl:l.length≤4611686018427387904):
  ag prog zW #[.int .u16 w,.int .u16 hh,.int .u16 c,.int .u16 most,v] h λr h'=>sU h h' r (BV w hh c most l):=by
 apply OF;unfold DY;rw[dP _ _ _ _ ae,aj,dP _ _ _ _ ae];simp only[go_sem];rw[dP _ _ _ _ ae];simp only[go_sem];rw[jT hw.1,jT bo.1,jT hc.1];rw[w64 (n:=w%20) ae ae,w64 (n:=hh%20) ae ae,w64 (n:=c%2) ae ae,w64 (n:=2*(c%2)) ae ae,w64 (n:=1+2*(c%2)) ae ae,w64 (n:=most) ae ae,
  w64 (n:=1+w%20) ae ae,w64 (n:=1+hh%20) ae ae]
 rw[dP _ _ _ _ ae,aj,jT hm.1];simp only[go_sem];have hb:=TP w hh c;have h1:=mT (a:=1+w%20) (A:=20) (b:=1+hh%20) (B:=20) ae ae ae ae;rw[w64 (n:=1+most%65535) ae ae,w64 (n:=(1+w%20)*(1+hh%20)) ae ae,w64 (n:=(1+w%20)*(1+hh%20)*(1+2*(c%2))) ae ae];have PW:=TQ w hh c most l;obtain⟨n,hn⟩:∃n:Nat,(1+w%20)*(1+hh%20)*(1+2*(c%2))=(n:Int):=⟨((1+w%20)*(1+hh%20)*(1+2*(c%2))).toNat,ae⟩
 have ab:(BV w hh c most l).l=(List.range n).map λi=>if 0<l.length then(l.getD (i%l.length) 0+((i/l.length:Nat):Int))%(1+most%65535+1)else 0:=by unfold BV;rw[hn];rfl
 rw[hn];obtain⟨D,F⟩:∃D,1+most%65535=D:=⟨_,rfl⟩
 rw[F]at ab ⊢;have ad:1≤D∧D≤65535:=ae;refine og rfl ae ae λu h2 o2 e2 n2=>?_
 obtain⟨au,cu,eu⟩:=o2.isSl;have bg:aD u=some (af (n:Int)):=by rw[eu];rfl
 obtain⟨al,cl,el⟩:=H.isSl;have L:aD v=some (af (l.length:Int)):=by rw[el];rfl
 rw[bg,aj];have H:=H.mono (Z':=λc=>c<h.size) λc hc _=>hc
 generalize hg:(λi:Nat=>if 0<l.length then(l.getD (i%l.length) 0+((i/l.length:Nat):Int))%(D+1)else 0)=g at*;have aa:∀i,g i=if 0<l.length then(l.getD (i%l.length) 0+((i/l.length:Nat):Int))%(D+1)else 0:=λi=>by rw[←hg]
 refine bH (α:=Unit) n 0 (λi _=>[af (i:Int)]) (λi _ h'=>Ext h h'∧Own 1 h' u n ((List.range n).map λj=>Value.int .u16 (if j<i then g j else 0))) () rfl (bZ _)
  ⟨e2,by
   have e:List.replicate n (Value.int .u16 0)=(List.range n).map λj=>Value.int .u16 (if j<0 then g j else 0):=by apply qu<;>simp
   rw[←e];exact o2⟩ λi _ h3 again ρj _ hi ⟨E3,o3⟩ ar=>?_
 simp only[go_sem];have ax:∀j,(if j=i then g i else if j<i then g j else 0)=if j<i+1 then g j else 0:=λj=>by
  by_cases h1:j=i
  ·subst h1;simp
  ·rw[az h1];by_cases h2:j<i
   ·rw[aA h2,aA ae]
   ·rw[az h2,az ae]
 refine ao (λh4=>?_) (λh4=>?_)
 ·have I:i<n:=ae;rw[L,aj];simp only[go_sem];refine ao (λh5=>?_) (λh5=>?_)
  ·have an:0<l.length:=ae;refine aP (λh'=>h'=h3) rfl ?_;refine aC (af (l.length:Int)) (λh' e=>by first|exact L|rfl) ?_;rw[dP _ _ _ _ ae,aj,jT ae,show(i:Int)%(l.length:Int)=((i%l.length:Nat):Int)by omega];have W:i%l.length<l.length:=gT _ an;obtain⟨p,p1,p2⟩:=(H.ext E3).int_at (k':=.i64) W;rw[p1,aj];refine aC _ (λh' e=>by rw[e];exact p2) ?_;have hx:=a7 _ (cQ W);simp only[go_sem];refine aC (af (l.length:Int)) (λh' e=>by first|exact L|rfl) ?_;have a9:i/l.length≤i:=jy _ _;have G:=aa i;rw[mq _ _ _ _ ae,aj,wU ae,show(i:Int)/(l.length:Int)=((i/l.length:Nat):Int)by omega];generalize i/l.length=dq at a9 G ⊢;rw[w64 (n:=(dq:Int)) ae ae];simp only[go_sem];rw[w64 (n:=l[i%l.length]) ae ae,w64 (n:=l[i%l.length]+(dq:Int)) ae ae,w64 (n:=D+1) ae ae];rw[dP _ _ _ _ ae,aj,jT ae];simp only[go_sem];have m1:=ks (l[i%l.length]+(dq:Int)) (show D+1≠0 by omega);have m2:=iF (l[i%l.length]+(dq:Int)) (show 0<D+1 by omega);rw[wu16 m1 ae];have a8:(l[i%l.length]+(dq:Int))%(D+1)=g i:=by
    rw[G,aA an];simp[dQ,W]
   rw[a8];obtain⟨q,q1,q2⟩:=Own.at_mapU o3 (k:=.i64) I;rw[q1,aj];refine q2 _ _ λh6 o6 f6=>?_
   rw[w64 ae ae];refine ar () h6 I ⟨E3.then_fr f6 n2,?_⟩;simp only[ax]at o6;exact o6
  ·rw[w64 ae ae];refine ar () h3 I ⟨E3,?_⟩;have bv:g i=0:=by rw[aa,az ae]
   rw[←bM (g:=λj=>Value.int .u16 (if j<i then g j else 0)) λj _=>by
    congr 1
    rw[←ax j,bv];by_cases h1:j=i
    ·rw[aA h1,az ae]
    ·rw[az h1]]
   exact o3
 ·have be:i=n:=ae;subst be;have o4:Own 1 h3 u (BV w hh c most l).l.length (JZ (BV w hh c most l).l):=by
   rw[ab,cV,fg,JZ,CZ];rw[←bM (g:=λj=>Value.int .u16 (if j<i then g j else 0)) λj hj=>by rw[aA hj];rfl];exact o3
  have U:BN (1+w%20) (1+hh%20) (1+2*(c%2)) D=0:=yv.2 ⟨PW.fits,ad.1,ad.2⟩;have aw:=PW.len;refine(R9 (Eu o4) U aw λx hx=>by have:=PW.smp x hx;rw[show(BV w hh c most l).most=D from F]at this;exact this).mono λr h5 ⟨p,e,N⟩=>?_
  subst e;simp only[go_sem];have N2:sU h3 h5 p (BV w hh c most l):=by
   have:BV w hh c most l=⟨1+w%20,1+hh%20,1+2*(c%2),D,(BV w hh c most l).l⟩:=by rw[←F];rfl
   rw[this];exact N
  obtain⟨b,x,e1,ay,bk,bc,bd⟩:=N2;exact⟨b,x,e1,ay,bh E3.1 bk,λc hc=>bh E3.1 (bc c hc),E3.trans bd⟩
theorem CE {k:IntKind}{h:ah}{b:Nat}{t:TypeId}{l:List Int}{n:Nat}(G:l.length=n)(F:h[b]? =some (.cells (l.map λn=>Value.int k n).toArray t (0,0))):Rp.Sl (Rp.int k) (λk=>k=b) h (.slice (some ⟨b,0,none⟩) n n) l:=by
 subst G;refine⟨l.map (Value.int k),⟨by simp[Rp.int],_,_,rfl,.inr ⟨b,0,rfl,λj A=>?_⟩⟩,λ_ k D=>D,λi hi=>?_⟩
 ·rw[aK,am F];simp at A;simp[A]
 ·show Rp.el 1 _ i=[.int k l[i]];rw[Rp.el_one (by simpa using hi),eU]
theorem Yg {h:ah}(G:eB h):ag prog xP #[] h λr h'=>r=.bool true∧Ext h h':=by
 apply Mo;unfold Bf;refine(T0 G).mono λw h1 ⟨u,e,N⟩=>?_
 subst e;have U:ft 0 4 2 1=2:=by decide+kernel
 have e2:dr 0 4 2 1=[536870912,536870912]:=by decide+kernel
 rw[U];rw[e2]at N;obtain⟨a,c,eu⟩:=N.isSl;have e3:aD u=some (af 2):=by rw[eu];rfl
 obtain⟨p,D,F⟩:=N.sl.int_at (k':=.i64) (i:=0) (by simp);obtain⟨q,I,H⟩:=N.sl.int_at (k':=.i64) (i:=1) (by simp);have D:bu 1 u ai=some p:=D;have I:bu 1 u aH=some q:=I;have F:ldV h1 p=some (af 536870912):=F;have H:ldV h1 q=some (af 536870912):=H;simp only[go_sem,e3,D,F,I,H,kU,gm];refine(VC ae (by unfold I64;omega)).mono λw W ⟨e,A⟩=>?_
 have A:=A.symm;subst e A;have k1:HE 0 1=1073741824:=by decide+kernel
 have L:HE 1 2=603979776:=by decide+kernel
 rw[k1];simp only[go_sem,kU,gm];refine(VC ae (by unfold I64;omega)).mono λw W ⟨e,A⟩=>?_
 have A:=A.symm;subst e A;rw[L];simp only[go_sem,kU,gm];exact⟨by simp,N.2.1⟩
theorem Yf {h:ah}:ag prog xO #[] h λr h'=>r=.bool true∧Ext h h':=by
 apply Mn;unfold Be;refine da (c':=#[af 536870912,af 536870912,af 536870912]) rfl λb1 h1 r1 U n1=>?_
 have W:=CE (k:=.i64) (l:=[536870912,536870912,536870912]) (n:=3) rfl r1;have w1:∀x∈[(536870912:Int),536870912,536870912],I64 x:=by simp[I64]
 refine(Cc W w1 (by simp)).mono λw h2 ⟨u,e,N⟩=>?_
 subst e;have a1:cW [536870912,536870912,536870912]=0:=by decide+kernel
 have a2:cz [536870912,536870912,536870912]=[5462,5461,5461]:=by decide+kernel
 rw[a1];rw[a2]at N;simp only[go_sem];refine(Ny (by unfold I64;omega)).mono λw h3 ⟨x,e,M⟩=>?_
 subst e;have F:Fe 65536=0:=by decide+kernel
 have D:(oF 65536).length=7:=by decide+kernel
 rw[F];obtain⟨ax,cx,ex⟩:=M.isSl;have G:aD x=some (af 7):=by rw[ex,D];rfl
 simp only[go_sem,kU,gm];refine da (c':=#[af 5462,af 5461,af 5461]) rfl λb4 h4 L H n4=>?_
 have I:=CE (k:=.i64) (l:=[5462,5461,5461]) (n:=3) rfl L;refine(Ue (N.sl.ext (M.2.1.trans H)) I (by simp)).mono λw h5 ⟨e,A⟩=>?_
 have A:=A.symm;subst e A;simp only[go_sem,kU,gm,G];exact⟨by simp,U.trans (N.2.1.trans (M.2.1.trans H))⟩
theorem Po:gb 0 4 2=⟨4,[(0,[8192,8192]),(2,[8192,8192])]⟩:=by
 have e:(gb 0 4 2).lines=[(0,[8192,8192]),(2,[8192,8192])]:=by decide+kernel
 show(⟨4,(gb 0 4 2).lines⟩:Tbl)=_;rw[e]
theorem IP:(⟨4,[(0,[8192,8192]),(2,[8192,8192])]⟩:Tbl).Wf:=by
 constructor<;>simp
theorem Ye {h:ah}(G:eB h):ag prog xN #[] h λr h'=>r=.bool true∧Ext h h':=by
 apply Mm;unfold Bd;refine(Yg G).mono λw h1 ⟨e,e1⟩=>?_
 subst e;simp only[go_sem];refine Yf.mono λw h2 ⟨e,e2⟩=>?_
 subst e;simp only[go_sem];refine(Nx (G.ext (e1.trans e2)) (by unfold I64;omega) (by unfold I64;omega) (by unfold I64;omega)).mono λw h3 ⟨p,e,e3,_,s1⟩=>?_
 subst e;have a1:eI 0 4 2=0:=by decide+kernel
 have T:=s1 a1;rw[Po]at T;rw[a1];obtain⟨pb,_,_,hp,_⟩:=T;have T:=s1 a1;rw[Po]at T;have np:ak .p .eql p (.pointer none)=some (.bool false):=by rw[hp];rfl
 simp only[go_sem,kU,gm,np];refine(Cb T IP).mono λw h4 ⟨u,e,U,L⟩=>?_
 subst e;have l1:bE ⟨4,[(0,[8192,8192]),(2,[8192,8192])]⟩ 1=(2,[8192,8192]):=by rfl
 rw[l1]at U ⊢;refine dk (cs:=[af 2,u]) rfl (aq rfl (aq U.one aX)) rfl λb5 h5 r5 D n5=>?_
 refine(Sd (T.ext (L.trans D)) IP (by unfold I64;omega) (by unfold I64;omega)).mono λw h6 ⟨e,A⟩=>?_
 subst e;have l2:xk ⟨4,[(0,[8192,8192]),(2,[8192,8192])]⟩ 0 2=(0,4):=by decide+kernel
 rw[l2];simp only[go_sem];refine(Cb (T.ext (L.trans (D.trans A))) IP).mono λw h7 ⟨u2,e,U2,H⟩=>?_
 subst e;have l0:bE ⟨4,[(0,[8192,8192]),(2,[8192,8192])]⟩ 0=(0,[8192,8192]):=by rfl
 rw[l0];have pv:pS false 1 0 (.agg #[ai,u2])=some ai:=rfl;have I:=(A.trans H).row r5;simp only[go_sem,pv,kU,gm,am I];refine da (c':=#[af 8192,af 8192]) rfl λb8 h8 r8 W n8=>?_
 have S8:=CE (k:=.i64) (l:=[8192,8192]) (n:=2) rfl r8;refine(Ue (U.ext (D.trans (A.trans (H.trans W)))) S8 (by simp)).mono λw h9 ⟨e,F⟩=>?_
 have F:=F.symm;subst e F;simp only[go_sem,kU,gm];exact⟨by simp,e1.trans (e2.trans (e3.trans (L.trans (D.trans (A.trans (H.trans W))))))⟩
theorem Bu {Z:Nat→Prop}{h:ah}{k b s r f w hh:Int}:rOp.R Z h [af k,af b,af s,af r,.slice none 0 0,.slice none 0 0,af f,af w,af hh] ⟨k,b,s,r,[],[],f,w,hh⟩:=⟨_,_,rfl,Rp.Sl.nil,Rp.Sl.nil⟩
theorem Bt {k b s r f w hh:Int}(h:∀x∈[k,b,s,r,f,w,hh],I64 x):OpD.Wf ⟨k,b,s,r,[],[],f,w,hh⟩:=by
 constructor<;>first|exact h _ (by simp)|simp
theorem Nr {h:ah}(G:eB h):ag prog q8 #[] h λr h'=>r=.bool true∧Ext h h':=by
 apply Mk;unfold Bb;have hf:(aM #[ai,ai,ai,ai,(.slice none 0 0),(.slice none 0 0),ai,ai,ai] [(0,1,(af 3)),(7,1,(af 2)),(8,1,aH),(6,1,ai)])=some #[af 3,ai,ai,ai,.slice none 0 0,.slice none 0 0,ai,af 2,aH]:=rfl;rw[hf,bG,aj];have wf:OpD.Wf ⟨3,0,0,0,[],[],0,2,1⟩:=Bt (by simp[I64]);refine(Jd (Z:=λ_=>True) G Bu wf (by simp) (by simp) (by unfold I64;omega) (by unfold I64;omega)).mono λw h1 ⟨sv,e,e1,_,s1⟩=>?_
 subst e;have a1:fu ⟨3,0,0,0,[],[],0,2,1⟩ 4 3=0:=by decide+kernel
 obtain⟨p,q,rfl,tp,tq⟩:=s1 a1;rw[a1];simp only[go_sem];refine dk (cs:=[p,q,af _]) rfl (aq (mF tp) (aq (mF tq) (aq rfl aX))) rfl λb2 h2 r2 U n2=>?_
 refine(Ye (G.ext (e1.trans U))).mono λw h3 ⟨e,L⟩=>?_
 subst e;have D:=L.row r2;have F:=tp.ext (U.trans L);have H:=tq.ext (U.trans L);have W:ak .p .neq p (.pointer none)=some (.bool true):=by obtain⟨_,_,_,hp,_⟩:=tp;rw[hp];rfl
 have I:ak .p .neq q (.pointer none)=some (.bool true):=by obtain⟨_,_,_,hp,_⟩:=tq;rw[hp];rfl
 simp only[go_sem,kU,gm,am D,W,I];refine(Sg F).mono λw h4 ⟨e,A⟩=>?_
 have A:=A.symm;subst e A;have t1:(ch ⟨3,0,0,0,[],[],0,2,1⟩ 4 3).x.n=4:=rfl;have t2:((ch ⟨3,0,0,0,[],[],0,2,1⟩ 4 3).x.lines.length:Int)=2:=by decide+kernel
 have t3:(ch ⟨3,0,0,0,[],[],0,2,1⟩ 4 3).y.n=3:=rfl;have t4:((ch ⟨3,0,0,0,[],[],0,2,1⟩ 4 3).y.lines.length:Int)=1:=by decide+kernel
 rw[t1];simp only[go_sem,kU,gm,am D,W,I];refine(Dp F).mono λw h4 ⟨e,A⟩=>?_
 have A:=A.symm;subst e A;rw[t2];simp only[go_sem,kU,gm,am D,W,I];refine(Sg H).mono λw h4 ⟨e,A⟩=>?_
 have A:=A.symm;subst e A;rw[t3];simp only[go_sem,kU,gm,am D,W,I];refine(Dp H).mono λw h4 ⟨e,A⟩=>?_
 have A:=A.symm;subst e A;rw[t4];simp only[go_sem,kU,gm];exact⟨by simp,e1.trans (U.trans L)⟩
theorem Yd {h:ah}:ag prog xM #[] h λr h'=>r=.bool true∧Ext h h':=by
 apply Ml;unfold Bc;refine yw.mono λw h1 ⟨p,e,G,_,F⟩=>?_
 subst e;have a1:BN 2 1 3 255=0:=by decide+kernel
 obtain⟨b,v,rfl,I,nb,nv,_⟩:=F a1;have W:=C1 a1;rw[a1];have H:ak .p .neq (ptr b) (.pointer none)=some (.bool true):=rfl;simp only[go_sem,kU,gm,H];refine(Yl I W).mono λu h2 N=>?_
 obtain⟨au,cu,L⟩:=N.isSl;have A:aD u=some (af 6):=by rw[L];rfl
 simp only[go_sem,kU,gm,A];refine(W0 (I.ext N.2.1) W ae ae).mono λr h3 ⟨e,D,f3,s3⟩=>?_
 subst e;have a2:¬(inP (ur 2 1 3 255) 1 0 2∧(256:Int)≤(ur 2 1 3 255).most):=by decide+kernel
 rw[az a2]at D;rw[cB a2];simp only[go_sem];refine(W0 D W ae ae).mono λr h4 ⟨e,I4,f4,U⟩=>?_
 subst e;have a3:inP (ur 2 1 3 255) 1 0 2∧(255:Int)≤(ur 2 1 3 255).most:=by decide+kernel
 rw[cP a3];simp only[go_sem];exact⟨by simp,((G.trans N.2.1).then_fr f3 nv).then_fr f4 nv⟩
def atZ (p j n:Int):Int:=if n<1∨65536<n then 0 else if p=0 then max 0 (min j (n-1))else if p=1 then min (j%(2*n)) (2*n-1-j%(2*n))else if p=2 then j%n else 0
theorem zc8 {p j n:Int}(h1:1≤n)(A:n≤65536):0≤atZ p j n∧atZ p j n<n:=by
 unfold atZ;rw[az ae];have a1:=ks j (show 2*n≠0 by omega);have a2:=iF j (show 0<2*n by omega);have a3:=ks j (show n≠0 by omega);have a4:=iF j (show 0<n by omega);split
 ·omega
 ·split
  ·omega
  ·split<;>omega
theorem vI {h:ah}{p j n:Int}(F:I64 j):ag prog lB #[.int .i64 p,.int .i64 j,.int .i64 n] h λr h'=>r=.int .i64 (atZ p j n)∧h'=h:=by
 apply QZ;unfold Gi atZ;simp only[go_sem];refine ao (λh0=>?_) (λh0=>?_)
 ·rw[if_pos h0];exact⟨rfl,trivial⟩
 rw[if_neg h0];have a1:=Int.emod_nonneg j (show 2*n≠0 by omega);have a2:=Int.emod_lt_of_pos j (show 0<2*n by omega);refine ao (λh1=>?_) (λh1=>?_)
 ·rw[if_pos h1,w64 (by omega) (by omega)];exact W9
 rw[if_neg h1];refine ao (λA=>?_) (λA=>?_)
 ·rw[if_pos A,w64 (n:=2*n) (by omega) (by omega)];refine(zac F (by unfold I64;omega) (by omega)).mono λv h' ⟨e,w⟩=>?_
  subst e;simp only[go_sem];rw[w64 (n:=2*n-1) (by omega) (by omega),w64 (by omega) (by omega)];exact⟨rfl,w⟩
 rw[if_neg A];refine ao (λD=>?_) (λD=>?_)
 ·rw[if_pos D];exact zac F (by unfold I64;omega) (by omega)
 ·rw[if_neg D];exact⟨rfl,trivial⟩
end Go.Proofs.YtjljhnandbbldaaGreatDoor
namespace Go.Crisp
open Go
def yL (f:Nat→Int):Nat→Int
 |0=>0
 |n+1=>yL f n+f n
theorem OX (A a v:Int):IntKind.i64.wrap (IntKind.i64.wrap A+IntKind.i64.wrap (a*v))=IntKind.i64.wrap (A+a*v):=by rw[uJ,pX]
theorem Uu (A a b v:Int):IntKind.i64.wrap (IntKind.i64.wrap A+IntKind.i64.wrap (IntKind.i64.wrap (a*b)*v))=IntKind.i64.wrap (A+b*(a*v)):=by
 rw[yG,uJ,pX]
 congr 1
 rw[fQ a b,oB]
def yQ (s most:Int):Int:=max 0 (min (nM s 28) (max 0 (min most 65535)))
theorem Pf (s:Int){most:Int}(h:0≤most):0≤yQ s most∧yQ s most≤65535∧yQ s most≤most:=by unfold yQ;omega
end Go.Crisp
