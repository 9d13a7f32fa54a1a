/- Several texts of this session, one behind the other, without what this claim does not need (put together by its program pack.py). Conditions: none. -/
import Derived.Test.YtjljhnandbbldaaGreatDoorMu1
set_option linter.unusedVariables false
set_option linter.unusedSimpArgs false
set_option maxRecDepth 100000
namespace Go.Proofs.YtjljhnandbbldaaGreatDoor
open Go Go.Crisp
attribute [local irreducible] ag di aW stK aF vK qK bK gK fo bA mkK dk Fm GM CJ bsK
open _root_.Go.Proofs.Tryz
theorem VS {a:Int}{n:Nat}(k':IntKind)(A:n≤64):aj .i .shl (af a) (.int k' (n:Int))=some (af (IntKind.i64.wrap (a*2^n))):=by
 show(if(n:Int)<0 then none else some (af (IntKind.i64.wrap (a*(2^(min (n:Int).toNat 64))))))=_;rw[az ae,eo,ug A]
theorem YF {a:Int}(k':IntKind):aj .i .shl (af a) (.int k' 40)=some (af (IntKind.i64.wrap (a*1099511627776))):=VS (n:=40) k' ae
theorem zcj {a:Int}(k':IntKind):aj .i .shl (af a) (.int k' 31)=some (af (IntKind.i64.wrap (a*2147483648))):=VS (n:=31) k' ae
theorem zad {h:ah}{a b:Int}(U:I64 a)(H:I64 b)(h0:0<b):ag prog sC #[af a,af b] h λr h'=>r=af (a%b)∧h'=h:=by
 apply Q8;unfold Gh;have L:(b=0)=False:=fN ae;have I:(b= -1)=False:=fN ae;have G:(b<0)=False:=fN ae;simp only[go_sem,L,I];rw[dP _ _ _ _ ae,ak];simp only[go_sem,G];have e:= @Int.emod_eq_tmod a b;have W:=kz a (show b≠0 by omega);have D:=iB a h0;unfold I64 at U H;by_cases hc:a.tmod b=0
 ·simp only[go_sem,hc];refine⟨?_,trivial⟩;rw[hc]at e;split at e
  ·rw[e];rfl
  ·rename_i F;exact absurd (Or.inr (Int.dvd_of_tmod_eq_zero hc)) F
 ·simp only[go_sem,hc];by_cases A:a.tmod b<0
  ·simp only[go_sem,A];split at e
   ·omega
   ·rw[w64 ae ae];refine⟨?_,trivial⟩
    congr 1;omega
  ·simp only[go_sem,A];refine⟨?_,trivial⟩
   congr 1
   split at e<;>omega
theorem Xa {h:ah}{x l u:Int}:ag prog q9 #[af x,af l,af u] h λr h'=>r=af (max l (min x u))∧h'=h:=by
 apply Mt;unfold Bn;simp only[go_sem];exact⟨by simp,by simp⟩
theorem Nz {h:ah}{a b:Int}(D:I64 a)(A:I64 b):ag prog xj #[af a,af b] h λr h'=>r=af (Dw a b)∧h'=h:=by
 apply Q9;unfold Gi;simp only[go_sem,iU];unfold Dw I64 at*;refine ao (λh0=>?_) (λh0=>?_)
 ·exact⟨by congr 1;omega,trivial⟩
 refine ao (λh1=>?_) (λh1=>?_)
 ·exact⟨by congr 1;omega,trivial⟩
 ·exact⟨by congr 1;omega,trivial⟩
theorem Vy {h:ah}{a b:Int}(D:I64 a)(A:I64 b):ag prog Cy #[af a,af b] h λr h'=>r=af (zaW a b)∧h'=h:=by
 apply Q0;unfold Gg;refine(nB D).mono λv1 h1 ⟨I,w1⟩=>?_
 subst I w1;refine(nB A).mono λW U ⟨L,H⟩=>?_
 subst L H;refine(Sg (js D) (js A)).mono λv3 h3 ⟨F,G⟩=>?_
 subst F G;simp only[go_sem];unfold zaW;have hm:=Qw D A;generalize a.natAbs*b.natAbs=m at*;refine ao (λh0=>?_) (λh0=>?_)
 ·refine(sf (m:=18446744073709551615) (b:=kJ a b) ae).mono λv h' ⟨e,w⟩=>⟨?_,w⟩
  rw[e,PF (n:=m) ae ae]
 ·rw[show m%18446744073709551616=m by omega];exact sf ae
theorem c_Exp {h:ah}{t:Int}(U:I64 t):ag prog FB #[af t] h λr h'=>r=af (XU t)∧h'=h:=by
 apply Tk;unfold Jy;simp only[go_sem];unfold XU;have A:0≤max 0 t∧max 0 t≤9223372036854775807:=by unfold I64 at U;omega
 generalize max 0 t=T at*;rw[mo _ _ _ _ ae,ak,dP _ _ _ _ ae,ak,wV A.1,jV A.1,w64 ae ae];have W:0≤T%762123384786∧T%762123384786<762123384786:=ae;generalize G:T%762123384786=r at*;refine lF (λi=>[af (fH r i).1,af (fH r i).2,af (i:Int)]) 16 0 rfl ae λi again ρj _ hi H=>?_
 simp only[go_sem];obtain⟨F,I⟩:=BZ r i;refine ao (λh0=>?_) (λh0=>?_)
 ·have H:=H ae;simp only[fH]at H;rw[w64 (n:=(i:Int)+1) ae ae,YF,ak,w64 ae ae];refine(oH I (by unfold I64;omega) (by unfold I64;omega)).mono λv1 h1 ⟨L,w1⟩=>?_
  subst L w1;rw[dP _ _ _ _ ae,ak,jV ae];simp only[go_sem];refine ao (λD=>?_) (λD=>?_)
  ·rw[aA ae]at H;rw[show((i+1:Nat):Int)=(i:Int)+1 by omega]at H;exact H
  ·rw[az ae]at H;rw[show((i+1:Nat):Int)=(i:Int)+1 by omega]at H;exact H
 ·have:i=16:=ae;subst this;exact K8 F (by unfold I64;omega)
theorem zbJ {h:ah}{d s:Int}(hd:I64 d)(D:I64 s):ag prog zZ #[af d,af s] h λr h'=>r=af (Ez d s)∧h'=h:=by
 apply ON;unfold D7;simp only[go_sem];unfold Ez;refine ao (λh0=>?_) (λh0=>?_)
 ·rw[aA ae];exact⟨rfl,trivial⟩
 ·rw[az ae,zcj,ak];have h1:=Pd (d:=d) (B:=16384) ae ae;have A:=Pd (d:=s) (B:=4194304) ae ae;rw[w64 (n:=d*d) ae ae,w64 (n:=d*d*2147483648) ae ae,w64 (n:=s*s) ae ae];exact oH (by unfold I64;omega) (by unfold I64;omega) (by unfold I64;omega)
theorem zbO {h:ah}{d s:Int}(hd:I64 d)(F:I64 s):ag prog z7 #[af d,af s] h λr h'=>r=af (BW d s)∧h'=h:=by
 apply OP;unfold D8;refine(zbJ hd F).mono λD h1 ⟨A,w1⟩=>?_
 subst A w1;refine(c_Exp (LO _ _)).mono λD h1 ⟨A,w1⟩=>?_
 subst A w1;exact K8 (Na _) (by unfold I64;omega)
theorem Fs {h:ah}{p:Int}(A:I64 p)(h0:p≠ -9223372036854775808):ag prog xe #[af p] h λr h'=>r=af (max p (-p))∧h'=h:=by
 apply QG;unfold FO;unfold I64 at A;simp only[go_sem];rw[w64 ae ae];exact⟨by rw[RD],trivial⟩
theorem c_May {h:ah}{p q:Int}(A:I64 p)(hq:I64 q):ag prog Fy #[af p,af q] h λr h'=>r=.bool (decide (Kv p q))∧h'=h:=by
 apply Tb;unfold Jp;simp only[go_sem];refine⟨?_,trivial⟩
 congr 1
 rw[gL];unfold Kv I64 at*;by_cases h1:1≤q∧q≤1048576
 ·rw[w64 (n:= -4*q) ae ae,w64 (n:=4*q) ae ae];omega
 ·omega
theorem Ss (x:Int):2*x*(2*x+1)=4*(x*x)+2*x:=by
 have e:2*x*(2*x)=4*(x*x):=by rw[mU 2 x (2*x),CQ x 2 x];omega
 rw[GZ,Int.mul_one,e]
theorem TY {h:ah}{p q:Int}(I:I64 p)(h0:p≠ -9223372036854775808)(hq:I64 q):ag prog qT #[af p,af q] h λr h'=>r=af (yR p q)∧h'=h:=by
 apply LX;unfold AP;unfold yR;refine(Fs I h0).mono λF h1 ⟨A,w1⟩=>?_
 subst A w1;have G:I64 (max p (-p)):=by unfold I64 at*;omega
 refine(oH (by unfold I64;omega) G hq).mono λF h1 ⟨A,w1⟩=>?_
 subst A w1;refine(oH (gm _ _ _) G hq).mono λF h1 ⟨A,w1⟩=>?_
 subst A w1;have hu:=gm (cS 10851744800547 (max p (-p)) q) (max p (-p)) q;generalize cS (cS 10851744800547 (max p (-p)) q) (max p (-p)) q=u at*;refine lF (λi=>[af (cA u i).1,af (cA u i).2,af (if i%2=0 then 1 else-1),af ((i:Int)+1)]) 30 0 rfl ae λi again ρj _ hi H=>?_
 simp only[go_sem];obtain⟨W,U⟩:=yQ u i;refine ao (λh0=>?_) (λh0=>?_)
 ·have H:=H ae;simp only[cA]at H;have L:=Pd (d:=(i:Int)+1) (B:=30) ae ae;have he:=Ss ((i:Int)+1);rw[w64 (n:=2*((i:Int)+1)) ae ae,w64 (n:=2*((i:Int)+1)+1) ae ae,w64 (n:=2*((i:Int)+1)*(2*((i:Int)+1)+1)) ae ae,YF,ak,w64 ae ae];refine(oH U hu (by unfold I64;omega)).mono λF h1 ⟨A,w1⟩=>?_
  subst A w1;rw[w64 (n:=(i:Int)+1+1) ae ae];have ht:=gm (cA u i).2 u (2*((i:Int)+1)*(2*((i:Int)+1)+1)*1099511627776);simp only[go_sem];by_cases D:i%2=0
  ·rw[aA D,az ae]at H;rw[aA D];have A:IntKind.i64.wrap ((cA u i).1+IntKind.i64.wrap (IntKind.i64.wrap (0-1)*cS (cA u i).2 u (2*((i:Int)+1)*(2*((i:Int)+1)+1)*1099511627776)))=IntKind.i64.wrap ((cA u i).1-cS (cA u i).2 u (2*((i:Int)+1)*(2*((i:Int)+1)+1)*1099511627776)):=by
    rw[p8,w64 (n:=0-1) ae ae];congr 1;omega
   rw[A];exact H
  ·rw[az D,aA ae]at H;rw[az D];have A:IntKind.i64.wrap ((cA u i).1+IntKind.i64.wrap (IntKind.i64.wrap (0- -1)*cS (cA u i).2 u (2*((i:Int)+1)*(2*((i:Int)+1)+1)*1099511627776)))=IntKind.i64.wrap ((cA u i).1+cS (cA u i).2 u (2*((i:Int)+1)*(2*((i:Int)+1)+1)*1099511627776)):=by
    rw[p8,w64 (n:=0- -1) ae ae];congr 1;omega
   rw[A];exact H
 ·have:i=30:=ae;subst this;exact⟨rfl,trivial⟩
theorem Yk {h:ah}{p q:Int}(G:I64 p)(hq:I64 q):ag prog vP #[af p,af q] h λr h'=>r=af (vD p q)∧h'=h:=by
 apply Kg;unfold Ai;unfold vD;refine(c_May G hq).mono λF h1 ⟨A,w1⟩=>?_
 subst A w1;by_cases D:Kv p q
 ·have H:=D;unfold Kv at H;by_cases h0:3*q≤max p (-p)
  ·rw[aA (.inr h0)];simp only[go_sem,D];refine(Fs G ae).mono λF h1 ⟨A,w1⟩=>?_
   subst A w1;rw[w64 (n:=3*q) ae ae];simp only[go_sem,h0];exact⟨by simp,by simp⟩
  ·rw[az (by rintro(I|I);exact I D;omega)];simp only[go_sem,D];refine(Fs G ae).mono λF h1 ⟨A,w1⟩=>?_
   subst A w1;rw[w64 (n:=3*q) ae ae];simp only[go_sem,h0];refine(TY G ae hq).mono λF h1 ⟨A,w1⟩=>?_
   subst A w1;refine(TY G ae (by unfold I64;omega)).mono λF h1 ⟨A,w1⟩=>?_
   subst A w1;refine(VA (wN _ _) (wN _ _) (by unfold I64;omega)).mono λF h1 ⟨A,w1⟩=>?_
   subst A w1;exact K8 (xv _ _ _) (by unfold I64;omega)
 ·rw[aA (.inl D)];simp only[go_sem,D];exact⟨by simp,by simp⟩
end Go.Proofs.YtjljhnandbbldaaGreatDoor
namespace Go.Crisp
open Go
theorem yJ (a b:Int):IntKind.i64.wrap (IntKind.i64.wrap a*b)=IntKind.i64.wrap (a*b):=by
 obtain⟨k,A⟩:∃k,IntKind.i64.wrap a=a+18446744073709551616*k:=⟨(IntKind.i64.wrap a-a)/18446744073709551616,by rw[iU];omega⟩
 rw[A,jw,mU,iU,iU];generalize k*b=c;omega
theorem Er (a b:Int):IntKind.i64.wrap (a*IntKind.i64.wrap b)=IntKind.i64.wrap (a*b):=by
 rw[fU,yJ,fU]
theorem qB {a b:Int}(U:I64 a)(hb:0<b):IV a b=a/b:=by
 unfold IV Fk kJ jN;rw[az ae];unfold I64 at U;have W:(b<0)=False:=fN ae;simp only[W,KO];obtain⟨B,rfl⟩:∃B:Nat,b=(B:Int):=⟨b.toNat,ae⟩
 simp only[Int.natAbs_natCast];by_cases h:a<0
 ·simp only[h,gn];obtain⟨A,rfl⟩:∃A:Nat,a= -(A:Int):=⟨(-a).toNat,ae⟩
  have e2:(-(A:Int)).natAbs=A:=ae;rw[e2];have L:0<B:=ae;have hd:=mV A B;have hm:=gN A L;have D:A/B≤A:=jy _ _;simp only[K2,beq_eq_false_iff_ne,ne_eq,Bool.true_eq_false,not_false_eq_true,CX,cJ];by_cases I:A%B=0
  ·rw[az (show¬ ¬A%B=0 from λh=>h I),iA];have F: -(A:Int)=(B:Int)* -((A/B:Nat):Int):=by
    have:(A:Int)=(B:Int)*((A/B:Nat):Int):=by exact_mod_cast (by omega:A=B*(A/B))
    rw[zh,←this]
   rw[F,Int.mul_ediv_cancel_left _ ae];split<;>omega
  ·rw[aA I];have G:2≤B:=ae;have h2:=iz (A/B) G;have F: -(A:Int)=((B:Int)-((A%B:Nat):Int))+(B:Int)* -((A/B+1:Nat):Int):=by
    have h3:(A:Int)=(B:Int)*((A/B:Nat):Int)+((A%B:Nat):Int):=by exact_mod_cast hd.symm
    rw[zh,show((A/B+1:Nat):Int)=((A/B:Nat):Int)+1 from rfl,GZ,Int.mul_one];omega
   rw[F,ud _ _ ae,qR ae ae];split<;>omega
 ·simp only[h,KO];obtain⟨A,rfl⟩:∃A:Nat,a=(A:Int):=⟨a.toNat,ae⟩
  simp only[Int.natAbs_natCast];have H:(!(false==false))=false:=rfl;rw[H];simp only[gB,false_and,cE,iA];have D:A/B≤A:=jy _ _;rw[az ae];rfl
def vw (f n m i:Int):Prop:=0≤f∧f<3∧1≤n∧n≤65536∧1≤m∧m≤65536∧0≤i∧i<m
instance (f n m i:Int):Decidable (vw f n m i):=by unfold vw;infer_instance
def Ni (a b:Int):Int:= -(-a/b)
def cU (f:Int):Int:=if f=0 then 0 else if f=1 then 2 else 3
def qn (f n m i:Int):Int:=if f=0 then i*n/m else((2*i+1)*n-m-cU f*2*max n m)/(2*m)+1
def ns (f n m i:Int):Int:=if f=0 then Ni ((i+1)*n) m else Ni ((2*i+1)*n-m+cU f*2*max n m) (2*m)
def Vk (p q:Int):Int:=if p≥q then 4*(q*q*q)+5*(p*p*q)-p*p*p-8*(p*q*q)else 3*(p*p*p)-5*(p*p*q)+2*(q*q*q)
def HC (p q:Int):Int:=if q<1∨262144<q∨2*q≤p∨p≤ -2*q then 0 else cS (IntKind.i64.wrap (Vk (max p (-p)) q)) 1073741824 (IntKind.i64.wrap (2*(q*q*q)))
theorem XP (p q:Int):I64 (HC p q):=by
 unfold HC;split
 ·unfold I64;omega
 ·exact gm _ _ _
def yN (f n m i j:Int):Int:=
 if f=0 then cS (min ((i+1)*n) ((j+1)*m)-max (i*n) (j*m)) 1073741824 n
 else if f=1 then HC (2*m*j-(2*i+1)*n+m) (2*max n m)
 else vD (2*m*j-(2*i+1)*n+m) (2*max n m)
theorem Ut (f n m i j:Int):I64 (yN f n m i j):=by
 unfold yN;split
 ·exact gm _ _ _
 split
 ·exact XP _ _
 ·exact RZ _ _
def Dh (f n m i:Int):List Int:=(List.range (ns f n m i-qn f n m i).toNat).map λk:Nat=>yN f n m i (qn f n m i+k)
theorem mS {a A b B:Int}(h0:0≤a)(h1:a≤A)(D:0≤b)(F:b≤B):0≤a*b∧a*b≤A*B:=
 ⟨ku h0 D,ks h1 F D ae⟩
theorem KB {a A b B:Int}(h0: -A≤a)(h1:a≤A)(F:0≤b)(D:b≤B): -(A*B)≤a*b∧a*b≤A*B:=by
 have G:0≤A:=ae;rcases CR 0 a with h|h
 ·have:=mS h h1 F D;have H:0≤A*B:=ku G ae;omega
 ·have:=mS (a:= -a) (A:=A) ae ae F D;rw[RC]at this;have H:0≤A*B:=ku G ae;omega
theorem rZ {a b L U:Int}(A:1≤b)(h1: -L≤a)(F:a≤U)(hL:0≤L)(D:0≤U): -L≤a/b∧a/b≤U:=by
 constructor
 ·rw[uf ae];have: -L*b≤ -L*1:=RJ ae A;omega
 ·apply G9;rw[wY ae];have:(U+1)*1≤(U+1)*b:=sI A ae;omega
structure MayB (f n m i:Int):Prop where
 inb:0≤i*n∧i*n≤4294967296
 in1:(i+1)*n=i*n+n
 tin:(2*i+1)*n=2*(i*n)+n
 rr:cU f*2*max n m=2*(cU f*max n m)
 rb:0≤cU f*max n m∧cU f*max n m≤196608
theorem UY {f n m i:Int}(h:vw f n m i):MayB f n m i:=by
 obtain⟨f0,f1,L,F,G,m1,H,I⟩:=h;have:=mS (a:=i) (A:=65536) (b:=n) (B:=65536) ae ae ae ae;have D:0≤cU f∧cU f≤3:=by unfold cU;split;omega;split<;>omega
 have:=mS (a:=cU f) (A:=3) (b:=max n m) (B:=65536) D.1 D.2 ae ae;exact⟨ae,by rw[jw,kr],by rw[jw,kr,mU],by rw[Int.mul_right_comm,fU],ae⟩
theorem MI {f n m i:Int}(h:vw f n m i): -1048576*65536≤qn f n m i∧qn f n m i≤1048576*65536∧ -1048576*65536≤ns f n m i∧ns f n m i≤1048576*65536:=by
 have F:=UY h;obtain⟨b1,b2,D,G,I⟩:=F;obtain⟨f0,f1,n0,H,W,m1,i0,i1⟩:=h;unfold qn ns Ni;split
 ·have h1:=rZ (a:=i*n) (b:=m) (L:=0) (U:=4294967296) ae ae ae ae ae;have A:=rZ (a:= -((i+1)*n)) (b:=m) (L:=4295032832) (U:=0) ae ae ae ae ae;omega
 ·rw[D,G];have h1:=rZ (a:=2*(i*n)+n-m-2*(cU f*max n m)) (b:=2*m) (L:=8591000000) (U:=8591000000) ae ae ae ae ae;have A:=rZ (a:= -(2*(i*n)+n-m+2*(cU f*max n m))) (b:=2*m) (L:=8591000000) (U:=8591000000) ae ae ae ae ae;omega
def New {α:Type}(e:Rp α)(h h':ah)(v:Value)(l:List α):Prop:=Rp.Ow e (λ_=>False) h' v l∧Ext h h'∧∀b,blk v b→h.size≤b
theorem New.nil {α:Type}{e:Rp α}{h h':ah}(k:Ext h h'):New e h h' (.slice none 0 0) []:=⟨Rp.Ow.nil,k,λb A=>A.elim⟩
theorem New.ext {α:Type}{e:Rp α}{h h' A:ah}{v:Value}{l:List α}(H:New e h h' v l)(k:Ext h' A):New e h A v l:=⟨H.1.ext k,H.2.1.trans k,H.2.2⟩
theorem New.before {α:Type}{e:Rp α}{h0 h h':ah}{v:Value}{l:List α}(H:New e h h' v l)(k:Ext h0 h):New e h0 h' v l:=⟨H.1,k.trans H.2.1,λb A=>aZ k.1 (H.2.2 b A)⟩
theorem New.sl {α:Type}{e:Rp α}{h h':ah}{v:Value}{l:List α}(H:New e h h' v l):Rp.Sl e (blk v) h' v l:=H.1.sl.mono λb _ A=>A.elim False.elim id
theorem New.isSl {α:Type}{e:Rp α}{h h':ah}{v:Value}{l:List α}(H:New e h h' v l):∃a cap,v=.slice a l.length cap:=H.1.isSl
theorem New.push {α:Type}{e:Rp α}{z F c:Value}{t t':TypeId}{bytes:Nat}{h h1:ah}{v:Value}{l:List α}{x:α}{K:Value→ah→Prop}(hw:e.w=1)(H:New e h h1 v l)
  (U:e.R (λ_=>False) h1 [c] x) (hz:z.cells.size=1) (A:(l.length+1)*bytes≤140737488355328) (I:l.length+1≤9223372036854775807)
  (W:∀D h',New e h h' D (l++[x])→K D h'):di #[F] t 1 [(0,1,c)] h1 λG L=>dk z t' 1 bytes v G L K:=by
 refine Rp.push_ow1 hw H.1 U hz A I (λb A=>A.elim) λD h' o' f' n'=>W D h' ⟨o',H.2.1.then_fr f' H.2.2,λb A=>?_⟩
 rcases n' b A with h1|h1
 ·exact H.2.2 b h1
 ·exact aZ H.2.1.1 h1
theorem New.push_int {k:IntKind}{z F:Value}{t W:TypeId}{bytes:Nat}{h h1:ah}{v:Value}{l:List Int}{x:Int}{K:Value→ah→Prop}(H:New (Rp.int k) h h1 v l)
  (hz:z.cells.size=1) (D:(l.length+1)*bytes≤140737488355328) (I:l.length+1≤9223372036854775807)
  (U:∀A h',New (Rp.int k) h h' A (l++[x])→K A h'):di #[F] t 1 [(0,1,.int k x)] h1 λG L=>dk z W 1 bytes v G L K:=
 H.push rfl rfl hz D I U
theorem Rp.Sl.int_at {k:IntKind}{Z:Nat→Prop}{h:ah}{v:Value}{l:List Int}(H:Rp.Sl (Rp.int k) Z h v l){k':IntKind}{i:Nat}(hi:i<l.length):∃p,bh 1 v (.int k' (i:Int))=some p∧ldV h p=some (.int k l[i]):=by
 obtain⟨p,c,h1,D,A⟩:=H.at1 rfl (k:=k') hi;have A:[c]=[Value.int k l[i]]:=A;cases A;exact⟨p,h1,D⟩
theorem Dd (k:IntKind)(i d most:Nat)(h:i≤most):bdV (some (.int k (i:Int))) d most=some i:=by
 show(if 0≤(i:Int)∧(i:Int)≤(most:Int)then some (i:Int).toNat else none)=_;rw[aA ae,eo]
theorem SlC.part {w:Nat}{h:ah}{v:Value}{n:Nat}{cs:List Value}(H:SlC w h v n cs){lo hi:Nat}(h1:lo≤hi)(G:hi≤n){a:Option Addr}{cap:Nat}(L:v=.slice a n cap)(hc:n≤cap):
  SlC w h (.slice (if cap=lo then a else a.map (·.add (lo*w))) (hi-lo) (cap-lo)) (hi-lo) ((cs.drop (lo*w)).take ((hi-lo)*w)):=by
 subst L;obtain⟨hl,a',F,e,H⟩:=H;cases e;have W:lo*w+(hi-lo)*w=hi*w:=by rw[←em];congr 1;omega
 have I:hi*w≤n*w:=iz w G;refine⟨by rw[db,iX];omega,_,_,rfl,?_⟩;by_cases A:(cs.drop (lo*w)).take ((hi-lo)*w)=[]
 ·exact .inl A
 ·refine .inr ?_;rcases H with rfl|⟨b,o,rfl,H⟩
  ·exact absurd (by simp) A
  ·have D:cap≠lo:=by
    intro e;have h0:(hi-lo)*w=0:=by rw[show hi-lo=0 by omega,zk]
    exact A (by rw[h0];rfl)
   rw[az D];refine⟨b,o+lo*w,by rw[cI,mF],λj U=>?_⟩;rw[db,iX]at U;have:=H (lo*w+j) ae;rw[←ui]at this;rw[this,um,xa]
theorem Pe {h:ah}{v:Value}{n:Nat}{cs:List Value}(w:Nat)(H:Own w h v n cs){k:IntKind}{hi:Nat}(F:hi≤n):∃D,xm w v none (some (.int k (hi:Int)))=some D∧SlC w h D hi (cs.take (hi*w))∧∀b,blk D b→blk v b:=by
 have hc:∃a cap,v=.slice a n cap∧n≤cap:=by
  rcases H with⟨rfl,rfl,_⟩|⟨b,cap,r,e,rfl,hc,_⟩
  ·exact⟨none,0,rfl,cq _⟩
  ·exact⟨_,cap,rfl,hc⟩
 obtain⟨a,cap,e,hc⟩:=hc;have:=H.sl.part (b9 hi) F e hc;subst e;refine⟨_,?_,by simpa using this,λb A=>?_⟩
 ·simp only[xm,Dd k hi n cap (show hi≤cap by omega)];simp only[bdV,zk,zg]
 ·cases a with
  |none=>simp at A;exact A
  | some a=>
   split at A
   ·exact A
   ·simp only[cI]at A;have e:(a.add 0).block=a.block:=by unfold Addr.add;split<;>rfl
    rw[show b=(a.add 0).block from A,e];rfl
theorem ZE {h:ah}{v s:Value}{n m k:Nat}{cs ds:List Value}(H:Own 1 h v n cs)(hm:m<n)(U:SlC 1 h s k ds)(ho:∀x∈ds,aR x=true){kk:IntKind}:
  ∃d,xm 1 v (some (.int kk (m:Int))) none=some d∧∀K:Value→ah→Prop,(∀h',Own 1 h' v n (cs.take m++ds.take (n-m)++cs.drop (m+k))→Fr (blk v) h h'→K (af (Nat.min k (n-m):Nat)) h')→Fm 1 d s h K:=by
 have I:=U.load_some (k:=Nat.min k (n-m)) (Nat.min_le_left ..);obtain⟨ab,a',W,rfl,ad⟩:=U;rcases H with⟨rfl,rfl,rfl⟩|⟨b,cap,r,e,rfl,hc,hl,hr,L⟩
 ·omega
 ·refine⟨.slice (some ⟨b,m,none⟩) (n-m) (cap-m),?_,λK HK=>?_⟩
  ·simp only[xm,Dd kk m 0 cap (show m≤cap by omega)];have A:¬cap=m:=ae;have e0:bdV (some (Value.int kk (m:Int))) 0 n=some m:=Dd kk m 0 n ae;simp only[bdV,e0,az A,cI,mF,aK,lT];rw[aA ae];simp;exact λhh=>absurd hh A
  ·unfold Fm;simp only[OX];rw[I];have D:ds.take (Nat.min k (n-m)*1)=ds.take (n-m):=by
    rw[lT];rcases KT k (n-m)with h1|h1
    ·rw[show Nat.min k (n-m)=k from ug h1,eS ae,eS ae]
    ·rw[show Nat.min k (n-m)=n-m from Nat.min_eq_right h1]
   rw[D];have aa:(ds.take (n-m)).length≤n-m:=by rw[db];omega
   have G:=mO (o:=m) (ds.take (n-m)) 0 h _ L (by simp;omega) (λv hv=>ho v (CT hv));simp only[G];have F:cs++r=cs.take m++(cs.drop m++r):=by rw[←cg,lS]
   have lt:(cs.take m).length=m:=by rw[db];omega
   have hw:=FD (ds.take (n-m)) (cs.take m) (cs.drop m++r) (by rw[cz,iX];omega);rw[←F,lt]at hw;rw[iA,hw];refine HK _ (.inr ⟨b,cap,r,e,rfl,hc,?_,?_,?_⟩) Upd.set.fr
   ·simp only[cz,db,iX];omega
   ·simp only[cz,db,iX]at hr ⊢;omega
   ·rw[mB L]
    congr 3
    rw[cg,cg,cg]
    congr 2
    rw[db,RL];rcases KT k (n-m)with h1|h1
    ·rw[Hm,show min (n-m) ds.length=k by omega,iX,show k-(cs.length-m)=0 by omega,KS]
    ·rw[Hm,show min (n-m) ds.length=n-m by omega,iX,show n-m-(cs.length-m)=0 by omega,KS,qs (show cs.length≤m+(n-m)by omega),qs (show cs.length≤m+k by omega)]
theorem Rp.Sl.part {α:Type}{e:Rp α}{Z:Nat→Prop}{h:ah}{v:Value}{l:List α}(H:Rp.Sl e Z h v l){lo hi:Nat}(h1:lo≤hi)(h2:hi≤l.length){a:Option Addr}{n cap:Nat}(hv:v=.slice a n cap)(hc:n≤cap){k k':IntKind}:
  ∃W,xm e.w v (some (.int k (lo:Int))) (some (.int k' (hi:Int)))=some W∧Rp.Sl e Z h W ((l.drop lo).take (hi-lo)):=by
 obtain⟨ds,hs,hz,he⟩:=H;obtain⟨a',aa,L⟩:=hs.isSl;rw[L]at hv;cases hv;have hP:=hs.part h1 h2 L hc;subst L;have A:((l.drop lo).take (hi-lo)).length=hi-lo:=by rw[db,iX];omega
 refine⟨_,?_,(ds.drop (lo*e.w)).take ((hi-lo)*e.w),by rw[A];exact hP,λU b F=>?_,λi D=>?_⟩
 ·simp only[xm,Dd k' hi _ cap (show hi≤cap by omega),Dd k lo 0 hi h1]
 ·have I:ds≠[]:=λh0=>U (by rw[h0];simp)
  refine hz I b ?_;cases a with
  |none=>simp only[KX,ite_self]at F;exact F
  | some a=>
   split at F
   ·exact F
   ·simp only[cI]at F;have ea:(a.add (lo*e.w)).block=a.block:=by unfold Addr.add;split<;>rfl
    rw[show b=(a.add (lo*e.w)).block from F,ea];rfl
 ·have G:lo+i<l.length:=by rw[A]at D;omega
  have:=he (lo+i) G;rw[um,xa];have e2:Rp.el e.w ((ds.drop (lo*e.w)).take ((hi-lo)*e.w)) i=Rp.el e.w ds (lo+i):=by
   show(((ds.drop (lo*e.w)).take ((hi-lo)*e.w)).drop (i*e.w)).take e.w=(ds.drop ((lo+i)*e.w)).take e.w;have hm:i*e.w+e.w≤(hi-lo)*e.w:=by rw[←CU];exact iz _ (by rw[A]at D;exact D)
   rw[List.drop_take,Hm,List.take_take,ug ae,←em]
  rw[e2];exact this
def S (l:List UInt8):Value:=.string ⟨⟨l⟩⟩
theorem S_lit (l:List UInt8):Value.string ⟨l.toArray⟩=S l:=rfl
theorem Xg:Value.string ⟨#[]⟩=S []:=rfl
theorem one_S (l:List UInt8):aR (S l)=true:=rfl
theorem NL (a b:List UInt8):aj .s .eql (S a) (S b)=some (.bool (decide (a=b))):=by
 show some (Value.bool ((ByteArray.mk (Array.mk a)).toList==(ByteArray.mk (Array.mk b)).toList))=_;rw[KN,KN]
 congr 2
 by_cases h:a=b
 ·subst h;simp
 ·rw[cG h];simpa using h
theorem NK (a b:List UInt8):aj .s .neq (S a) (S b)=some (.bool (!decide (a=b))):=by
 show some (Value.bool (!((ByteArray.mk (Array.mk a)).toList==(ByteArray.mk (Array.mk b)).toList)))=_;rw[KN,KN]
 congr 3
 by_cases h:a=b
 ·subst h;simp
 ·rw[cG h];simpa using h
theorem lenS (l:List UInt8):IQ (S l)=some (af l.length):=rfl
namespace Rp
def bs:Rp (List UInt8) where
 w:=1
 R:=λ_ _ cs n=>cs=[S n]
 len:=by rintro _ _ _ _ rfl;rfl
 one:=by rintro _ _ _ _ rfl;simp[one_S]
 fr:=λH _ _=>H
 mono:=λH _=>H
end Rp
attribute [go_sem] S_lit NL NK lenS
end Go.Crisp
namespace Go.Proofs.YtjljhnandbbldaaGreatDoor
open Go Go.Crisp
attribute [local irreducible] ag di aW stK aF vK qK bK gK fo bA mkK dk Fm
open _root_.Go.Proofs.Tryz
def NN (b:Int):List UInt8:=if b=0 then[99,108,97,109,112]else if b=1 then[109,105,114,114,111,114]else if b=2 then[119,114,97,112]else[]
def TM (b:Int):List UInt8:=if b=0 then[98,111,120]else if b=1 then[99,117,98,105,99]else if b=2 then[108,97,110,99,122,111,115]else[]
theorem Ic {h:ah}(G:eF h){b:Int}:
  ag prog ri #[af b] h λr h'=>r=S (NN b)∧h'=h:=by
 apply Mx;unfold Br;obtain⟨v,D,H⟩:=G.names;obtain⟨a,cap,rfl⟩:=H.isSl;simp only[go_sem,D];refine ao (λh1=>?_) (λh1=>?_)
 ·refine⟨?_,trivial⟩;unfold NN;rw[az ae,az ae,az ae]
 ·obtain⟨n,rfl⟩:∃n:Nat,b=(n:Int):=⟨b.toNat,ae⟩
  obtain⟨p,A,F⟩:=H.at1 (k:=.i64) (i:=n) ae;simp only[go_sem,A,F];refine⟨?_,trivial⟩;have I:n<3:=ae;have key:∀(i:Nat) (hi:i< [Value.string (jY 0),Value.string (jY 1),Value.string (jY 2)].length),[Value.string (jY 0),Value.string (jY 1),Value.string (jY 2)][i]=S (NN (i:Int)):=λi hi=>by
   match i,hi with
   |0,_=>rfl
   |1,_=>rfl
   |2,_=>rfl
  exact key n _
theorem PS {h:ah}(G:eF h){b:Int}:
  ag prog zS #[af b] h λr h'=>r=S (TM b)∧h'=h:=by
 apply Tg;unfold Ju;simp only[go_sem];refine ao (λh1=>?_) (λh1=>?_)
 ·refine⟨?_,trivial⟩;unfold TM;rw[az ae,az ae,az ae]
 ·obtain⟨n,rfl⟩:∃n:Nat,b=(n:Int):=⟨b.toNat,ae⟩
  have D:n<3:=ae;have A:=(G.kinds n D).1;have e:MX 3 2 (.pointer (some ⟨fK,0,none⟩)) (af (n:Int))=some (.pointer (some ⟨fK,2*n,none⟩)):=by
   show(if 0≤(n:Int)∧(n:Int)<((3:Nat):Int)then some (Value.pointer (some ((⟨fK,0,none⟩:Addr).add ((n:Int).toNat*2))))else none)=_;rw[aA ae,mF,eo,aK,eO]
  simp only[go_sem,e,iA,A];refine⟨?_,trivial⟩
  clear h1 A e
  match n,D with
  |0,_=>rfl
  |1,_=>rfl
  |2,_=>rfl
end Go.Proofs.YtjljhnandbbldaaGreatDoor
namespace Go.Proofs.YtjljhnandbbldaaGreatDoor
open Go Go.Crisp
attribute [local irreducible] ag di aW stK aF vK qK bK gK fo bA mkK dk Fm GM CJ bsK
open _root_.Go.Proofs.Tryz
theorem ZP {h:ah}{f n m i:Int}:ag prog Jk #[af f,af n,af m,af i] h λr h'=>r=.bool (decide (vw f n m i))∧h'=h:=by
 apply US;unfold Lp
 try simp only[go_sem]
 refine⟨?_,trivial⟩
 congr 1
 rw[gL];unfold vw;omega
theorem Z5 {h:ah}{a b:Int}(H: -9223372036854775807≤a∧a≤9223372036854775807)(F:0<b)(A:I64 b):ag prog zQ #[af a,af b] h λr h'=>r=af (Ni a b)∧h'=h:=by
 apply Tf;unfold Jt
 try simp only[go_sem]
 rw[w64 ae ae,RD];have hi:I64 (-a):=by unfold I64;omega
 refine(K9 hi A).mono λG h1 ⟨D,w1⟩=>?_
 subst D w1
 try simp only[go_sem]
 rw[qB hi F];have:=rZ (a:= -a) (b:=b) (L:=9223372036854775807) (U:=9223372036854775807) ae ae ae ae ae;rw[w64 ae ae,RD];exact⟨rfl,trivial⟩
theorem UH {h:ah}(G:eF h){f:Int}(f0:0≤f)(f1:f<3):∃p,MX 3 2 (.pointer (some ⟨fK,0,none⟩)) (af f)=some (.pointer (some ⟨fK,p,none⟩))∧aG h ⟨fK,p+1,none⟩=some (af (cU f)):=by
 obtain⟨n,rfl⟩:∃n:Nat,f=(n:Int):=⟨f.toNat,ae⟩
 have A:n<3:=ae;refine⟨2*n,?_,?_⟩
 ·show(if 0≤(n:Int)∧(n:Int)<((3:Nat):Int)then some (Value.pointer (some ((⟨fK,0,none⟩:Addr).add ((n:Int).toNat*2))))else none)=_;rw[aA ae,mF,eo,aK,eO]
 ·rw[(G.kinds n A).2]
  match n,A with
  |0,_=>rfl
  |1,_=>rfl
  |2,_=>rfl
def zcg (f n m i:Int):Value:=if vw f n m i then .tuple #[.int .i64 (qn f n m i),.int .i64 (ns f n m i-qn f n m i)]else .tuple #[.int .i64 0,.int .i64 0]
theorem Z7 {h:ah}(G:eF h){f n m i:Int}:ag prog zR #[af f,af n,af m,af i] h λr h'=>r=zcg f n m i∧h'=h:=by
 apply OD;unfold DW zcg;refine ZP.mono λI h1 ⟨D,w1⟩=>?_
 subst D w1
 try simp only[go_sem]
 refine ao (λh0=>?_) (λh0=>?_)
 ·rw[az h0];exact⟨rfl,trivial⟩
 have H:vw f n m i:=cf h0;rw[aA H];have W:=MI H;have hb:=UY H;obtain⟨b1,b2,b3,b4,b5⟩:=hb;obtain⟨f0,f1,n0,n1,m0,m1,i0,i1⟩:=H;have F:I64 m:=by unfold I64;omega
 rw[w64 (n:=i*n) ae ae];refine(K9 (by unfold I64;omega) F).mono λI h1 ⟨D,w1⟩=>?_
 subst D w1;rw[qB (by unfold I64;omega) ae]
 try simp only[go_sem]
 rw[w64 (n:=i+1) ae ae,w64 (n:=(i+1)*n) ae ae];refine(Z5 ae ae F).mono λI h1 ⟨D,w1⟩=>?_
 subst D w1
 try simp only[go_sem]
 unfold qn ns at W ⊢;refine ao (λA=>?_) (λA=>?_)
 ·have A:f≠0:=A;rw[az A,az A]at*;obtain⟨p,U,L⟩:=UH G f0 f1;simp only[go_sem,U,L];have hr:0≤cU f∧cU f≤3:=by unfold cU;split;omega;split<;>omega
  rw[w64 (n:=2*i) ae ae,w64 (n:=2*i+1) ae ae,w64 (n:=(2*i+1)*n) ae ae,w64 (n:=(2*i+1)*n-m) ae ae,w64 (n:=cU f*2) ae ae,
   w64 (n:=cU f*2*max n m) ae ae,w64 (n:=(2*i+1)*n-m-cU f*2*max n m) ae ae,w64 (n:=2*m) ae ae]
  refine(K9 (by unfold I64;omega) (by unfold I64;omega)).mono λI h1 ⟨D,w1⟩=>?_
  subst D w1;rw[qB (by unfold I64;omega) ae]
  try simp only[go_sem]
  rw[w64 (n:=((2*i+1)*n-m-cU f*2*max n m)/(2*m)+1) ae ae,w64 (n:=(2*i+1)*n-m+cU f*2*max n m) ae ae];refine(Z5 ae ae (by unfold I64;omega)).mono λI h1 ⟨D,w1⟩=>?_
  subst D w1
  try simp only[go_sem]
  rw[w64 ae ae];exact⟨rfl,trivial⟩
 ·have A:f=0:=cf A;rw[aA A,aA A]at*;rw[w64 ae ae];exact⟨rfl,trivial⟩
theorem VB {h:ah}{p q:Int}(H: -4611686018427387904≤p∧p≤4611686018427387904)(hq:I64 q):ag prog vR #[af p,af q] h λr h'=>r=af (HC p q)∧h'=h:=by
 apply Th;unfold Jv
 try simp only[go_sem]
 unfold HC;have D:(((q<1∨262144<q)∨IntKind.i64.wrap (2*q)≤p)∨p≤IntKind.i64.wrap (-2*q))↔(q<1∨262144<q∨2*q≤p∨p≤ -2*q):=by
  unfold I64 at hq;by_cases hc:q<1∨262144<q
  ·omega
  ·rw[w64 (n:=2*q) ae ae,w64 (n:= -2*q) ae ae];omega
 refine ao (λh0=>?_) (λh0=>?_)
 ·rw[aA (D.1 h0)];exact⟨rfl,trivial⟩
 rw[az λhh=>h0 (D.2 hh)];have F:IntKind.i64.wrap (0-p)= -p:=by rw[w64 ae ae];omega
 rw[F];generalize max p (-p)=a;simp only[yJ,Er,uJ,p8,yI,Ep];have G:2*q*q*q=2*(q*q*q):=by grind
 rw[G];unfold Vk;refine ao (λh1=>?_) (λh1=>?_)
 ·rw[aA h1];have A:(0-a)*a*a+5*a*a*q-8*a*q*q+4*q*q*q=4*(q*q*q)+5*(a*a*q)-a*a*a-8*(a*q*q):=by grind
  rw[A];exact oH (kc _) (by unfold I64;omega) (kc _)
 ·rw[az h1];have A:3*a*a*a-5*a*a*q+2*(q*q*q)=3*(a*a*a)-5*(a*a*q)+2*(q*q*q):=by grind
  rw[A];exact oH (kc _) (by unfold I64;omega) (kc _)
theorem zbm {h:ah}{f n m i j:Int}(G:vw f n m i)(hj: -1048576*65536≤j∧j≤1048576*65536):ag prog Cv #[af f,af n,af m,af i,af j] h λr h'=>r=af (yN f n m i j)∧h'=h:=by
 apply QS;unfold F0
 try simp only[go_sem]
 have I:=UY G;obtain⟨b1,b2,b3,b4,b5⟩:=I;obtain⟨f0,f1,n0,W,m0,m1,i0,i1⟩:=G;unfold yN;have H:=KB (a:=j) (A:=1048576*65536) (b:=m) (B:=65536) ae ae ae ae;have L:(j+1)*m=j*m+m:=by rw[jw,kr]
 have U:2*m*j=2*(j*m):=by rw[mU,fU m j]
 refine ao (λF=>?_) (λF=>?_)
 ·rw[aA F];rw[w64 (n:=i+1) ae ae,w64 (n:=(i+1)*n) ae ae,w64 (n:=j+1) ae ae,w64 (n:=(j+1)*m) ae ae,w64 (n:=i*n) ae ae,w64 (n:=j*m) ae ae,w64 ae ae];exact oH (by unfold I64;omega) (by unfold I64;omega) (by unfold I64;omega)
 rw[az F,w64 (n:=2*m) ae ae,w64 (n:=2*m*j) ae ae,w64 (n:=2*i) ae ae,w64 (n:=2*i+1) ae ae,w64 (n:=(2*i+1)*n) ae ae,
  w64 (n:=2*m*j-(2*i+1)*n) ae ae,w64 (n:=2*m*j-(2*i+1)*n+m) ae ae,w64 (n:=2*max n m) ae ae]
 refine ao (λD=>?_) (λD=>?_)
 ·rw[aA D];exact VB ae (by unfold I64;omega)
 ·rw[az D];exact Yk (by unfold I64;omega) (by unfold I64;omega)
def eW (f n m i:Int):Int:=if vw f n m i then qn f n m i else 0
def c5 (f n m i:Int):List Int:=if vw f n m i then Dh f n m i else[]
theorem nI {β:Type}(g:Nat→β)(n k:Nat)(h:k<n):((List.range n).map g).take (k+1)=((List.range n).map g).take k++[g k]:=by
 rw[jU (by simpa using h)];simp
theorem TZ {h:ah}(G:eF h){f n m i:Int}:ag prog Df #[af f,af n,af m,af i] h λr h'=>
  ∃v,r=.tuple #[af (eW f n m i),v]∧New (Rp.int .i64) h h' v (c5 f n m i):=by
 apply UT;unfold Lq;refine(Z7 G).mono λv1 h1 ⟨e1,w1⟩=>?_
 subst e1 w1;unfold eW c5 zcg;by_cases A:vw f n m i
 ·rw[aA A,aA A,aA A]
  try simp only[go_sem]
  have aa:=MI A;obtain⟨N,L⟩:∃N,N=(ns f n m i-qn f n m i).toNat:=⟨_,rfl⟩
  refine bI N 0 (λk v=>[v,af (k:Int)]) (λk v h'=>New (Rp.int .i64) h1 h' v ((Dh f n m i).take k)) (.slice none 0 0) rfl (b9 _) (New.nil (Ext.refl _)) λk v h2 again ρj _ hk F H=>?_
  try simp only[go_sem]
  have hl:(Dh f n m i).length=N:=by unfold Dh;rw[cQ,eN,L]
  refine ao (λh0=>?_) (λh0=>?_)
  ·rw[w64 (n:=qn f n m i+(k:Int)) ae ae];refine(zbm A ae).mono λv2 h3 ⟨e2,W⟩=>?_
   subst e2 W;have D:((Dh f n m i).take k).length=k:=by rw[db];omega
   refine F.push_int rfl (by rw[D];omega) (by rw[D];omega) λU h' I=>?_
   try simp only[go_sem]
   rw[w64 ae ae];have:=H U h' ae (by
    have e:=nI (λk:Nat=>yN f n m i (qn f n m i+k)) (ns f n m i-qn f n m i).toNat k ae;unfold Dh at I ⊢;rw[e];exact I)
   exact this
  ·rw[eS ae]at F;exact⟨v,rfl,F⟩
 ·rw[az A,az A,az A]
  try simp only[go_sem]
  refine lF (λk=>[.slice none 0 0,af (k:Int)]) 0 0 rfl (cq _) λk again ρj _ hk _=>?_
  have:k=0:=ae;subst this
  try simp only[go_sem]
  refine ao (λh0=>absurd h0 ae) (λh0=>?_);exact⟨_,rfl,New.nil (Ext.refl _)⟩
end Go.Proofs.YtjljhnandbbldaaGreatDoor
namespace Go.Crisp
def dt (r:Nat→Int)(i j:Nat):Prop:=r j<r i∨(r i=r j∧i<j)
instance (r:Nat→Int)(i j:Nat):Decidable (dt r i j):=by unfold dt;exact inferInstance
theorem JH (r:Nat→Int)(i:Nat):¬dt r i i:=by unfold dt;omega
theorem kT {r:Nat→Int}{i j k:Nat}(h1:dt r i j)(A:dt r j k):dt r i k:=by unfold dt at*;omega
theorem kU (r:Nat→Int){i j:Nat}(h:i≠j):dt r i j∨dt r j i:=by unfold dt;omega
theorem MM {r:Nat→Int}{i j:Nat}(h1:dt r i j):¬dt r j i:=by unfold dt at*;omega
def lP (r:Nat→Int)(n i:Nat):Nat:=(List.range n).countP λj=>decide (dt r j i)
theorem Vn {l:List Nat}{p:Nat→Bool}(h:∀x∈l,p x=true):l.countP p=l.length:=by
 rw[List.countP_eq_length];exact h
theorem TR {l:List Nat}{p:Nat→Bool}(h:∀x∈l,p x=false):l.countP p=0:=by
 rw[List.countP_eq_zero];intro x A;rw[h x A];simp
theorem JA {r:Nat→Int}{n:Nat}{l:List Nat}(H:l.Perm (List.range n))(F:l.Pairwise (dt r)){k:Nat}(D:k<l.length):lP r n l[k]=k:=by
 unfold lP;rw[←H.countP_eq];have A:∀(x:Nat),x=l[k]→((l.take k).countP λj=>decide (dt r j x))+((l.drop k).countP λj=>decide (dt r j x))=k:=by
  rintro x rfl;have h1:((l.take k).countP λj=>decide (dt r j l[k]))=(l.take k).length:=Vn λx A=>by
   obtain⟨i,hi,rfl⟩:=oC.1 A;rw[um];rw[db]at hi;exact da (ub.1 F i k ae D ae)
  have G:((l.drop k).countP λj=>decide (dt r j l[k]))=0:=TR λx A=>by
   obtain⟨i,hi,rfl⟩:=oC.1 A;rw[xa];rw[iX]at hi;rcases w9 i with h0|h0
   ·subst h0;exact cG (JH _ _)
   ·exact cG (MM (ub.1 F k (k+i) D ae ae))
  rw[h1,G,db];omega
 have e:∀p:Nat→Bool,l.countP p=(l.take k).countP p+(l.drop k).countP p:=λp=>by rw[←RB,lS]
 rw[e];exact A _ rfl
theorem Qt {r:Nat→Int}{n i j:Nat}(hi:i<n)(h:dt r i j):lP r n i<lP r n j:=by
 unfold lP;have A:∀l:List Nat,(l.countP λk=>decide (dt r k i))≤l.countP λk=>decide (dt r k j):=λl=>
  List.countP_mono_left λx _ F=>da (kT (CY F) h)
 obtain⟨a,b,D⟩:=List.append_of_mem (sO.2 hi);rw[D,RB,RB,List.countP_cons,List.countP_cons];have h1:=A a;have G:=A b;rw[az (by simpa using JH r i),aA (da h)];omega
theorem Gt {r:Nat→Int}{n i j:Nat}(hi:i<n)(D:j<n)(h:lP r n i=lP r n j):i=j:=by
 by_cases A:i=j
 ·exact A
 ·rcases kU r A with h1|h1
  ·have:=Qt hi h1;omega
  ·have:=Qt D h1;omega
theorem RY {r:Nat→Int}{n i j:Nat}(hi:i<n)(A:j<n)(h:lP r n i<lP r n j):dt r i j:=by
 have D:i≠j:=λe=>by rw[e]at h;omega
 rcases kU r D with h1|h1
 ·exact h1
 ·have:=Qt A h1;omega
theorem Xx (r:Nat→Int)(n:Nat):∀k,k<n→∃i,i<n∧lP r n i=k:=by
 let le:Nat→Nat→Bool:=λi j=>decide (dt r i j)||decide (i=j)
 have U:∀a b c:Nat,le a b=true→le b c=true→le a c=true:=λa b c h1 A=>by
  simp only[le,xz,dI]at*;rcases h1 with h1|rfl
  ·rcases A with A|rfl
   ·exact .inl (kT h1 A)
   ·exact .inl h1
  ·exact A
 have D:∀a b:Nat,(le a b||le b a)=true:=λa b=>by
  simp only[le,xz,dI];by_cases I:a=b
  ·exact .inl (.inr I)
  ·rcases kU r I with h|h
   ·exact .inl (.inl h)
   ·exact .inr (.inl h)
 let l:=(List.range n).mergeSort le
 have F:l.Perm (List.range n):=List.mergeSort_perm _ _;have L:l.Pairwise (λa b=>le a b=true):=List.pairwise_mergeSort (le:=le) U D _;have H:l.Nodup:=F.nodup_iff.2 List.nodup_range;have G:l.Pairwise (dt r):=by
  unfold List.Nodup at H;refine(L.and H).imp λ{a b} ⟨h1,A⟩=>?_
  simp only[le,xz,dI]at h1;rcases h1 with h1|h1
  ·exact h1
  ·exact absurd h1 A
 intro k W;have hl:l.length=n:=by rw[F.length_eq];simp
 refine⟨l[k]'ae,?_,JA F G _⟩;have:=F.mem_iff.1 (cO (l:=l) (n:=k) ae);simpa using this
def jS (r:Nat→Int)(n k:Nat)(i:Nat):Int:=if lP r n i<k then-1 else r i
theorem SY (r:Nat→Int)(n:Nat):jS r n 0=r:=by funext i;unfold jS;rw[az ae]
theorem Yp {r:Nat→Int}{n k:Nat}(hr:∀i,i<n→0≤r i)(hk:k<n){b:Nat}(I:b<n)
  (h1:∀i,i<n→jS r n k i≤jS r n k b) (U:∀i,i<b→jS r n k i<jS r n k b):lP r n b=k:=by
 obtain⟨m,G,D⟩:=Xx r n k hk;have pm:jS r n k m=r m:=by unfold jS;rw[az ae]
 have W:=hr m G;have A:=h1 m G;rw[pm]at A;have H:jS r n k b=r b∧¬lP r n b<k:=by
  unfold jS at A ⊢;split at A
  ·omega
  ·rename_i h;rw[az h];exact⟨rfl,h⟩
 rw[H.1]at A;by_cases L:b=m
 ·rw[L];exact D
 ·have aa:lP r n b≠k:=λe=>L (Gt I G (e.trans D.symm))
  have F:dt r m b:=RY G I (by have:=H.2;omega);unfold dt at F;rcases F with F|⟨e,F⟩
  ·omega
  ·have:=U m F;rw[pm,H.1]at this;omega
theorem SZ {r:Nat→Int}{n k b:Nat}(F:b<n)(D:lP r n b=k){i:Nat}(hi:i<n):jS r n (k+1) i=if i=b then-1 else jS r n k i:=by
 unfold jS;by_cases A:i=b
 ·subst A;rw[aA ae,aA rfl]
 ·have:lP r n i≠k:=λe=>A (Gt hi F (e.trans D.symm))
  rw[az A];by_cases h:lP r n i<k
  ·rw[aA h,aA ae]
  ·rw[az h,az ae]
end Go.Crisp
namespace Go.Crisp
open Go
def mN (l:List Int):Int:=l.foldl Dw 0
def nh (x:Int):Int:=max x (zaW x (-1))
def mP (l:List Int):Int:=l.foldl (λs x=>Dw s (nh x)) 0
theorem FI {x:Int}(h:I64 x):nh x=min (x.natAbs:Int) 9223372036854775807:=by
 unfold nh zaW jN kJ;unfold I64 at h;have e:(-1:Int).natAbs=1:=rfl;rw[e,lT];have D:decide ((-1:Int)<0)=true:=rfl;rw[D];by_cases A:x<0
 ·rw[da A];have:(!(true==true))=false:=rfl;rw[this];simp only[gB,cE];split<;>omega
 ·rw[cG A];have:(!(false==true))=true:=rfl;rw[this];simp only[cJ];split<;>omega
theorem qA {f:Int→Int→Int}(A:∀a b,I64 (f a b)):∀(l:List Int) (s:Int),I64 s→I64 (l.foldl f s)
 | [],s,h=>h
 |x::l,s,_=>qA A l _ (A _ _)
theorem yG:I64 0:=by unfold I64;omega
theorem SB (l:List Int):I64 (mN l):=qA yE l 0 yG
theorem Ll (l:List Int):I64 (mP l):=qA (λa b=>yE a (nh b)) l 0 yG
theorem Pf {x:Int}(h:I64 x):I64 (nh x):=by rw[FI h];unfold I64;omega
def Fw (l:List Int):Prop:=l.length=0∨1048576<l.length∨∃x∈l,1099511627776<nh x
instance (l:List Int):Decidable (Fw l):=by unfold Fw;infer_instance
def cV (l:List Int):Int:=if Fw l then 7 else if mN l<268435456 then 8 else 0
def gv (l:List Int)(i:Nat):Int:=l.getD i 0*16384/mN l
def dW (l:List Int)(i:Nat):Int:=l.getD i 0*16384%mN l
def vC (l:List Int):Nat→Int
 |0=>16384
 |k+1=>vC l k-gv l k
def yw (l:List Int):Int:=vC l l.length
def mM (l:List Int):List Int:=(List.range l.length).map λi=>gv l i+(if(lP (dW l) l.length i:Int)<yw l then 1 else 0)
def cj (l:List Int):List Int:=if cV l=0 then mM l else[]
structure Cm (l:List Int):Prop where
 pos:0<l.length
 len:l.length≤1048576
 small:∀i, -1099511627776≤l.getD i 0∧l.getD i 0≤1099511627776
 sum:268435456≤mN l
theorem JM {l:List Int}:cV l=0↔ ¬Fw l∧268435456≤mN l:=by
 unfold cV;split
 ·rename_i h;simp[h]
 ·rename_i h;split
  ·rename_i A;simp[h];omega
  ·rename_i A;simp[h];omega
theorem Zg {l:List Int}(D:∀x∈l,I64 x)(h:cV l=0):Cm l:=by
 obtain⟨h1,G⟩:=JM.1 h;unfold Fw at h1;refine⟨ae,ae,λi=>?_,G⟩;by_cases hi:i<l.length
 ·have e:l.getD i 0=l[i]:=by simp[dS,hi]
  rw[e];have F:=cO hi;have A:¬1099511627776<nh l[i]:=λA=>h1 (.inr (.inr ⟨_,F,A⟩))
  rw[FI (D _ F)]at A;omega
 ·have e:l.getD i 0=0:=by simp[dS,Hh hi]
  rw[e];omega
def Ka (l:List Int):Nat→Int
 |0=>0
 |k+1=>Ka l k+l.getD k 0
theorem Qv {l:List Int}(G:Cm l):∀k:Nat, -(k*1099511627776:Int)≤Ka l k∧Ka l k≤k*1099511627776
 |0=>by simp[Ka]
 |k+1=>by
  have:=Qv G k;have A:=G.small k;simp only[Ka];omega
theorem Sx {l:List Int}(G:Cm l):∀k,k≤l.length→mN (l.take k)=Ka l k
 |0,_=>by simp[mN,Ka]
 |k+1,h=>by
  have A:=Sx G k ae;have F:=Qv G k;have D:=G.small k;have e:l.getD k 0=l[k]:=by simp[dS,show k<l.length by omega]
  have:=G.len;unfold mN at*;rw[jU ae,CP,A];simp only[wZ,List.foldl_nil,Ka];unfold Dw;rw[←e];omega
theorem Pc {l:List Int}(G:Cm l):mN l=Ka l l.length:=by
 have:=Sx G l.length (cq _)
 rwa [eS (cq _)]at this
def Qr (l:List Int):Nat→Int
 |0=>0
 |k+1=>Qr l k+dW l k
theorem LJ {l:List Int}(G:Cm l)(i:Nat):0≤dW l i∧dW l i<mN l:=by
 have:=G.sum;exact⟨kz _ ae,iB _ ae⟩
theorem yD {l:List Int}(G:Cm l)(i:Nat): -67108864≤gv l i∧gv l i≤67108864:=by
 have h1:=G.sum;have A:=G.small i;unfold gv;constructor
 ·rw[uf ae];omega
 ·apply G9;rw[wY ae];omega
theorem ML {l:List Int}(G:Cm l):∀k:Nat,16384-(k*67108864:Int)≤vC l k∧vC l k≤16384+k*67108864
 |0=>by simp[vC]
 |k+1=>by
  have:=ML G k;have A:=yD G k;simp only[vC];omega
theorem VU {l:List Int}(G:Cm l):∀k:Nat,0≤Qr l k∧Qr l k+k≤k*mN l
 |0=>by simp[Qr]
 |k+1=>by
  have:=VU G k;have A:=LJ G k;simp only[Qr];rw[show((k+1:Nat):Int)=(k:Int)+1 from rfl,jw,kr];omega
theorem Tx {l:List Int}(G:Cm l):∀k,vC l k*mN l+Ka l k*16384=16384*mN l+Qr l k
 |0=>by simp[vC,Ka,Qr]
 |k+1=>by
  have A:=Tx G k;have hd:mN l*gv l k+dW l k=l.getD k 0*16384:=vy _ _;simp only[vC,Ka,Qr];rw[RA,jw,fU (gv l k)];omega
theorem left_bd {l:List Int}(G:Cm l):0≤yw l∧yw l<l.length:=by
 have h:=Tx G l.length;rw[←Pc G]at h;have A:=VU G l.length;have F:=G.sum;have D:=G.pos;have e:yw l*mN l=Qr l l.length:=by unfold yw;omega
 constructor
 ·rcases mT (yw l) 0 with h1|h1
  ·have:yw l*mN l≤(-1)*mN l:=oB ae ae;omega
  ·exact h1
 ·rcases mT (yw l) l.length with h1|h1
  ·exact h1
  ·have:(l.length:Int)*mN l≤yw l*mN l:=oB h1 ae;omega
theorem qe (l:List Int):(mM l).length=l.length:=by simp[mM]
theorem Xm {l:List Int}(G:Cm l):∀x∈mM l, -67108864≤x∧x≤67108865:=by
 intro x A;unfold mM at A;obtain⟨i,_,rfl⟩:=gO.1 A;have:=yD G i;split<;>omega
theorem Ec {β:Type}(g:Nat→β)(n i:Nat)(x:β)(h:i<n):((List.range n).map g).set i x=(List.range n).map λj=>if j=i then x else g j:=by
 apply qw
 ·simp
 ·intro k h1 D;simp at h1 D;rw[GY];simp;by_cases A:i=k
  ·subst A;simp
  ·rw[az A,az (gY A)]
theorem bN {β:Type}{g f:Nat→β}{n:Nat}(h:∀i,i<n→g i=f i):(List.range n).map g=(List.range n).map f:=by
 apply K3;intro i hi;exact h i (sO.1 hi)
end Go.Crisp
namespace Go.Proofs.YtjljhnandbbldaaGreatDoor
open Go Go.Crisp
attribute [local irreducible] ag di aW stK aF vK qK bK gK fo bA mkK dk Fm GM CJ bsK clK
open _root_.Go.Proofs.Tryz
abbrev SlI (Z:Nat→Prop)(h:ah)(v:Value)(l:List Int):Prop:=Rp.Sl (Rp.int .i64) Z h v l
theorem CD {f:Int→Int→Int}{l:List Int}{i:Nat}(h:i<l.length)(s:Int):(l.take (i+1)).foldl f s=f ((l.take i).foldl f s) l[i]:=by
 rw[jU h,CP];rfl
theorem Nj {h:ah}{x:Int}(A:I64 x):ag prog xc #[af x] h λr h'=>r=af (nh x)∧h'=h:=by
 apply QB;unfold FK;refine(Vy A (by unfold I64;omega)).mono λF h1 ⟨D,w1⟩=>?_
 subst D w1;simp only[go_sem];exact⟨rfl,trivial⟩
theorem PR {Z:Nat→Prop}{h:ah}{v:Value}{l:List Int}(H:SlI Z h v l)(D:∀x∈l,I64 x)(hl:l.length<4611686018427387904):ag prog zJ #[v] h λr h'=>r=af (mN l)∧h'=h:=by
 apply Ta;unfold Jo;obtain⟨a,cap,e⟩:=H.isSl;have U:aD v=some (af (l.length:Int)):=by rw[e];rfl
 rw[U,ak];refine lF (λi=>[af ((l.take i).foldl Dw 0),af (i:Int)]) l.length 0 rfl (b9 _) λi again ρj _ hi F=>?_
 simp only[go_sem];refine ao (λh0=>?_) (λh0=>?_)
 ·have A:i<l.length:=ae;obtain⟨p,I,G⟩:=H.int_at (k':=.i64) A;simp only[go_sem,I,G];refine(Nz (qA yE _ _ yG) (D _ (cO _))).mono λW h1 ⟨L,w1⟩=>?_
  subst L w1;rw[w64 ae ae];have:=F A;rw[CD A]at this;exact this
 ·rw[eS ae];exact⟨rfl,trivial⟩
theorem JP {Z:Nat→Prop}{h:ah}{v:Value}{l:List Int}(H:SlI Z h v l)(D:∀x∈l,I64 x)(hl:l.length<4611686018427387904):ag prog xd #[v] h λr h'=>r=af (mP l)∧h'=h:=by
 apply QE;unfold FM;obtain⟨a,cap,e⟩:=H.isSl;have e2:aD v=some (af (l.length:Int)):=by rw[e];rfl
 rw[e2,ak];refine lF (λi=>[af ((l.take i).foldl (λs x=>Dw s (nh x)) 0),af (i:Int)]) l.length 0 rfl (b9 _) λi again ρj _ hi F=>?_
 simp only[go_sem];refine ao (λh0=>?_) (λh0=>?_)
 ·have A:i<l.length:=ae;obtain⟨p,U,L⟩:=H.int_at (k':=.i64) A;simp only[go_sem,U,L];have I:=D _ (cO A);refine(Nj I).mono λW h1 ⟨G,w1⟩=>?_
  subst G w1;refine(Nz (qA (λa b=>yE a (nh b)) _ _ yG) (Pf I)).mono λW h1 ⟨G,w1⟩=>?_
  subst G w1
  try simp only[go_sem]
  rw[w64 ae ae];have:=F A;rw[CD A]at this;exact this
 ·rw[eS ae];exact⟨rfl,trivial⟩
theorem Z4 {h:ah}{x:Int}(A:I64 x):ag prog mI #[af x] h λr h'=>r=.bool (decide (1099511627776<nh x))∧h'=h:=by
 apply IA;unfold xZ;refine(Nj A).mono λF h1 ⟨D,w1⟩=>?_
 subst D w1;simp only[go_sem];exact⟨by simp,by simp⟩
section
attribute [local semireducible] clK
theorem clK_0 {f:FuncId}{a:Value}{h:ah}{K:Value→ah→Prop}:clK prog (.func (.func f) #[] #[]) #[a] h K=ag prog f #[a] h K:=rfl
theorem clK_2 {f:FuncId}{a b c:Value}{h:ah}{K:Value→ah→Prop}:clK prog (.func (.func f) #[] #[c]) #[a,b] h K=ag prog f #[a,b,c] h K:=rfl
end
theorem Sc {Z:Nat→Prop}{h:ah}{v:Value}{l:List Int}(H:SlI Z h v l)(I:∀x∈l,I64 x)(hl:l.length<4611686018427387904):
  ag prog dT #[v,.func (.func mI) #[] #[]] h λr h'=>r=.bool (decide (∃x∈l,1099511627776<nh x))∧h'=h:=by
 apply lD;unfold gu;refine ag.mono (K:=λr h'=>(∃n:Int,r=af n∧(0≤n↔ ∃x∈l,1099511627776<nh x))∧h'=h) ?_ ?_
 ·apply mR;unfold gU;obtain⟨a,cap,e⟩:=H.isSl;have e2:aD v=some (af (l.length:Int)):=by rw[e];rfl
  rw[e2,ak];refine bI l.length 0 (λi (_:Unit)=>[af (i:Int)]) (λi _ h'=>h'=h∧∀x∈l.take i,¬1099511627776<nh x) () rfl (b9 _) ⟨rfl,by simp⟩ λi _ h1 again ρj _ hi ⟨hh,G⟩ L=>?_
  subst hh;simp only[go_sem];refine ao (λh0=>?_) (λh0=>?_)
  ·have A:i<l.length:=ae;obtain⟨p,W,U⟩:=H.int_at (k':=.i64) A;simp only[go_sem,W,U];rw[clK_0];refine(Z4 (I _ (cO A))).mono λv1 h2 ⟨e1,w1⟩=>?_
   subst e1 w1;refine ao (λF=>?_) (λF=>?_)
   ·exact⟨⟨i,rfl,λ_=>⟨_,cO A,F⟩,λ_=>ae⟩,rfl⟩
   ·rw[w64 ae ae];refine L () _ A ⟨rfl,λx D=>?_⟩;rw[jU A]at D;rcases gX.1 D with D|D
    ·exact G x D
    ·rw[iy.1 D];exact F
  ·rw[eS ae]at G;exact⟨⟨-1,rfl,λh=>ae,λ⟨x,D,F⟩=>absurd F (G x D)⟩,by first|rfl|trivial⟩
 ·rintro r h' ⟨⟨n,rfl,hn⟩,rfl⟩;simp only[go_sem];refine⟨?_,trivial⟩
  congr 1
  rw[gL];exact hn
theorem TU {Z:Nat→Prop}{h:ah}{v:Value}{l:List Int}(H:SlI Z h v l)(G:∀x∈l,I64 x)(W:l.length<4611686018427387904):ag prog zI #[v] h λr h'=>r=af (cV l)∧h'=h:=by
 apply Oe;unfold DB;obtain⟨a,cap,e⟩:=H.isSl;have e2:aD v=some (af (l.length:Int)):=by rw[e];rfl
 simp only[go_sem,e2];unfold cV;refine gK_f (λA=>?_) (λA=>?_)
 ·have A:=of_decide_eq_false A;have e3:decide ((l.length:Int)=0∨1048576<(l.length:Int))=false:=cG A;simp only[go_sem,e3];refine(Sc H G W).mono λv1 h1 ⟨U,w1⟩=>?_
  subst U w1;simp only[go_sem];refine ao (λh0=>?_) (λh0=>?_)
  ·have F:Fw l:=.inr (.inr h0);rw[aA F];exact⟨by simp,by simp⟩
  ·have F:¬Fw l:=by unfold Fw;rintro(D|D|D);omega;omega;exact h0 D
   rw[az F];refine(PR H G W).mono λv1 h1 ⟨U,w1⟩=>?_
   subst U w1;simp only[go_sem];refine ao (λL=>?_) (λL=>?_)
   ·rw[aA L];exact⟨by simp,by simp⟩
   ·rw[az L];exact⟨by simp,by simp⟩
 ·have I:=CY A;have F:Fw l:=by unfold Fw;rcases I with D|D;exact .inl ae;exact .inr (.inl ae)
  simp only[go_sem,A];rw[aA F];exact⟨by simp,by simp⟩
def jP (l:List Int):Prop:=l.length%2=0∨1024<l.length∨mP l<1∨1048576<mP l
instance (l:List Int):Decidable (jP l):=by unfold jP;infer_instance
def AM (l:List Int):Int:=if jP l then 7 else 0
def rj (l:List Int):List Int:=if jP l then[]else l.map λx=>cS x 1073741824 (mP l)
theorem Ej {α β:Type}(g:α→β)(l:List α){k:Nat}(h:k<l.length):(l.map g).take (k+1)=(l.map g).take k++[g l[k]]:=by
 rw[jU (by simpa using h)];simp
theorem Fq {Z:Nat→Prop}{h:ah}{v:Value}{l:List Int}(H:SlI Z h v l)(F:∀x∈l,I64 x)(hl:l.length<4611686018427387904):
  ag prog sr #[v] h λr h'=>∃u,r=.tuple #[u,af (AM l)]∧New (Rp.int .i64) h h' u (rj l):=by
 apply QC;unfold FL;refine(JP H F hl).mono λv1 h1 ⟨e1,w1⟩=>?_
 subst e1 w1;obtain⟨a,cap,e⟩:=H.isSl;have U:aD v=some (af (l.length:Int)):=by rw[e];rfl
 simp only[go_sem,U];rw[dP _ _ _ _ ae,ak,jV ae];simp only[go_sem,U];unfold AM rj;have hs:=Ll l;refine ao (λh0=>?_) (λh0=>?_)
 ·have:jP l:=by unfold jP;omega
  rw[aA this,aA this];exact⟨_,rfl,New.nil (Ext.refl _)⟩
 ·have I:¬jP l:=by unfold jP;omega
  rw[az I,az I];refine bI l.length 0 (λk u=>[u,af (k:Int)]) (λk u h'=>New (Rp.int .i64) h1 h' u ((l.map λx=>cS x 1073741824 (mP l)).take k)) (.slice none 0 0) rfl (b9 _) (New.nil (Ext.refl _)) λk u h2 again ρj _ hk G L=>?_
  simp only[go_sem];refine ao (λh0=>?_) (λh0=>?_)
  ·have D:k<l.length:=ae;obtain⟨p,e3,W⟩:=(H.ext G.2.1).int_at (k':=.i64) D;simp only[go_sem,e3,W];refine(oH (F _ (cO _)) (by unfold I64;omega) hs).mono λv2 h3 ⟨e5,w5⟩=>?_
   subst e5 w5;have A:((l.map λx=>cS x 1073741824 (mP l)).take k).length=k:=by rw[db,cQ];omega
   unfold jP at I;refine G.push_int rfl (by rw[A];omega) (by rw[A];omega) λs' h' H'=>?_
   try rw[dw,ak]
   rw[w64 ae ae];have:=L s' h' D (by rw[Ej _ _ D];exact H');exact this
  ·rw[eS (by rw[cQ];omega)]at G;exact⟨u,rfl,G⟩
theorem Ik (l:List Int):∀x∈rj l,I64 x:=by
 unfold rj;split
 ·simp
 ·intro x A;obtain⟨y,_,rfl⟩:=gO.1 A;exact gm _ _ _
def mm (s:Int):Prop:=s<1∨4194304<s
instance (s:Int):Decidable (mm s):=by unfold mm;infer_instance
def gF (s:Int):Int:=(3*s+65535)/65536
def Fi (s:Int):Int:=if mm s then 7 else 0
def oF (s:Int):List Int:=if mm s then[]else(List.range (2*gF s+1).toNat).map λk:Nat=>BW ((k:Int)-gF s) s
theorem M6 (s:Int):∀x∈oF s,I64 x:=by
 unfold oF;split
 ·simp
 ·intro x A;obtain⟨y,_,rfl⟩:=gO.1 A;exact Vb _ _
theorem NC {h:ah}{s:Int}(hs:I64 s):ag prog mJ #[af s] h λr h'=>∃u,r=.tuple #[u,af (Fi s)]∧New (Rp.int .i64) h h' u (oF s):=by
 apply IB;unfold yb;simp only[go_sem];unfold Fi oF;refine ao (λh0=>?_) (λh0=>?_)
 ·have:mm s:=h0;rw[aA this,aA this];exact⟨_,rfl,New.nil (Ext.refl _)⟩
 ·have H:¬mm s:=h0;rw[az H,az H];rw[w64 (n:=3*s) ae ae,w64 (n:=3*s+65536) ae ae,w64 (n:=3*s+65536-1) ae ae];have e1:aj .i .shr (af (3*s+65536-1)) (.int .u64 16)=some (af (gF s)):=by
   show(if(16:Int)<0 then none else some (af ((3*s+65536-1).fdiv (2^(min (16:Int).toNat 64)))))=_;rw[az ae,RH _ (by decide)];unfold gF
   congr 2
   rw[show 3*s+65536-1=3*s+65535 by omega];rfl
  rw[e1,ak];have hr:0≤gF s∧gF s≤193:=by unfold gF;omega
  generalize gF s=q at*;simp only[go_sem];rw[w64 (n:=0-q) ae ae];obtain⟨N,L⟩:∃N,N=(2*q+1).toNat:=⟨_,rfl⟩
  rw[←L];refine bI N 0 (λk u=>[u,af ((k:Int)-q)]) (λk u h'=>New (Rp.int .i64) h h' u (((List.range N).map λk:Nat=>BW ((k:Int)-q) s).take k)) (.slice none 0 0) rfl (b9 _) (New.nil (Ext.refl _)) λk u h2 again ρj _ hk F G=>?_
  simp only[go_sem];refine ao (λI=>?_) (λI=>?_)
  ·have D:k<N:=ae;refine(zbO (by unfold I64;omega) hs).mono λv2 I ⟨e5,U⟩=>?_
   subst e5 U;have A:(((List.range N).map λk:Nat=>BW ((k:Int)-q) s).take k).length=k:=by rw[db,cQ,eN];omega
   refine F.push_int rfl (by rw[A];omega) (by rw[A];omega) λW h' H'=>?_
   try rw[dw,ak]
   rw[w64 ae ae];have:=G W h' D (by rw[nI _ _ _ D];exact H');rw[show((k+1:Nat):Int)-q=(k:Int)-q+1 by omega]at this;exact this
  ·rw[eS (by rw[cQ,eN];omega)]at F;exact⟨u,rfl,F⟩
end Go.Proofs.YtjljhnandbbldaaGreatDoor
namespace Go.Crisp
section
section
variable {α:Type}{lt:α→α→Prop}
theorem CF (F:∀{a b c},lt a b→lt b c→lt a c){L:List α}(h:L.Pairwise lt){x:α}{i j:Nat}(D:i≤j)(G:j<L.length)(A:lt L[j] x):lt (L[i]'ae) x:=by
 rcases oE i j with h1|h1
 ·exact F (ub.1 h i j ae G h1) A
 ·have:i=j:=ae;subst this;exact A
theorem CG (F:∀{a b c},lt a b→lt b c→lt a c){L:List α}(h:L.Pairwise lt){x:α}{i j:Nat}(D:i≤j)(G:j<L.length)(A:lt x (L[i]'ae)):lt x L[j]:=by
 rcases oE i j with h1|h1
 ·exact F A (ub.1 h i j ae G h1)
 ·have:i=j:=ae;subst this;exact A
theorem cross (D:∀{a b c},lt a b→lt b c→lt a c){L R:List α}(hL:L.Pairwise lt)(G:R.Pairwise lt){i j:Nat}(hi:i≤L.length)(U:j≤R.length)
  (h1:∀(a:0<i) (b:j<R.length),lt (L[i-1]'ae) R[j]) (H:∀(a:0<j) (b:i<L.length),lt (R[j-1]'ae) L[i]):
  ∀x∈L.take i++R.take j,∀y∈L.drop i++R.drop j,lt x y:=by
 intro x A y F;rcases gX.1 A with A|A<;>rcases gX.1 F with F|F<;>
  obtain⟨p,I,rfl⟩:=oC.1 A<;>obtain⟨q,hq,rfl⟩:=oC.1 F<;>
  rw[db]at I<;>rw[iX]at hq<;>rw[um,xa]
 ·exact ub.1 hL p (i+q) ae ae ae
 ·exact CF (lt:=lt) D (L:=L) hL (i:=p) (j:=i-1) ae ae (CG (lt:=lt) D (x:=L[i-1]) (L:=R) G (i:=j) (j:=j+q) ae ae (h1 ae ae))
 ·exact CF (lt:=lt) D (L:=R) G (i:=p) (j:=j-1) ae ae (CG (lt:=lt) D (x:=R[j-1]) (L:=L) hL (i:=i) (j:=i+q) ae ae (H ae ae))
 ·exact ub.1 G p (j+q) ae ae ae
theorem zct {L R A D:List α}{i j:Nat}(hc:∀x∈L.take i++R.take j,∀y∈L.drop i++R.drop j,lt x y)
  (F:A.Perm (L.take i++R.take j)) (G:D.Perm (L.drop i++R.drop j)) (H:A.Pairwise lt) (W:D.Pairwise lt):(A++D).Perm (L++R)∧(A++D).Pairwise lt:=by
 refine⟨?_,qQ.2 ⟨H,W,λx I y U=>hc x (F.mem_iff.1 I) y (G.mem_iff.1 U)⟩⟩;refine(F.append G).trans ?_;have e:(L.take i++R.take j++(L.drop i++R.drop j)).Perm ((L.take i++L.drop i)++(R.take j++R.drop j)):=by
  rw[cg,cg];refine List.Perm.append_left _ ?_;rw[←cg,←cg];exact List.Perm.append_right _ GX
 rwa [lS,lS]at e
end
end
end Go.Crisp
namespace Go.Proofs.YtjljhnandbbldaaGreatDoor
open Go Go.Crisp
attribute [local irreducible] ag di aW stK aF vK qK bK gK fo bA mkK dk Fm GM CJ bsK clK
open _root_.Go.Proofs.Tryz
section
abbrev iv (i:Nat):Value:=.int .i64 (i:Int)
structure JW (v f:Value)(P:ah→Prop)(r:Nat→Int)(n:Nat):Prop where
 call:∀{h:ah} {a b:Nat} {K:Value→ah→Prop},P h→a<n→b<n→(∀c:Int,(c<0↔r b<r a)→K (.int .i64 c) h)→clK prog f #[iv a,iv b] h K
 fr:∀{h h':ah},P h→Fr (blk v) h h'→P h'
structure dY (v:Value)(P:ah→Prop)(n:Nat)(h:ah)(l:List Nat):Prop where
 own:Own 1 h v l.length (l.map iv)
 ok:P h
 small:l.length<4611686018427387904
 below:∀x∈l,x<n
section
variable {v f:Value}{P:ah→Prop}{r:Nat→Int}{n:Nat}
theorem dY.at {h:ah}{l:List Nat}(H:dY v P n h l){i:Nat}(hi:i<l.length):∃p,bh 1 v (iv i)=some p∧ldV h p=some (iv l[i]):=by
 obtain⟨p,h1,A,_⟩:=H.own.at1 (k:=.i64) hi;exact⟨p,h1,by rw[A,eT]⟩
theorem dY.swap (C:JW v f P r n){h:ah}{A B D:List Nat}{x y:Nat}(H:dY v P n h (A++x::(B++y::D))){i j:Nat}(hi:i=A.length)(hj:j=A.length+1+B.length):
  ∃ p q,bh 1 v (iv i)=some p∧bh 1 v (iv j)=some q∧ldV h p=some (iv x)∧ldV h q=some (iv y)∧∀K:Value→ah→Prop,
   (∀h',dY v P n h' (A++y::(B++x::D))→Fr (blk v) h h'→K undef h')→
    (stK 1 p (iv y) h λ_ F=>stK 1 q (iv x) F K)∧(stK 1 q (iv x) h λ_ F=>stK 1 p (iv y) F K):=by
 subst hi hj;have l1:A.length<(A++x::(B++y::D)).length:=by simp
 have l2:A.length+1+B.length<(A++x::(B++y::D)).length:=by simp;omega
 obtain⟨p,h1,F,G⟩:=H.own.at1 (k:=.i64) l1;obtain⟨q,g1,g2,g3⟩:=H.own.at1 (k:=.i64) l2;have e1:(A++x::(B++y::D))[A.length]=x:=by simp
 have e2:(A++x::(B++y::D))[A.length+1+B.length]=y:=by
  apply sN;rw[←iY,tZ ae,show A.length+1+B.length-A.length=B.length+1 by omega,BQ,tZ ae];simp
 rw[eT,e1]at F;rw[eT,e2]at g2;have fin:∀h',Own 1 h' v (A++x::(B++y::D)).length ((A++y::(B++x::D)).map iv)→Fr (blk v) h h'→dY v P n h' (A++y::(B++x::D)):=λh' o f'=>
  ⟨by rw[show(A++y::(B++x::D)).length=(A++x::(B++y::D)).length by simp];exact o,C.fr H.ok f',by have:=H.small;simpa using this,λz hz=>H.below z (by
   simp only[gX,kw]at hz ⊢;rcases hz with h|h|h|h|h<;>simp[h])⟩
 have s1:((A++x::(B++y::D)).map iv).set A.length (iv y)=(A++y::(B++y::D)).map iv:=by simp
 have s2:((A++y::(B++y::D)).map iv).set (A.length+1+B.length) (iv x)=(A++y::(B++x::D)).map iv:=by
  rw[←KM]
  congr 1
  rw[KL _ _ ae,show A.length+1+B.length-A.length=B.length+1 by omega,List.set_cons_succ,KL _ _ ae];simp
 have s3:((A++x::(B++y::D)).map iv).set (A.length+1+B.length) (iv x)=(A++x::(B++x::D)).map iv:=by
  rw[←KM]
  congr 1
  rw[KL _ _ ae,show A.length+1+B.length-A.length=B.length+1 by omega,List.set_cons_succ,KL _ _ ae];simp
 have s4:((A++x::(B++x::D)).map iv).set A.length (iv y)=(A++y::(B++x::D)).map iv:=by simp
 refine⟨p,q,h1,g1,F,g2,λK HK=>⟨?_,?_⟩⟩
 ·refine G _ _ rfl λF o2 f2 z2=>?_
  rw[s1]at o2;obtain⟨q',I,_,U⟩:=o2.at1 (k:=.i64) l2;rw[g1]at I;cases I;refine U _ _ rfl λG L f3 z3=>?_
  rw[s2]at L;exact HK G (fin G L (f2.trans f3)) (f2.trans f3)
 ·refine g3 _ _ rfl λF o2 f2 z2=>?_
  rw[s3]at o2;obtain⟨p',h1',_,W⟩:=o2.at1 (k:=.i64) l1;rw[h1]at h1';cases h1';refine W _ _ rfl λG L f3 z3=>?_
  rw[s4]at L;exact HK G (fin G L (f2.trans f3)) (f2.trans f3)
theorem tT (a b:Nat)(h:a+b≤9223372036854775807):IntKind.i64.wrap ((a:Int)+(b:Int))=((a+b:Nat):Int):=by rw[w64 ae ae];omega
theorem lE (a b:Nat)(h:b≤a)(A:a≤9223372036854775807):IntKind.i64.wrap ((a:Int)-(b:Int))=((a-b:Nat):Int):=by rw[w64 ae ae];omega
theorem rP (a:Nat)(h:a+1≤9223372036854775807):IntKind.i64.wrap ((a:Int)+1)=((a+1:Nat):Int):=by rw[w64 ae ae];omega
theorem GN (a:Nat)(h:1≤a)(A:a≤9223372036854775807):IntKind.i64.wrap ((a:Int)-1)=((a-1:Nat):Int):=by rw[w64 ae ae];omega
theorem Cb (C:JW v f P r n){h:ah}{A U M V D:List Nat}(H:dY v P n h (A++U++M++V++D)){a b k:Nat}(ha:a=A.length)(hb:b=A.length+U.length+M.length)(hU:U.length=k)(hV:V.length=k):
  ag prog de #[v,iv a,iv b,iv k,f] h λ_ h'=>dY v P n h' (A++V++M++U++D)∧Fr (blk v) h h':=by
 apply qg;unfold jm;have I:=H.small;simp only[cz]at I;refine bI k 0 (λi (_:Unit)=>[iv i]) (λi _ h'=>dY v P n h' (A++V.take i++(U.drop i++M++U.take i++(V.drop i++D)))∧Fr (blk v) h h') () rfl (b9 _) ⟨by simpa using H,Fr.refl _ _⟩ λi _ h1 again ρj _ hi ⟨F,W⟩ G=>?_
 try simp only[go_sem]
 refine ao (λh0=>?_) (λh0=>?_)
 ·have L:i<k:=ae;have dU:U.drop i=U[i]::U.drop (i+1):=zn ae;have dV:V.drop i=V[i]::V.drop (i+1):=zn ae;have tU:U.take (i+1)=U.take i++[U[i]]:=jU ae;have tV:V.take (i+1)=V.take i++[V[i]]:=jU ae;have H2:dY v P n h1 ((A++V.take i)++U[i]::((U.drop (i+1)++M++U.take i)++V[i]::(V.drop (i+1)++D))):=by
   rw[dU,dV]at F;simpa only[cg,mX,fG]using F
  obtain⟨p,q,e1,e2,e3,e4,st⟩:=H2.swap C (i:=a+i) (j:=b+i) (by rw[cz,db];omega) (by simp only[cz,db,iX];omega);refine aQ (λh'=>h'=h1) rfl ?_;rw[tT a i ae,tT b i ae];simp only[go_sem,e1,e2];refine aC (iv V[i]) (λh' e=>by rw[e];exact e4) ?_;refine aC (iv U[i]) (λh' e=>by rw[e];exact e3) ?_;refine(st _ λh3 H3 F3=>?_).1;rw[rP i ae];refine G () h3 L ⟨?_,W.trans F3⟩;rw[tU,tV];simpa only[cg,mX,fG]using H3
 ·have:i=k:=ae;subst this;rw[eS ae,eS ae,qs ae,qs ae]at F;exact⟨by simpa using F,W⟩
theorem ZO (C:JW v f P r n){h:ah}{A U V D:List Nat}(H:dY v P n h (A++U++V++D)){a m b:Nat}(ha:a=A.length)(hm:m=A.length+U.length)(hb:b=A.length+U.length+V.length)(hU:0<U.length)(hV:0<V.length):
  ag prog ic #[v,iv a,iv m,iv b,f] h λ_ h'=>dY v P n h' (A++V++U++D)∧Fr (blk v) h h':=by
 apply tP;unfold kE;have ad:=H.small;simp only[cz]at ad;simp only[gZ,ak];rw[lE m a ae ae,lE b m ae ae];refine dx (λd xs h'=>∃(P1 G F L:List Nat),d=G.length+F.length∧xs=[iv G.length,iv F.length]∧0<G.length∧0<F.length∧dY v P n h' (P1++G++F++L)∧Fr (blk v) h h'∧m=P1.length+G.length∧P1++F++G++L=A++V++U++D)
  (U.length+V.length) ⟨A,U,V,D,rfl,by rw[show m-a=U.length by omega,show b-m=V.length by omega],hU,hV,H,Fr.refl _ _,hm,rfl⟩ ?_
 rintro d xs ρj h1 again ⟨P1,G,F,L,rfl,rfl,u0,v0,H1,F1,an,hg⟩ aa;have ab:=H1.small;simp only[cz]at ab;simp only[iC,xC,yC,ak];by_cases al:G.length=F.length
 ·have e:((G.length:Int)=(F.length:Int))=True:=jx ae;simp only[go_sem,e];rw[lE m G.length ae ae];refine(Cb C (A:=P1) (U:=G) (M:=[]) (V:=F) (D:=L) (k:=G.length) (by simpa using H1) ae (by simp;omega) rfl al.symm).mono λw h2 ⟨H2,F2⟩=>?_
  refine⟨?_,F1.trans F2⟩;rw[←hg];simpa using H2
 ·have e:((G.length:Int)=(F.length:Int))=False:=fN ae;simp only[go_sem,e];refine ao (λh0=>?_) (λh0=>?_)
  ·rw[lE m G.length ae ae];have I:G=G.take F.length++G.drop F.length:=(lS _ _).symm;have W:(G.take F.length).length=F.length:=by rw[db];omega
   have l2:(G.drop F.length).length=G.length-F.length:=by rw[iX]
   refine(Cb C (A:=P1) (U:=G.take F.length) (M:=G.drop F.length) (V:=F) (D:=L) (k:=F.length) (by rw[cg P1,←I];exact H1) ae ae W rfl).mono λw h2 ⟨H2,F2⟩=>?_
   try simp only[go_sem]
   rw[lE G.length F.length ae ae];refine aa _ _ (G.length-F.length+F.length) ae ⟨P1++F,G.drop F.length,G.take F.length,L,by rw[W,l2],by rw[W,l2],ae,ae,by simpa using H2,F1.trans F2,by rw[cz];omega,?_⟩;rw[←hg];simp only[cg];rw[←cg (G.take _),←I]
  ·rw[lE m G.length ae ae,tT m F.length ae,lE (m+F.length) G.length ae ae];have I:F=F.take (F.length-G.length)++F.drop (F.length-G.length):=(lS _ _).symm;have W:(F.take (F.length-G.length)).length=F.length-G.length:=by rw[db];omega
   have l2:(F.drop (F.length-G.length)).length=G.length:=by rw[iX];omega
   refine(Cb C (A:=P1) (U:=G) (M:=F.take (F.length-G.length)) (V:=F.drop (F.length-G.length)) (D:=L) (k:=G.length) (by
    have e:P1++G++F.take (F.length-G.length)++F.drop (F.length-G.length)++L=P1++G++F++L:=by
     conv=>rhs;rw[I]
     simp only[cg]
    rw[e];exact H1) ae ae rfl l2).mono λw h2 ⟨H2,F2⟩=>?_
   try simp only[go_sem]
   rw[lE F.length G.length ae ae];refine aa _ _ (G.length+(F.length-G.length)) ae ⟨P1,F.drop (F.length-G.length),F.take (F.length-G.length),G++L,by rw[W,l2],by rw[W,l2],ae,ae,by simpa using H2,F1.trans F2,ae,?_⟩;rw[←hg];simp only[cg];rw[←cg (F.take _),←I]
end
end
section
theorem HI {i j:Nat}{K:Value→Prop}(h:i+j<9223372036854775808):(vK (aj .i .add (iv i) (iv j)) λD=>vK (gh .u64 D) λF=>vK (aj .i .shr F (.int .u64 1)) λA=>vK (gh .i64 A) K)=K (iv ((i+j)/2)):=by
 rw[dw,ak,tT i j ae,B9,ak,gd ae,show(1:Int)=((1:Nat):Int)from rfl,mA _ ae,ak,B9,ak,w64 ae ae]
section
variable {v f:Value}{P:ah→Prop}{r:Nat→Int}{n:Nat}
theorem rW {x y:Nat}(h:x<y):dt r y x↔r x<r y:=by unfold dt;omega
theorem UJ {D F:List Nat}{x:Nat}(A:(D++F).Pairwise (dt r))(h1:∀y∈D,dt r y x)(I:∀y∈F,dt r x y):(D++x::F).Pairwise (dt r):=by
 rw[qQ]at A ⊢;refine⟨A.1,Rz.2 ⟨I,A.2.1⟩,λy H z G=>?_⟩;rcases kw.1 G with rfl|G
 ·exact h1 y H
 ·exact A.2.2 y H z G
theorem XN {D:List Nat}{y x:Nat}(F:(D++[y]).Pairwise (dt r))(h:dt r y x):∀z∈D++[y],dt r z x:=by
 rw[qQ]at F;intro z A;rcases gX.1 A with A|A
 ·exact kT (F.2.2 z A y (by simp)) h
 ·rw[iy.1 A];exact h
theorem JR (C:JW v f P r n){h:ah}{A M D:List Nat}(H:dY v P n h (A++M++D)){a b:Nat}(ha:a=A.length)(hb:b=A.length+M.length)(ax:M.Pairwise (· < ·)):
  ag prog dp #[v,iv a,iv b,f] h λ_ h'=>∃M':List Nat,M'.Perm M∧M'.Pairwise (dt r)∧dY v P n h' (A++M'++D)∧Fr (blk v) h h':=by
 apply mQ;unfold gT;have a8:=H.small;simp only[cz]at a8;rw[dw,ak,rP a ae];refine bI (M.length-1) 0 (λk (_:Unit)=>[iv (a+1+k)]) (λk _ h'=>∃S:List Nat,S.Perm (M.take (k+1))∧S.Pairwise (dt r)∧dY v P n h' (A++S++M.drop (k+1)++D)∧Fr (blk v) h h') () rfl (b9 _)
  ⟨M.take 1,GW _,?_,by rw[cg A,lS];exact H,Fr.refl _ _⟩ λk _ h1 again ρj _ hk ⟨S,hp,hs,H1,F1⟩ a7=>?_
 ·cases M with
  |nil=>simp
  |cons x M=>simp
 simp only[iC,cD,ak];refine ao (λh0=>?_) (λh0=>?_)
 ·have I:k+1<M.length:=ae;have dM:M.drop (k+1)=M[k+1]::M.drop (k+1+1):=zn I;have tM:M.take (k+1+1)=M.take (k+1)++[M[k+1]]:=jU I;have au:S.length=k+1:=by rw[hp.length_eq,db];omega
  have ay:∀y∈S,y<M[k+1]:=λy hy=>by
   have:=hp.mem_iff.1 hy;obtain⟨i,hi,rfl⟩:=oC.1 this;rw[db]at hi;rw[um];exact ub.1 ax i (k+1) ae I ae
  generalize M[k+1]=x at*;refine dx (λd xs h'=>∃F G:List Nat,d=F.length∧xs=[iv (a+F.length)]∧S=F++G∧(∀y∈G,dt r x y)∧dY v P n h' (A++F++x::(G++M.drop (k+1+1)++D))∧Fr (blk v) h h') S.length
   ⟨S,[],rfl,by rw[au];congr 2;omega,by simp,by simp,by rw[dM]at H1;simpa only[cg,mX,fG]using H1,F1⟩ ?_
  rintro d xs ρj2 L ar ⟨F,G,rfl,rfl,rfl,hx,W,F2⟩ ad;simp only[iC,oJ,ak];have kl:(∀y∈F,dt r y x)→dY v P n L (A++F++x::(G++M.drop (k+1+1)++D))→Fr (blk v) h L→again [af (IntKind.i64.wrap (((a+1+k:Nat):Int)+1))] L:=by
   intro g1 g2 g3;rw[rP (a+1+k) ae,show a+1+k+1=a+1+(k+1)by omega];refine a7 () L ae ⟨F++x::G,?_,UJ hs g1 hx,by simpa only[cg,mX,fG]using g2,g3⟩;rw[tM];exact Ry.trans ((List.Perm.cons _ hp).trans (GX (l₁:=[x])))
  refine aQ (λh'=>h'=L) rfl ?_;rcases List.eq_nil_or_concat F with rfl|⟨F,y,rfl⟩
  ·have e:((a:Int)<((a+([]:List Nat).length:Nat):Int))=False:=fN (by simp);simp only[go_sem,e];refine aC undef (λ_ _=>rfl) ?_;refine aC undef (λ_ _=>rfl) ?_
   try simp only[go_sem]
   exact kl (by simp) W F2
  ·have an:(F.concat y).length=F.length+1:=by simp
   have ab:y<x:=ay y (by simp);have al:=W.small;simp only[cz,oD,an]at al;have H3:dY v P n L ((A++F)++y::([]++x::(G++M.drop (k+1+1)++D))):=by
    simpa only[KK,cg,mX,fG]using W
   obtain⟨p,q,e1,e2,e3,e4,st⟩:=H3.swap C (i:=a+F.length) (j:=a+(F.length+1)) (by rw[cz];omega) (by rw[cz,kS];omega);have e:((a:Int)<((a+(F.length+1):Nat):Int))=True:=jx ae;have es:IntKind.i64.wrap (((a+(F.length+1):Nat):Int)-1)=((a+F.length:Nat):Int):=by rw[GN _ ae ae];congr 1
   simp only[go_sem,e,an,es,e1,e2];refine aC (iv x) (λh' e=>by rw[e];exact e4) ?_;refine aC (iv y) (λh' e=>by rw[e];exact e3) ?_;refine C.call W.ok (W.below x (by simp)) (W.below y (by simp)) λc hc=>?_
   simp only[go_sem];have aw:(F++[y]).Pairwise (dt r):=by
    have:=(qQ.1 hs).1;simpa only[KK]using this
   refine ao (λU=>?_) (λU=>?_)
   ·refine aQ (λh'=>h'=L) rfl ?_
    try simp only[go_sem,e1,e2]
    refine aC (iv y) (λh' e=>by rw[e];exact e3) ?_;refine aC (iv x) (λh' e=>by rw[e];exact e4) ?_;refine(st _ λh3 H4 F3=>?_).2;refine ad _ h3 F.length ae ⟨F,y::G,rfl,rfl,by simp[KK],λz hz=>?_,by simpa only[cg,mX,fG]using H4,F2.trans F3⟩;rcases kw.1 hz with rfl|hz
    ·exact(rW ab).2 (hc.1 U)
    ·exact hx z hz
   ·refine kl ?_ W F2;have hl:dt r y x:=by
     have:¬dt r x y:=λg=>U (hc.2 ((rW ab).1 g))
     exact(kU r (show y≠x by omega)).resolve_right this
    have:=XN aw hl;simpa only[KK]using this
 ·have aa:M.length≤k+1:=ae;refine⟨S,?_,hs,?_,F1⟩
  ·rw[eS aa]at hp;exact hp
  ·rw[qs aa]at H1;simpa using H1
theorem Nl (C:JW v f P r n):∀(N:Nat) {h:ah} {A L R D:List Nat} (H:dY v P n h (A++L++R++D)) {a m b:Nat} (ha:a=A.length) (hm:m=A.length+L.length) (hb:b=A.length+L.length+R.length)
  (hL:0<L.length) (hR:0<R.length) (sL:L.Pairwise (dt r)) (sR:R.Pairwise (dt r)) (al:∀x∈L,∀y∈R,x<y) (hN:L.length+R.length≤N),
  ag prog bU #[v,iv a,iv m,iv b,f] h λ_ h'=>∃S:List Nat,S.Perm (L++R)∧S.Pairwise (dt r)∧dY v P n h' (A++S++D)∧Fr (blk v) h h':=by
 intro N;induction N with
 |zero=>intro h A L R D H a m b ha hm hb hL hR sL sR al hN;omega
 |succ N ih=>
 intro h A L R D H a m b ha hm hb hL hR sL sR al hN;apply rM;unfold jK;have c8:=H.small;simp only[cz]at c8
 -- elements of the two parts
 have bk:∀{h':ah},dY v P n h' (A++L++R++D)→∀k (hk:k<L.length),∃p,bh 1 v (iv (a+k))=some p∧ldV h' p=some (iv L[k])∧L[k]<n:=λH' k hk=>by
  obtain⟨p,W,e2⟩:=H'.at (i:=a+k) (by simp only[cz];omega);have e:(A++L++R++D)[a+k]'(by simp only[cz];omega)=L[k]:=by
   apply sN;rw[←iY,cg,cg,tZ ae,show a+k-A.length=k by omega,uh hk,iY hk]
  exact⟨p,W,by rw[e2,e],H'.below _ (by simp[cO])⟩
 have ay:∀{h':ah},dY v P n h' (A++L++R++D)→∀k (hk:k<R.length),∃p,bh 1 v (iv (m+k))=some p∧ldV h' p=some (iv R[k])∧R[k]<n:=λH' k hk=>by
  obtain⟨p,W,e2⟩:=H'.at (i:=m+k) (by simp only[cz];omega);have e:(A++L++R++D)[m+k]'(by simp only[cz];omega)=R[k]:=by
   apply sN;rw[←iY,cg,tZ (by simp only[cz];omega),cz,show m+k-(A.length+L.length)=k by omega,uh hk,iY hk]
  exact⟨p,W,by rw[e2,e],H'.below _ (by simp[cO])⟩
 simp only[gZ,vJ,ak];rw[lE m a ae ae,lE b m ae ae];refine ao (λh1=>?_) (λh1=>?_)
 ·-- one on the left
  have c7:L.length=1:=ae;obtain⟨x,rfl⟩:=Rx.1 c7;refine dx (λd xs h'=>h'=h∧∃i j:Nat,d=j-i∧xs=[iv (m+i),iv (m+j)]∧i≤j∧j≤R.length∧(∀h0:0<i,∀hi:i-1<R.length,dt r R[i-1] x)∧(∀hj:j<R.length,¬dt r R[j] x)) R.length
   ⟨rfl,0,R.length,rfl,by rw[show b=m+R.length by omega];rfl,ae,cq _,ae,ae⟩ ?_
  rintro d xs ρj h' again ⟨hh,i,j,rfl,rfl,bv,hj,c1,c2⟩ au;subst hh;simp only[iC,xC,cD,ak];refine ao (λI=>?_) (λI=>?_)
  ·rw[HI ae,show(m+i+(m+j))/2=m+(i+j)/2 by omega];have hk:(i+j)/2<R.length:=ae;obtain⟨p,W,e2,b1⟩:=ay H ((i+j)/2) hk;obtain⟨q,g1,g2,b2⟩:=bk H 0 ae;simp only[iA,CW]at g1 g2 b2;refine aQ (λI=>I=h') rfl ?_;simp only[W,g1,ak];refine aC _ (λI e=>by rw[e];exact e2) ?_;refine aC _ (λI e=>by rw[e];exact g2) ?_;refine C.call H.ok b1 b2 λc hc=>?_
   have ar:x<R[(i+j)/2]:=al x (by simp) _ (cO _)
   try simp only[go_sem]
   refine ao (λG=>?_) (λG=>?_)
   ·rw[rP _ ae];refine au _ _ (j-((i+j)/2+1)) ae ⟨rfl,(i+j)/2+1,j,rfl,rfl,ae,hj,λ_ _=>?_,c2⟩;exact(rW ar).2 (hc.1 G)
   ·refine au _ _ ((i+j)/2-i) ae ⟨rfl,i,(i+j)/2,rfl,rfl,ae,ae,c1,λ_ g=>G (hc.2 ((rW ar).1 g))⟩
  ·have an:i=j:=ae;subst an
   -- it goes to its place
   refine bI i 0 (λc (_:Unit)=>[iv (a+c)]) (λc _ I=>dY v P n I (A++R.take c++x::(R.drop c++D))∧Fr (blk v) h' I) () rfl (b9 _) ⟨by simpa using H,Fr.refl _ _⟩ λc _ I a7 ρj2 _ hc ⟨H2,F2⟩ ax=>?_
   simp only[iC,gZ,cD,ak];rw[GN _ ae ae];have lA:A.length+[x].length=A.length+1:=rfl;refine ao (λG=>?_) (λG=>?_)
   ·have c4:c<i:=ae;have dR:R.drop c=R[c]::R.drop (c+1):=zn ae;have tR:R.take (c+1)=R.take c++[R[c]]:=jU ae;have H3:dY v P n I ((A++R.take c)++x::([]++R[c]::(R.drop (c+1)++D))):=by
     rw[dR]at H2;simpa only[cg,mX,fG]using H2
    obtain⟨p,q,W,e2,e3,e4,st⟩:=H3.swap C (i:=a+c) (j:=a+c+1) (by rw[cz,db];omega) (by rw[cz,db,kS];omega);refine aQ (λG=>G=I) rfl ?_;rw[dw,ak,rP _ ae];simp only[go_sem,W,e2];refine aC _ (λG e=>by rw[e];exact e4) ?_;refine aC _ (λG e=>by rw[e];exact e3) ?_;refine(st _ λG H4 F3=>?_).1
    try rw[rP _ ae]
    refine ax () G c4 ⟨?_,F2.trans F3⟩;rw[tR];simpa only[cg,mX,fG]using H4
   ·have:c=i:=ae;subst this;refine⟨R.take c++x::R.drop c,?_,?_,by simpa only[cg,mX,fG]using H2,F2⟩
    ·refine Ry.trans ?_;rw[lS];exact GW _
    ·refine UJ (by rw[lS];exact sR) (λy hy=>?_) (λy hy=>?_)
     ·obtain⟨k,hk,rfl⟩:=oC.1 hy;rw[db]at hk;rw[um];exact CF (lt:=dt r) kT sR (i:=k) (j:=c-1) ae ae (c1 ae ae)
     ·obtain⟨k,hk,rfl⟩:=oC.1 hy;rw[iX]at hk;rw[xa];have hx:dt r x R[c]:=(kU r (show x≠R[c]by have:=al x (by simp) _ (cO (l:=R) (n:=c) ae);omega)).resolve_right (c2 ae);exact CG (lt:=dt r) kT sR (i:=c) (j:=c+k) ae ae hx
 refine ao (λI=>?_) (λI=>?_)
 ·-- one on the right
  have c3:R.length=1:=ae;obtain⟨y,rfl⟩:=Rx.1 c3;refine dx (λd xs h'=>h'=h∧∃i j:Nat,d=j-i∧xs=[iv (a+i),iv (a+j)]∧i≤j∧j≤L.length∧(∀h0:0<i,∀hi:i-1<L.length,dt r L[i-1] y)∧(∀hj:j<L.length,¬dt r L[j] y)) L.length
   ⟨rfl,0,L.length,rfl,by rw[show m=a+L.length by omega];rfl,ae,cq _,ae,ae⟩ ?_
  rintro d xs ρj h' again ⟨hh,i,j,rfl,rfl,bv,hj,c1,c2⟩ au;subst hh;simp only[iC,xC,cD,ak];refine ao (λG=>?_) (λG=>?_)
  ·rw[HI ae,show(a+i+(a+j))/2=a+(i+j)/2 by omega];have hk:(i+j)/2<L.length:=ae;obtain⟨p,W,e2,b1⟩:=bk H ((i+j)/2) hk;obtain⟨q,g1,g2,b2⟩:=ay H 0 (by simp);simp only[iA,CW]at g1 g2 b2;refine aQ (λI=>I=h') rfl ?_;simp only[W,g1,ak];refine aC _ (λI e=>by rw[e];exact g2) ?_;refine aC _ (λI e=>by rw[e];exact e2) ?_;refine C.call H.ok b2 b1 λc hc=>?_
   have ar:L[(i+j)/2]<y:=al _ (cO _) y (by simp);simp only[go_sem];refine ao (λU=>?_) (λU=>?_)
   ·rw[rP _ ae];refine au _ _ (j-((i+j)/2+1)) ae ⟨rfl,(i+j)/2+1,j,rfl,rfl,ae,hj,λ_ _=>?_,c2⟩;have e:(i+j)/2+1-1=(i+j)/2:=ae;simp only[e];exact(kU r ae).resolve_right λg=>U (hc.2 ((rW ar).1 g))
   ·refine au _ _ ((i+j)/2-i) ae ⟨rfl,i,(i+j)/2,rfl,rfl,ae,ae,c1,λ_ g=>?_⟩;exact MM g ((rW ar).2 (hc.1 (cf U)))
  ·have an:i=j:=ae;subst an;refine dx (λd xs I=>∃c:Nat,d=c∧xs=[iv (a+c)]∧i≤c∧c≤L.length∧dY v P n I (A++L.take c++y::(L.drop c++D))∧Fr (blk v) h' I) L.length
    ⟨L.length,rfl,by rw[show m=a+L.length by omega],hj,cq _,by rw[eS (cq _),qs (cq _)];simpa using H,Fr.refl _ _⟩ ?_
   rintro d xs ρj2 I a7 ⟨c,a9,rfl,eb,ea,H2,F2⟩ ax;have a9:=a9.symm;subst a9;simp only[iC,oJ,ak];refine ao (λU=>?_) (λU=>?_)
   ·obtain⟨c,rfl⟩:∃e,c=e+1:=⟨c-1,ae⟩
    have dL:L.drop c=L[c]::L.drop (c+1):=zn ae;have tL:L.take (c+1)=L.take c++[L[c]]:=jU ae;have H3:dY v P n I ((A++L.take c)++L[c]::([]++y::(L.drop (c+1)++D))):=by
     rw[tL]at H2;simpa only[cg,mX,fG]using H2
    obtain⟨p,q,W,e2,e3,e4,st⟩:=H3.swap C (i:=a+c) (j:=a+(c+1)) (by rw[cz,db];omega) (by rw[cz,db,kS];omega);have es:IntKind.i64.wrap (((a+(c+1):Nat):Int)-1)=((a+c:Nat):Int):=by rw[GN _ ae ae];congr 1
    refine aQ (λG=>G=I) rfl ?_;simp only[go_sem,es,W,e2];refine aC _ (λG e=>by rw[e];exact e3) ?_;refine aC _ (λG e=>by rw[e];exact e4) ?_;refine(st _ λG H4 F3=>?_).2;refine ax _ G c ae ⟨c,rfl,rfl,ae,ae,?_,F2.trans F3⟩;rw[dL];simpa only[cg,mX,fG]using H4
   ·have:c=i:=ae;subst this;refine⟨L.take c++y::L.drop c,?_,?_,by simpa only[cg,mX,fG]using H2,F2⟩
    ·refine Ry.trans ?_;rw[lS];exact GX (l₁:=[y])
    ·refine UJ (by rw[lS];exact sL) (λz hz=>?_) (λz hz=>?_)
     ·obtain⟨k,hk,rfl⟩:=oC.1 hz;rw[db]at hk;rw[um];exact CF (lt:=dt r) kT sL (i:=k) (j:=c-1) ae ae (c1 ae ae)
     ·obtain⟨k,hk,rfl⟩:=oC.1 hz;rw[iX]at hk;rw[xa];have hx:dt r y L[c]:=(kU r (show y≠L[c]by have:=al _ (cO (l:=L) (n:=c) ae) y (by simp);omega)).resolve_right (c2 ae);exact CG (lt:=dt r) kT sL (i:=c) (j:=c+k) ae ae hx
 -- cut in the middle
 rw[HI ae];obtain⟨F,b6⟩:∃F,F=(a+b)/2:=⟨_,rfl⟩
 rw[←b6,dw,ak,tT F m ae];obtain⟨s0,bg⟩:∃s0,s0=if F<m then F+m-b else a:=⟨_,rfl⟩
 obtain⟨r0,bd⟩:∃r0,r0=if F<m then F else m:=⟨_,rfl⟩
 have ab:(F<m→s0=F+m-b)∧(¬F<m→s0=a):=⟨λh=>by rw[bg,aA h],λh=>by rw[bg,az h]⟩
 have aa:(F<m→r0=F)∧(¬F<m→r0=m):=⟨λh=>by rw[bd,aA h],λh=>by rw[bd,az h]⟩
 clear bg bd
 refine bB (λxs h'=>h'=h∧xs=[iv s0,iv r0]) ?_ ?_
 ·rw[oJ,ak];refine ao (λG=>?_) (λG=>?_)
  ·rw[gZ,ak,lE (F+m) b ae ae];exact⟨rfl,by rw[ab.1 ae,aa.1 ae]⟩
  ·exact⟨rfl,by rw[ab.2 ae,aa.2 ae]⟩
 rintro xs ρj h' ⟨hh,rfl⟩;subst hh;simp only[iC,xC];rw[gZ,ak,GN (F+m) ae ae];have cu:a≤s0∧s0≤r0∧r0≤m∧r0≤F∧F+m-b≤s0:=by
  by_cases G:F<m
  ·have W:=ab.1 G;have e2:=aa.1 G;omega
  ·have W:=ab.2 G;have e2:=aa.2 G;omega
 -- which ones come ahead
 have bc:∀c:Nat,s0≤c→c<r0→∃(h1:c-a<L.length) (I:F-1-c<R.length),∃p q,bh 1 v (iv c)=some p∧ldV h' p=some (iv L[c-a])∧bh 1 v (iv (F+m-1-c))=some q∧ldV h' q=some (iv R[F-1-c])∧L[c-a]<n∧R[F-1-c]<n:=by
  intro c h1 I;have l1:c-a<L.length:=ae;have l2:F-1-c<R.length:=ae;obtain⟨p,W,e2,b1⟩:=bk H (c-a) l1;obtain⟨q,g1,g2,b2⟩:=ay H (F-1-c) l2;rw[show a+(c-a)=c by omega]at W;rw[show m+(F-1-c)=F+m-1-c by omega]at g1;exact⟨l1,l2,p,q,W,e2,g1,g2,b1,b2⟩
 refine dx (λd xs I=>I=h'∧∃i j:Nat,d=j-i∧xs=[iv i,iv j]∧s0≤i∧i≤j∧j≤r0∧(∀h0:s0<i,∀(g1:i-1-a<L.length) (g2:F-i<R.length),dt r L[i-1-a] R[F-i])∧(j<r0→∀(g1:j-a<L.length) (g2:F-1-j<R.length),dt r R[F-1-j] L[j-a])) (r0-s0)
  ⟨rfl,s0,r0,rfl,rfl,cq _,cu.2.1,cq _,ae,ae⟩ ?_
 rintro d xs ρj2 I again ⟨hh,i,j,rfl,rfl,c9,bv,ct,c1,c2⟩ au;subst hh;simp only[iC,xC,cD,ak];refine ao (λG=>?_) (λG=>?_)
 ·rw[HI ae];obtain⟨l1,l2,p,q,W,e2,g1,g2,b1,b2⟩:=bc ((i+j)/2) ae ae;obtain⟨c,hc⟩:∃c,c=(i+j)/2:=⟨_,rfl⟩
  simp only[←hc]at l1 l2 W e2 g1 g2 b1 b2 ⊢;have ar:L[c-a]<R[F-1-c]:=al _ (cO _) _ (cO _);refine aQ (λU=>U=I) rfl ?_;simp only[gZ,ak];rw[lE (F+m-1) c ae ae];simp only[W,g1,ak];refine aC _ (λG e=>by rw[e];exact g2) ?_;refine aC _ (λG e=>by rw[e];exact e2) ?_;refine C.call H.ok b2 b1 λw hw=>?_
  simp only[go_sem];refine ao (λU=>?_) (λU=>?_)
  ·rw[rP _ ae];refine au _ _ (j-(c+1)) ae ⟨rfl,c+1,j,rfl,rfl,ae,ae,ct,λ_ _ _=>?_,c2⟩;have:dt r L[c-a] R[F-1-c]:=(kU r ae).resolve_right λg=>U (hw.2 ((rW ar).1 g))
   have e:F-(c+1)=F-1-c:=ae;simp only[e,zj];exact this
  ·refine au _ _ (c-i) ae ⟨rfl,i,c,rfl,rfl,c9,ae,ae,c1,λ_ _ _=>(rW ar).2 (hw.1 (cf U))⟩
 -- turned round
 have an:i=j:=ae;subst an;obtain⟨p,hp⟩:∃p,p=i-a:=⟨_,rfl⟩
 obtain⟨q,hq⟩:∃q,q=F-i:=⟨_,rfl⟩
 have cp:p≤L.length:=ae;have c0:q≤R.length:=ae;have x1:∀(g1:0<p) (g2:q<R.length),dt r (L[p-1]'ae) R[q]:=λg1 g2=>by
  have hs:s0<i:=by
   by_cases U:F<m
   ·have:=ab.1 U;omega
   ·have:=ab.2 U;omega
  have:=c1 hs ae ae;have W:i-1-a=p-1:=ae;simp only[W,←hq]at this;exact this
 have x2:∀(g1:0<q) (g2:p<L.length),dt r (R[q-1]'ae) L[p]:=λg1 g2=>by
  have hs:i<r0:=by
   by_cases U:F<m
   ·have:=aa.1 U;omega
   ·have:=aa.2 U;omega
  have:=c2 hs ae ae;have W:F-1-i=q-1:=ae;simp only[W,←hp]at this;exact this
 have dl:=cross (lt:=dt r) kT sL sR cp c0 x1 x2;have lp:(L.take p).length=p:=by rw[db];omega
 have lq:(R.take q).length=q:=by rw[db];omega
 have ld:(L.drop p).length=L.length-p:=by rw[iX]
 have lr:(R.drop q).length=R.length-q:=by rw[iX]
 have eL:L=L.take p++L.drop p:=(lS _ _).symm;have eR:R=R.take q++R.drop q:=(lS _ _).symm;have H0:dY v P n I ((A++L.take p)++L.drop p++R.take q++(R.drop q++D)):=by
  have e:(A++L.take p)++L.drop p++R.take q++(R.drop q++D)=A++L++R++D:=by
   conv=>rhs;rw[eL,eR]
   simp only[cg]
  rw[e];exact H
 rw[gZ,ak,lE (F+m) i ae ae];refine bB (λ_ G=>dY v P n G (A++L.take p++R.take q++(L.drop p++R.drop q++D))∧Fr (blk v) I G) ?_ ?_
 ·simp only[go_sem];refine ao (λU=>?_) (λU=>?_)
  ·refine(ZO C H0 (a:=i) (m:=m) (b:=F+m-i) (by rw[cz];omega) (by rw[cz];omega) (by rw[cz];omega) ae ae).mono λw G ⟨H3,F3⟩=>?_
   exact⟨by simpa only[cg]using H3,F3⟩
  ·refine⟨?_,Fr.refl _ _⟩;by_cases h5:p=L.length
   ·rw[qs (show L.length≤p by omega)]at H0 ⊢;simpa only[cg,gM,fG]using H0
   ·have:q=0:=ae;subst this;simpa only[cg,KJ,gM,fG]using H0
 rintro xs ρj3 G ⟨H3,F3⟩
 -- the two halves
 have b3:∀x∈L.take p,∀y∈R.take q,x<y:=λx hx y hy=>al x (CT hx) y (CT hy)
 have ca:∀x∈L.drop p,∀y∈R.drop q,x<y:=λx hx y hy=>al x (Rw hx) y (Rw hy)
 have b4:=sL.sublist (List.take_sublist p L);have b5:=sL.sublist (List.drop_sublist p L);have cb:=sR.sublist (List.take_sublist q R);have b7:=sR.sublist (List.drop_sublist q R);have ad:∀(S1:List Nat) (U:ah),S1.Perm (L.take p++R.take q)→S1.Pairwise (dt r)→dY v P n U (A++S1++(L.drop p++R.drop q++D))→Fr (blk v) I U→
   vK (aj .i .lss (iv F) (iv (F+m-i))) λaw=>vK (gV aw true (some (iv (F+m-i)))) λb8=>vK (gV aw true (some (iv b))) λcc=>vK (gV aw true (aj .i .lss b8 cc)) λbo=>vK (aE aw bo (.bool false)) λb0=>
    aF b0 (ag prog bU #[v,iv F,iv (F+m-i),iv b,f] U λdq a8=>∃S:List Nat,S.Perm (L++R)∧S.Pairwise (dt r)∧dY v P n a8 (A++S++D)∧Fr (blk v) I a8)
     (∃S:List Nat,S.Perm (L++R)∧S.Pairwise (dt r)∧dY v P n U (A++S++D)∧Fr (blk v) I U):=by
  intro S1 U ci cr H4 F4;have ec:S1.length=p+q:=by rw[ci.length_eq,cz];omega
  have fin:∀(S2:List Nat) (h5:ah),S2.Perm (L.drop p++R.drop q)→S2.Pairwise (dt r)→dY v P n h5 (A++S1++S2++D)→Fr (blk v) I h5→∃S:List Nat,S.Perm (L++R)∧S.Pairwise (dt r)∧dY v P n h5 (A++S++D)∧Fr (blk v) I h5:=by
   intro S2 h5 c6 cw H5 F5;obtain⟨m1,m2⟩:=zct (lt:=dt r) dl ci c6 cr cw;exact⟨S1++S2,m1,m2,by simpa only[cg]using H5,F5⟩
  simp only[go_sem];refine ao (λh6=>?_) (λh6=>?_)
  ·refine(ih (A:=A++S1) (L:=L.drop p) (R:=R.drop q) (D:=D) (by simpa only[cg]using H4) (by rw[cz];omega) (by rw[cz];omega) (by rw[cz];omega) ae ae b5 b7 ca ae).mono λw h5 ⟨S2,g1,g2,g3,g4⟩=>?_
   exact fin S2 h5 g1 g2 g3 (F4.trans g4)
  ·by_cases h7:L.length≤p
   ·rw[qs h7]at H4 fin;exact fin (R.drop q) U (by simp) b7 (by simpa only[cg,fG]using H4) F4
   ·have h8:R.length≤q:=ae;rw[qs h8]at H4 fin;exact fin (L.drop p) U (by simp) b5 (by simpa only[cg,gM,fG]using H4) F4
 simp only[cD,ak];by_cases U:a<i∧i<F
 ·have W:((a:Int)<(i:Int))=True:=jx ae;have e2:((i:Int)<(F:Int))=True:=jx ae;simp only[go_sem,W,e2];refine(ih (A:=A) (L:=L.take p) (R:=R.take q) (D:=L.drop p++R.drop q++D) H3 ae ae ae ae ae b4 cb b3 ae).mono λw h5 ⟨S1,g1,g2,g3,g4⟩=>?_
  have:=ad S1 h5 g1 g2 g3 (F3.trans g4);simp only[go_sem]at this ⊢;exact this
 ·have W:((a:Int)<(i:Int)∧(i:Int)<(F:Int))=False:=fN ae;simp only[go_sem,W];by_cases h5:p=0
  ·subst h5;have:=ad (R.take q) G (by simp) cb (by simpa only[cg,KJ,gM,fG]using H3) F3;simp only[go_sem]at this ⊢;exact this
  ·have be:q=0:=ae;have dz:=be;have:=ad (L.take p) G (by rw[be];simp) b4 (by rw[be]at H3 ⊢;simpa only[cg,KJ,gM,fG]using H3) F3;simp only[go_sem]at this ⊢;exact this
end
end
section
def Srt (r:Nat→Int)(lo:Nat)(S:List Nat):Prop:=S.Perm (List.range' lo S.length)∧S.Pairwise (dt r)
theorem Srt.mem {r:Nat→Int}{lo:Nat}{S:List Nat}(H:Srt r lo S){x:Nat}(A:x∈S):lo≤x∧x<lo+S.length:=by
 have:=H.1.mem_iff.1 A;simpa using this
theorem Srt.join {r:Nat→Int}{lo:Nat}{A D S:List Nat}(h1:Srt r lo A)(G:Srt r (lo+A.length) D)(F:S.Perm (A++D))(H:S.Pairwise (dt r)):Srt r lo S:=by
 refine⟨?_,H⟩;have I:S.length=A.length+D.length:=by rw[F.length_eq,cz]
 refine F.trans ((h1.1.append G.1).trans ?_);rw[I,Wh]
inductive BS (r:Nat→Int)(B:Nat):Nat→List Nat→Prop
 |nil (lo:Nat):BS r B lo []
 |last (lo:Nat) (S:List Nat):0<S.length→S.length≤B→Srt r lo S→BS r B lo S
 |cons (lo:Nat) (S T:List Nat):S.length=B→Srt r lo S→BS r B (lo+B) T→BS r B lo (S++T)
theorem BS.one {r:Nat→Int}{B lo:Nat}{Y:List Nat}(F:0<B)(H:BS r B lo Y)(D:B≤Y.length):∃S T,Y=S++T∧S.length=B∧Srt r lo S∧BS r B (lo+B) T:=by
 cases H
 ·simp at D;omega
 ·rename_i h0 h1 A;exact⟨Y,[],by simp,ae,A,.nil _⟩
 ·rename_i S T h0 h1 A;exact⟨S,T,rfl,h0,h1,A⟩
theorem BS.short {r:Nat→Int}{B lo:Nat}{Y:List Nat}(F:0<B)(H:BS r B lo Y)(D:Y.length≤B)(h0:0<Y.length):Srt r lo Y:=by
 cases H
 ·simp at h0
 ·rename_i h0 h1 A;exact A
 ·rename_i S T G h1 A;have:T=[]:=mW (by simp at D;omega);subst this;simpa using h1
section
variable {v f:Value}{P:ah→Prop}{r:Nat→Int}{n:Nat}
theorem ZM (C:JW v f P r n){h:ah}{N:Nat}(H:dY v P n h (List.range' 0 N))(hN:N≤1048576):
  ag prog ib #[v,iv N,f] h λ_ h'=>∃S:List Nat,S.Perm (List.range N)∧S.Pairwise (dt r)∧dY v P n h' S∧Fr (blk v) h h':=by
 apply tO;unfold kD;refine dx (λd xs h'=>∃(X:List Nat),d=N-X.length∧xs=[iv X.length,iv (X.length+20)]∧X.length≤N∧(∀T,BS r 20 X.length T→BS r 20 0 (X++T))∧dY v P n h' (X++List.range' X.length (N-X.length))∧Fr (blk v) h h') N
  ⟨[],rfl,rfl,b9 _,λT h=>h,by simpa using H,Fr.refl _ _⟩ ?_
 rintro d xs ρj h1 again ⟨X,rfl,rfl,hX,hT,H1,F1⟩ a7;simp only[iC,xC,NI,ak];refine ao (λh0=>?_) (λh0=>?_)
 ·have er:List.range' X.length (N-X.length)=List.range' X.length 20++List.range' (X.length+20) (N-(X.length+20)):=by
   rw[Wh];congr 1;omega
  have H2:dY v P n h1 (X++List.range' X.length 20++List.range' (X.length+20) (N-(X.length+20))):=by rw[er]at H1;simpa only[cg]using H1
  refine(JR C H2 (a:=X.length) (b:=X.length+20) rfl (by simp) Wg).mono λw h2 ⟨M',hp,hs,H3,F2⟩=>?_
  have hM:M'.length=20:=by rw[hp.length_eq];simp
  have W:(X++M').length=X.length+20:=by rw[cz,hM]
  rw[dw,ak,show(20:Int)=((20:Nat):Int)from rfl,tT _ _ ae];refine a7 _ h2 (N-(X++M').length) ae ⟨X++M',rfl,by rw[W],ae,λT F=>?_,by rw[W];exact H3,F1.trans F2⟩;rw[W]at F;rw[cg];exact hT _ (.cons _ M' T hM ⟨by rw[hM];exact hp,hs⟩ F)
 ·refine(JR C (A:=X) (M:=List.range' X.length (N-X.length)) (D:=[]) (by simpa using H1) (a:=X.length) (b:=N) rfl (by simp;omega) Wg).mono λw h2 ⟨M',hp,hs,H3,F2⟩=>?_
  have hM:M'.length=N-X.length:=by rw[hp.length_eq];simp
  rw[gM]at H3;have ax:BS r 20 0 (X++M'):=by
   refine hT _ ?_;rcases w9 M'.length with h3|h3
   ·rw[mW h3];exact .nil _
   ·exact .last _ _ h3 ae ⟨by rw[hM];exact hp,hs⟩
  have ar:(X++M').length=N:=by rw[cz];omega
  generalize X++M'=Y0 at*
  -- blocks that grow
  refine dx (λd xs h'=>∃(B:Nat) (Y:List Nat),d=N-B∧xs=[iv B]∧0<B∧B≤2097152∧Y.length=N∧BS r B 0 Y∧dY v P n h' Y∧Fr (blk v) h h') (N-20)
   ⟨20,Y0,rfl,rfl,ae,ae,ar,ax,H3,F1.trans F2⟩ ?_
  rintro d xs ρj2 h3 U ⟨B,Y,rfl,rfl,hB,a8,ad,hY,H4,F3⟩ an;simp only[iC,cD,ak];refine ao (λh4=>?_) (λh4=>?_)
  ·rw [mq,ak,show(2:Int)*(B:Int)=((2*B:Nat):Int)by omega,w64 (n:=((2*B:Nat):Int)) ae ae];refine dx (λd xs h'=>∃(X Z:List Nat),d=Z.length∧xs=[iv X.length,iv (X.length+2*B)]∧X.length+Z.length=N∧(∀T,BS r (2*B) X.length T→BS r (2*B) 0 (X++T))∧BS r B X.length Z∧dY v P n h' (X++Z)∧Fr (blk v) h h') N
    ⟨[],Y,ad.symm,by simp,by simpa using ad,λT h=>h,hY,H4,F3⟩ ?_
   rintro d xs ρj3 h5 aw ⟨X,Z,rfl,rfl,aa,al,hZ,H5,F5⟩ au;simp only[iC,xC,NI,ak];refine ao (λh6=>?_) (λh6=>?_)
   ·obtain⟨S1,T1,rfl,l1,s1,b1⟩:=hZ.one hB ae;rw[cz]at aa;obtain⟨S2,T2,rfl,l2,s2,b2⟩:=b1.one hB ae;rw[cz]at aa;rw[dw,ak,tT _ _ ae];refine(Nl C (S1.length+S2.length) (A:=X) (L:=S1) (R:=S2) (D:=T2) (by simpa only[cg]using H5) (a:=X.length) (m:=X.length+B) (b:=X.length+2*B) rfl ae ae ae ae s1.2 s2.2 (λx hx y hy=>by
     have:=s1.mem hx;have:=s2.mem hy;omega) (cq _)).mono λw h7 ⟨S,G,ab,H7,F7⟩=>?_
    have hS:S.length=2*B:=by rw[G.length_eq,cz];omega
    have W:(X++S).length=X.length+2*B:=by rw[cz,hS]
    rw[dw,ak,tT _ _ ae];refine au _ h7 T2.length (by simp;omega) ⟨X++S,T2,rfl,by rw[W],by rw[W];omega,λT F=>?_,by rw[W,show X.length+2*B=X.length+B+B by omega];exact b2,H7,F5.trans F7⟩;rw[W]at F;rw[cg];exact al _ (.cons _ S T hS (Srt.join s1 (by rw[l1];exact s2) G ab) F)
   ·rw[dw,ak,tT _ _ ae,cD,ak];have go:∀(Y':List Nat) (h8:ah),Y'.length=N→BS r (2*B) 0 Y'→dY v P n h8 Y'→Fr (blk v) h h8→vK (aj .i .mul (iv B) (af 2)) λay=>U [ay] h8:=by
     intro Y' h8 g1 g2 g3 g4;rw[mq,ak,show(B:Int)*2=((2*B:Nat):Int)by omega,w64 (n:=((2*B:Nat):Int)) ae ae];exact an _ h8 (N-2*B) ae ⟨2*B,Y',rfl,rfl,ae,ae,g1,g2,g3,g4⟩
    refine ao (λh8=>?_) (λh8=>?_)
    ·obtain⟨S1,T1,rfl,l1,s1,b1⟩:=hZ.one hB ae;rw[cz]at aa;have s2:=b1.short hB ae ae;refine(Nl C (S1.length+T1.length) (A:=X) (L:=S1) (R:=T1) (D:=[]) (by simpa only[cg,gM]using H5) (a:=X.length) (m:=X.length+B) (b:=N) rfl ae ae ae ae s1.2 s2.2 (λx hx y hy=>by
      have:=s1.mem hx;have:=s2.mem hy;omega) (cq _)).mono λw I ⟨S,G,ab,H7,F7⟩=>?_
     have hS:S.length=S1.length+T1.length:=by rw[G.length_eq,cz]
     rw[gM]at H7;exact go (X++S) I (by rw[cz];omega) (al _ (.last _ S ae ae (Srt.join s1 (by rw[l1];exact s2) G ab))) H7 (F5.trans F7)
    ·refine go (X++Z) h5 (by rw[cz];omega) (al _ ?_) H5 F5;rcases w9 Z.length with I|I
     ·rw[mW I];exact .nil _
     ·exact .last _ _ I ae (hZ.short hB ae I)
  ·have:Srt r 0 Y:=by
    rcases w9 Y.length with I|I
    ·have:Y=[]:=mW I;subst this;exact⟨by simp,List.Pairwise.nil⟩
    ·exact hY.short hB ae I
   refine⟨Y,?_,this.2,H4,F3⟩;have hp:=this.1;rw[ad]at hp;rw[RR];exact hp
theorem R6 (C:JW v f P r n){h:ah}{N:Nat}(H:dY v P n h (List.range' 0 N))(D:N≤1048576):
  ag prog eV #[v,f] h λ_ h'=>∃S:List Nat,S.Perm (List.range N)∧S.Pairwise (dt r)∧dY v P n h' S∧Fr (blk v) h h':=by
 apply mh;unfold gQ;have A:=H.own;rw[List.length_range']at A;obtain⟨a,cap,e⟩:=A.isSl;have F:aD v=some (iv N):=by rw[e];rfl
 rw[F,ak];exact ZM C H D
end
end
abbrev O9:Value:=.int .i64 0
structure Mk3 (n:Nat)(h0:ah)(rows:List Value)(vr:Option (Nat×TypeId×Value))(h:ah):Prop where
 ext:Ext h0 h
 own:∀r∈rows,Own 1 h r n (List.replicate n O9)∧∀b,blk r b→h0.size≤b
 dis:rows.Pairwise λr s=>∀b,blk r b→¬blk s b
 var:∀p,vr=some p→h[p.1]? =some (.cells #[p.2.2] p.2.1 (0,0))∧h0.size≤p.1∧∀r∈rows,¬blk r p.1
theorem Mk3.start (n:Nat)(h:ah):Mk3 n h [] none h:=⟨Ext.refl _,by simp,List.Pairwise.nil,by simp⟩
theorem Mk3.mkr {n:Nat}{h0 h:ah}{rows:List Value}{I:Option (Nat×TypeId×Value)}{t:TypeId}{K:Value→ah→Prop}(M:Mk3 n h0 rows I h)(hn:n≤1048576)
  (H:∀v h',Mk3 n h0 (rows++[v]) I h'→K v h'):mkK O9 t 1 8 (af (n:Int)) (af (n:Int)) h K:=by
 refine og rfl ae ae λv h' o e f=>H v h' ⟨M.ext.trans e,?_,?_,?_⟩
 ·intro r A;rcases gX.1 A with A|A
  ·exact⟨(M.own r A).1.fr (M:=λ_=>False) e.fr λ_ _=>id,(M.own r A).2⟩
  ·rw[iy.1 A];exact⟨o,λb F=>aZ M.ext.1 (f b F)⟩
 ·rw[qQ];refine⟨M.dis,by simp,λr A s U b F D=>?_⟩;rw[iy.1 U]at D;have h1:=(M.own r A).1.lt F;have G:=f b D;omega
 ·intro p L;obtain⟨h1,G,W⟩:=M.var p L;refine⟨e.row h1,G,λr A=>?_⟩;rcases gX.1 A with A|A
  ·exact W r A
  ·rw[iy.1 A];intro F;have:=f _ F;have:=bC h1;omega
theorem Mk3.nw {n:Nat}{h0 h:ah}{rows:List Value}{t:TypeId}{c:Value}{K:Value→ah→Prop}(M:Mk3 n h0 rows none h)
  (H:∀b h',Mk3 n h0 rows (some (b,t,c)) h'→K (.pointer (some ⟨b,0,none⟩)) h'):aW #[c] t h K:=by
 refine aI λb h' r e f=>H b h' ⟨M.ext.trans e,λs A=>⟨(M.own s A).1.fr (M:=λ_=>False) e.fr λ_ _=>id,(M.own s A).2⟩,M.dis,?_⟩
 rintro p F;cases F;refine⟨r,aZ M.ext.1 f,λs A D=>?_⟩;have:=(M.own s A).1.lt D;simp only at this;omega
theorem Mk3.st {n:Nat}{h0 h:ah}{rows:List Value}{t:TypeId}{b:Nat}{c v:Value}{K:Value→ah→Prop}(M:Mk3 n h0 rows (some (b,t,c)) h)(I:v∈rows)
  (H:∀h',Mk3 n h0 rows (some (b,t,v)) h'→K undef h'):stK 1 (.pointer (some ⟨b,0,none⟩)) v h K:=by
 obtain⟨h1,A,F⟩:=M.var _ rfl;simp only at h1 A F;obtain⟨a,cap,e⟩:=(M.own v I).1.isSl;refine bZ h1 (by simp) (by rw[e];rfl) λh' r u=>H h' ⟨M.ext.upd A u,?_,M.dis,?_⟩
 ·intro s D;exact⟨(M.own s D).1.fr u.fr λk L U=>F s D (U▸L),(M.own s D).2⟩
 ·rintro p G;cases G;exact⟨by simpa using r,A,F⟩
def zce (n:Nat)(h0:ah)(xs:List Value)(h:ah):Prop:=
 ∃(x y z:Value) (b:Nat) (t:TypeId),xs=[x,y,.pointer (some ⟨b,0,none⟩)]∧Ext h0 h∧(Own 1 h x n (List.replicate n O9)∧∀b,blk x b→h0.size≤b)∧(Own 1 h y n (List.replicate n O9)∧∀b,blk y b→h0.size≤b)∧
  (Own 1 h z n (List.replicate n O9)∧∀b,blk z b→h0.size≤b)∧(∀b,blk x b→¬blk y b)∧(∀b,blk x b→¬blk z b)∧(∀b,blk y b→¬blk z b)∧
  h[b]? =some (.cells #[z] t (0,0))∧h0.size≤b∧¬blk x b∧¬blk y b∧¬blk z b
theorem Mk3.made {n:Nat}{h0 h:ah}{rows:List Value}{t:TypeId}{b:Nat}{z:Value}(M:Mk3 n h0 rows (some (b,t,z)) h)(i j k:Nat){x y:Value}(A:rows[i]? =some x)(D:rows[j]? =some y)(H:rows[k]? =some z)(h1:i≠j)(h2:i≠k)(h3:j≠k):
  zce n h0 [x,y,.pointer (some ⟨b,0,none⟩)] h:=by
 obtain⟨W,L,G⟩:=M.var _ rfl;simp only at W L G;have dis:∀(i j:Nat) (x y:Value),rows[i]? =some x→rows[j]? =some y→i≠j→∀b,blk x b→¬blk y b:=by
  intro i j x y A D aa b I F;obtain⟨li,ei⟩:=KI.1 A;obtain⟨U,ej⟩:=KI.1 D;rcases oE i j with h|h
  ·have:=ub.1 M.dis i j li U h b (by rw[ei];exact I);rw[ej]at this;exact this F
  ·have:=ub.1 M.dis j i U li ae b (by rw[ej];exact F);rw[ei]at this;exact this I
 exact⟨x,y,z,b,t,rfl,M.ext,M.own x (zo A),M.own y (zo D),M.own z (zo H),dis i j x y A D h1,dis i k x z A H h2,dis j k y z D H h3,W,L,G x (zo A),G y (zo D),G z (zo H)⟩
theorem Own.at_map {h:ah}{v:Value}{n:Nat}{g:Nat→Int}(H:Own 1 h v n ((List.range n).map λi=>af (g i))){k:IntKind}{i:Nat}(hi:i<n):
  ∃p,bh 1 v (.int k (i:Int))=some p∧ldV h p=some (af (g i))∧∀(x:Int) (K:Value→ah→Prop),
   (∀h',Own 1 h' v n ((List.range n).map λj=>af (if j=i then x else g j))→Fr (blk v) h h'→K undef h')→stK 1 p (af x) h K:=by
 obtain⟨p,h1,A,D⟩:=Own.at1 H (k:=k) hi;refine⟨p,h1,by rw[A];simp,λx K F=>D _ _ rfl λh' o f _=>F h' ?_ f⟩;rw[Ec _ _ _ _ hi]at o;have e:(λj=>if j=i then af x else af (g j))=λj=>af (if j=i then x else g j):=by
  funext j;split<;>rfl
 rw[e]at o;exact o
theorem Kz (n:Nat):List.replicate n O9=(List.range n).map λi=>af ((λ_=>0:Nat→Int) i):=by
 apply qw<;>simp
theorem Ye {h:ah}{a b:Int}:ag prog mc #[af a,af b] h λr h'=>(∃c:Int,r=af c∧(c<0↔a<b))∧h'=h:=by
 have A:∀{x:Int} {h:ah},ag prog kO #[af x] h λr h'=>r=.bool false∧h'=h:=by
  intro x h;apply EW;unfold vh
  try simp only[go_sem]
  exact⟨by simp,by simp⟩
 apply BL;unfold rG;refine A.mono λF h1 ⟨D,w1⟩=>?_
 subst D w1;refine A.mono λF h1 ⟨D,w1⟩=>?_
 subst D w1
 try simp only[go_sem]
 refine ao (λh0=>⟨⟨-1,rfl,ae⟩,by first|rfl|trivial⟩) (λh0=>?_);refine ao (λh0=>⟨⟨1,rfl,ae⟩,by first|rfl|trivial⟩) (λh0=>⟨⟨0,rfl,ae⟩,by first|rfl|trivial⟩)
def zcc (b:Nat)(t:TypeId)(z:Value)(n:Nat)(r:Nat→Int)(h:ah):Prop:=h[b]? =some (.cells #[z] t (0,0))∧Own 1 h z n ((List.range n).map λi=>Value.int .i64 (r i))
theorem ZG {v z:Value}{b n:Nat}{t:TypeId}{r:Nat→Int}(h1:¬blk v b)(G:∀b,blk v b→¬blk z b):JW v (.func (.func lY) #[] #[.pointer (some ⟨b,0,none⟩)]) (zcc b t z n r) r n where
 call:=λ{h a c K} ⟨D,A⟩ ha hc H=>by
  rw[clK_2];apply BB;unfold rn;obtain⟨p,e1,e2,_⟩:=Own.at_map A (k:=.i64) ha;obtain⟨q,U,I,_⟩:=Own.at_map A (k:=.i64) hc;have F:ldV h (.pointer (some ⟨b,0,none⟩))=some z:=by rw[un,am D];rfl
  refine aQ (λh'=>h'=h) rfl ?_;refine aC z (λh' e=>by rw[e];exact F) ?_;simp only[go_sem,U];refine aC _ (λh' e=>by rw[e];exact I) ?_;refine aC z (λh' e=>by rw[e];exact F) ?_;simp only[go_sem,e1];refine aC _ (λh' e=>by rw[e];exact e2) ?_;refine Ye.mono λw h' ⟨⟨m,e,W⟩,hh⟩=>?_
  subst e hh;exact H m W
 fr:=λ{h h'} ⟨D,A⟩ f=>⟨f.row D h1,A.fr f λk hk L=>G k L hk⟩
theorem zaN {l:List Int}{S:List Nat}(H:S.Perm (List.range l.length))(I:S.Pairwise (dt (dW l))){k i:Nat}(F:k<S.length)(hi:i<l.length):(if(lP (dW l) l.length i:Int)<((k+1:Nat):Int)then(1:Int)else 0)=if i=S[k]then(if(lP (dW l) l.length i:Int)<(k:Int)then(1:Int)else 0)+1 else if(lP (dW l) l.length i:Int)<(k:Int)then 1 else 0:=by
 have G:=JA H I F;have D:S[k]<l.length:=by have:=H.mem_iff.1 (cO F);simpa using this
 by_cases A:i=S[k]
 ·rw[aA A,A,G,aA ae,az ae];rfl
 ·rw[az A];have:lP (dW l) l.length i≠k:=λe=>A (Gt hi D (e.trans G.symm))
  by_cases h:lP (dW l) l.length i<k
  ·rw[aA ae,aA ae]
  ·rw[az ae,az ae]
theorem Cg {Z:Nat→Prop}{h:ah}{v:Value}{l:List Int}(H:SlI Z h v l)(L:∀x∈l,I64 x)(hl:l.length<4611686018427387904):
  ag prog jF #[v] h λr h'=>∃u,r=.tuple #[u,af (cV l)]∧New (Rp.int .i64) h h' u (cj l):=by
 apply Gv;unfold wn;refine(TU H L hl).mono λv1 h1 ⟨e1,w1⟩=>?_
 subst e1 w1;obtain⟨a,cap,e⟩:=H.isSl;have e2:aD v=some (af (l.length:Int)):=by rw[e];rfl
 simp only[yC,ak];unfold cj;by_cases hc:¬cV l=0
 ·have q:(cV l=0)=False:=fN hc;rw[az hc];simp only[go_sem,q];exact⟨_,rfl,New.nil (Ext.refl _)⟩
 have hc:cV l=0:=cf hc;have G:=Zg L hc;have q:(cV l=0)=True:=jx hc;rw[aA hc];simp only[go_sem,q];refine(PR H L hl).mono λv1 h1 ⟨e1,w1⟩=>?_
 subst e1 w1;have hn:=G.len;refine bB (zce l.length h1) ?_ ?_
 ·refine aQ (Ext h1) (Ext.refl _) ?_;refine aC _ (λh' _=>e2) ?_;refine aC _ (λh' _=>e2) ?_;refine aC _ (λh' _=>e2) ?_;have M0:=Mk3.start l.length h1
  repeat' first
   |exact Mk3.ext ‹Mk3 _ _ _ _ _›
   |exact Mk3.made ‹Mk3 _ _ _ _ _› 0 1 2 rfl rfl rfl (by decide) (by decide) (by decide)
   |exact Mk3.made ‹Mk3 _ _ _ _ _› 0 2 1 rfl rfl rfl (by decide) (by decide) (by decide)
   |exact Mk3.made ‹Mk3 _ _ _ _ _› 1 0 2 rfl rfl rfl (by decide) (by decide) (by decide)
   |exact Mk3.made ‹Mk3 _ _ _ _ _› 1 2 0 rfl rfl rfl (by decide) (by decide) (by decide)
   |exact Mk3.made ‹Mk3 _ _ _ _ _› 2 0 1 rfl rfl rfl (by decide) (by decide) (by decide)
   |exact Mk3.made ‹Mk3 _ _ _ _ _› 2 1 0 rfl rfl rfl (by decide) (by decide) (by decide)
   |refine And.intro ?_ ?_
   |refine Mk3.mkr ‹Mk3 _ _ _ _ _› hn λv' h' M=>?_
   |refine Mk3.nw ‹Mk3 _ _ _ _ _› λb' h' M=>?_
   |refine Mk3.st ‹Mk3 _ _ _ _ _› (by simp) λh' M=>?_
 rintro xs ρj F ⟨x,y,z,b,t,rfl,E2,⟨ox,fx⟩,⟨oy,fy⟩,⟨oz,fz⟩,I,aw,W,hb,b7,nx,ny,nz⟩;simp only[iC,xC,za2,e2,ak];have s1:=G.sum;have an:=SB l
 -- quotients and rests
 refine bI l.length 0 (λk (_:Unit)=>[af (vC l k),af (k:Int)]) (λk _ h'=>Ext h1 h'∧Own 1 h' x l.length ((List.range l.length).map λi=>af (if i<k then gv l i else 0))∧
   Own 1 h' y l.length ((List.range l.length).map λi=>af (if i<k then(i:Int)else 0))∧Own 1 h' z l.length ((List.range l.length).map λi=>af (if i<k then dW l i else 0))∧h'[b]? =some (.cells #[z] t (0,0))) () rfl (b9 _)
  ⟨E2,by rw[Kz]at ox;simpa using ox,by rw[Kz]at oy;simpa using oy,by rw[Kz]at oz;simpa using oz,hb⟩ λk _ h3 again ρj2 _ hk ⟨E3,o1,o2,o3,D⟩ b4=>?_
 try simp only[go_sem]
 refine ao (λh0=>?_) (λh0=>?_)
 ·have A:k<l.length:=ae;have H3:=H.ext E3;obtain⟨p,e3,e4⟩:=H3.int_at (k':=.i64) A;simp only[go_sem,e3,e4];have eg:l.getD k 0=l[k]:=by simp[dS,A]
  have U:=G.small k;rw[eg]at U;refine aQ (λh'=>h'[b]? =some (.cells #[z] t (0,0))) D ?_;refine aC z (λh' e=>by rw[am e];rfl) ?_;rw[w64 (n:=l[k]*16384) ae ae];refine(K9 (by unfold I64;omega) an).mono λv1 h4 ⟨e5,w5⟩=>?_
  subst e5 w5;refine⟨D,?_⟩;rw[qB (by unfold I64;omega) ae];refine(zad (by unfold I64;omega) an ae).mono λv1 h4 ⟨e5,w5⟩=>?_
  subst e5 w5;refine⟨D,?_⟩;have eb:l[k]*16384/mN l=gv l k:=by unfold gv;rw[eg]
  have er:l[k]*16384%mN l=dW l k:=by unfold dW;rw[eg]
  rw[eb,er];obtain⟨px,x1,x2,x3⟩:=Own.at_map o1 (k:=.i64) A;simp only[go_sem,x1];refine x3 _ _ λh5 bk f5=>?_
  have a9:=o3.fr f5 λc hc U=>aw c U hc
  have a8:=o2.fr f5 λc hc U=>I c U hc
  have al:=f5.row D nx;refine⟨al,?_⟩;obtain⟨pz,z1,z2,z3⟩:=Own.at_map a9 (k:=.i64) A;simp only[go_sem,z1];refine z3 _ _ λh6 b5 f6=>?_
  have b2:=a8.fr f6 λc hc hz=>W c hc hz
  have bc:=bk.fr f6 λc hc hz=>aw c hc hz
  have bo:=f6.row al nz;obtain⟨py,y1,y2,y3⟩:=Own.at_map b2 (k:=.i64) A;simp only[go_sem,y1];refine y3 _ _ λh7 b0 f7=>?_
  have ar:=bc.fr f7 λc hc hy=>I c hc hy
  have ay:=b5.fr f7 λc hc hy=>W c hy hc
  have bd:=f7.row bo ny;obtain⟨cb,au,aa,_⟩:=Own.at_map ar (k:=.i64) A;rw[x1]at au;cases au;simp only[cJ]at aa;have bg:=yD G k;have ca:=ML G k;simp only[go_sem,x1,aa];rw[w64 (n:=vC l k-gv l k) ae ae,w64 (n:=(k:Int)+1) ae ae];have E7:Ext h1 h7:=((E3.then_fr f5 fx).then_fr f6 fz).then_fr f7 fy;refine b4 () h7 A ⟨E7,?_,?_,?_,bd⟩
  ·have e:(List.range l.length).map (λj=>af (if j=k then gv l k else if j<k then gv l j else 0))=(List.range l.length).map λi=>af (if i<k+1 then gv l i else 0):=bN λi _=>by
    congr 1
    by_cases h1:i=k
    ·subst h1;simp
    ·rw[az h1];by_cases F:i<k
     ·rw[aA F,aA ae]
     ·rw[az F,az ae]
   rw[←e];exact ar
  ·have e:(List.range l.length).map (λj=>af (if j=k then(k:Int)else if j<k then(j:Int)else 0))=(List.range l.length).map λi=>af (if i<k+1 then(i:Int)else 0):=bN λi _=>by
    congr 1
    by_cases h1:i=k
    ·subst h1;simp
    ·rw[az h1];by_cases F:i<k
     ·rw[aA F,aA ae]
     ·rw[az F,az ae]
   rw[←e];exact b0
  ·have e:(List.range l.length).map (λj=>af (if j=k then dW l k else if j<k then dW l j else 0))=(List.range l.length).map λi=>af (if i<k+1 then dW l i else 0):=bN λi _=>by
    congr 1
    by_cases h1:i=k
    ·subst h1;simp
    ·rw[az h1];by_cases F:i<k
     ·rw[aA F,aA ae]
     ·rw[az F,az ae]
   rw[←e];exact ay
 ·have bv:k=l.length:=ae;subst bv;have o1:Own 1 h3 x l.length ((List.range l.length).map λi=>af (gv l i)):=by
   rw[←bN (g:=λi=>af (if i<l.length then gv l i else 0)) (λi hi=>by rw[aA hi])];exact o1
  have o3:Own 1 h3 z l.length ((List.range l.length).map λi=>af (dW l i)):=by
   rw[←bN (g:=λi=>af (if i<l.length then dW l i else 0)) (λi hi=>by rw[aA hi])];exact o3
  have o2:Own 1 h3 y (List.range' 0 l.length).length ((List.range' 0 l.length).map iv):=by
   rw[List.length_range',←RR,←bN (g:=λi=>af (if i<l.length then(i:Int)else 0)) (λi hi=>by rw[aA hi])];exact o2
  have IX:dY y (zcc b t z l.length (dW l)) l.length h3 (List.range' 0 l.length):=⟨o2,⟨D,o3⟩,by simpa using hl,λi hi=>by simpa using hi⟩
  refine(R6 (ZG ny W) IX hn).mono λw h4 ⟨S,hp,hs,a7,f4⟩=>?_
  obtain⟨L0,L1⟩:=left_bd G;obtain⟨m,hm⟩:∃m:Nat,yw l=(m:Int):=⟨(yw l).toNat,ae⟩
  have b8:S.length=l.length:=by rw[hp.length_eq];simp
  obtain⟨v',q1,q2,q3⟩:=Pe 1 a7.own (k:=.i64) (hi:=m) ae;have o1:=o1.fr f4 λc hc hy=>I c hc hy
  have be:vC l l.length=(m:Int):=hm;rw[be,q1,ak];obtain⟨a',b6,e'⟩:=q2.isSl;have b3:aD v'=some (af (m:Int)):=by rw[e'];rfl
  rw[b3,ak];refine bI m 0 (λk (_:Unit)=>[af (k:Int)]) (λk _ h'=>Ext h1 h'∧Own 1 h' x l.length ((List.range l.length).map λi=>af (gv l i+(if(lP (dW l) l.length i:Int)<(k:Int)then 1 else 0)))∧Fr (blk x) h4 h') () rfl (b9 _)
   ⟨E3.then_fr f4 fy,by
    rw[bN (f:=λi=>af (gv l i)) (λi hi=>by rw[az ae,Int.add_zero])];exact o1,Fr.refl _ _⟩ λk _ h5 ax ρj5 _ hk ⟨E5,o5,f5⟩ ab=>?_
  try simp only[go_sem]
  refine ao (λh6=>?_) (λh6=>?_)
  ·have A:k<m:=ae;have q5:=q2.fr f5 λc _ hc U=>I c U (q3 c hc)
   obtain⟨p,p1,p2⟩:=q5.at1 (k:=.i64) A;have ad:k<S.length:=ae;have p2:ldV h5 p=some (iv S[k]):=by
    rw[p2];simp
   have b1:S[k]<l.length:=by have:=hp.mem_iff.1 (cO ad);simpa using this
   obtain⟨px,x1,x2,x3⟩:=Own.at_map o5 (k:=.i64) b1;simp only[go_sem,p1,p2,x1,x2];have bg:=yD G S[k];rw[w64 (n:=gv l S[k]+(if(lP (dW l) l.length S[k]:Int)<(k:Int)then 1 else 0)+1) (by split<;>omega) (by split<;>omega)];refine x3 _ _ λh7 o7 f7=>?_
   rw[w64 (n:=(k:Int)+1) ae ae];refine ab () h7 A ⟨E5.then_fr f7 fx,?_,f5.trans f7⟩;rw[bN (f:=λj=>af (if j=S[k]then gv l S[k]+(if(lP (dW l) l.length S[k]:Int)<(k:Int)then 1 else 0)+1 else gv l j+if(lP (dW l) l.length j:Int)<(k:Int)then 1 else 0)) (λi hi=>by
    rw[zaN hp hs ad hi]
    congr 1
    by_cases he:i=S[k]
    ·rw[aA he,aA he,←he];omega
    ·rw[az he,az he])]
   exact o7
  ·have:k=m:=ae;subst this;refine⟨x,by rw[hc],⟨(mM l).map λn=>af n,?_,λc _=>id,λi hi=>?_⟩,E5,fx⟩
   ·rw[qe];unfold mM;rw[C6];simp only[←hm]at o5;exact o5
   ·have e:Rp.el (Rp.int .i64).w ((mM l).map λn=>af n) i=[af (mM l)[i]]:=by
     have:=Rp.el_one (ds:=(mM l).map λn=>af n) (i:=i) (by simpa using hi);rw[eT]at this;exact this
    exact e
theorem Yf {h:ah}{x y:Nat}(A:x<18446744073709551616)(D:y<18446744073709551616):
  ag prog sZ #[.int .u64 (x:Int),.int .u64 (y:Int)] h λr h'=>r=.tuple #[.int .u64 ((x*y/18446744073709551616:Nat):Int),.int .u64 ((x*y%18446744073709551616:Nat):Int)]∧h'=h:=by
 apply IJ;unfold yl;rw[cR];refine(Sg A D).mono λv h1 ⟨e,w⟩=>?_
 subst e w
 try simp only[go_sem]
 exact⟨by simp,by simp⟩
theorem YM (n:Nat)(x:Int):List.replicate n (af x)=(List.replicate n x).map λn=>af n:=by simp
theorem VZ {k:IntKind}{h:ah}{v:Value}{l:List Int}(H:Own 1 h v l.length (l.map λn=>Value.int k n)):Rp.Ow (Rp.int k) (λ_=>False) h v l:=
 ⟨l.map λn=>Value.int k n,H,λc _=>id,λi hi=>by
  have:=Rp.el_one (ds:=l.map λn=>Value.int k n) (i:=i) (by simpa using hi);rw[eT]at this;exact this⟩
theorem Yj {Z:Nat→Prop}{h:ah}{v:Value}{x:Int}{n:Nat}(H:SlI Z h v [x])(L:1≤n)(au:n≤4096):
  ag prog fX #[v,af (n:Int)] h λr h'=>New (Rp.int .i64) h h' r (List.replicate n x):=by
 apply pE;unfold jc;have F:((n:Int)<0)=False:=fN ae;simp only[go_sem,F];refine bB (λ_ h'=>h'=h) rfl λI ρj h' e=>?_
 subst e;obtain⟨ds,W,hz,he⟩:=H;have al:=W.1;have hd:ds=[af x]:=by
  have h1:=he 0 (by simp);have ab:ds.length=1:=by simpa[Rp.int]using al
  obtain⟨d,rfl⟩:=Rx.1 ab;exact h1
 subst hd;obtain⟨a,cap,ev⟩:=W.isSl;have e2:aD v=some (af ((1:Nat):Int)):=by rw[ev];rfl
 simp only[go_sem,e2];rw[gd ae,gd (m:=n) ae];refine(Yf (x:=1) (y:=n) ae ae).mono λw h1 ⟨e,hh⟩=>?_
 subst e hh
 try simp only[go_sem]
 rw[show 1*n/18446744073709551616=0 by omega,show 1*n%18446744073709551616=n by omega];refine bB (λ_ h'=>h'=h1) ?_ λI ρj2 h2 e=>?_
 ·refine ao (λh0=>absurd h0 ae) (λ_=>rfl)
 subst e
 try simp only[go_sem]
 rw[w64 (n:=(n:Int)) ae ae];refine og rfl ae ae λu h3 o e f=>?_
 have ad:SlC 1 h3 v 1 [af x]:=W.ext e;refine HZ o ad (by simp[aR]) λh4 o4 f4 z4=>?_
 have E4:Ext h2 h4:=e.then_fr f4 f;have D:Nat.min 1 n=1:=ug L;rw[D];obtain⟨a2,an,eu⟩:=o4.isSl;have e3:aD u=some (af (n:Int)):=by rw[eu];rfl
 have st:Own 1 h4 u n (List.replicate 1 (af x)++List.replicate (n-1) ai):=by
  have e:[af x].take n++(List.replicate n (af 0)).drop 1=List.replicate 1 (af x)++List.replicate (n-1) ai:=by
   rw[eS (by simpa using L),We];rfl
  rw[←e];exact o4
 refine dx (λd I h'=>∃m:Nat,d=n-m∧I=[af (m:Int)]∧1≤m∧m≤n∧Ext h2 h'∧Own 1 h' u n (List.replicate m (af x)++List.replicate (n-m) ai)) (n-1) ⟨1,rfl,rfl,cq _,L,E4,st⟩ ?_;rintro d I ρj3 h5 again ⟨m,rfl,rfl,ar,U,E5,o5⟩ aa;simp only[iC,e3,ak,cD];refine ao (λh0=>?_) (λh0=>?_)
 ·refine aQ (λh'=>h'=h5) rfl ?_;obtain⟨w,w1,G,w3⟩:=Pe 1 o5 (k:=.i64) (hi:=m) U;have G:SlC 1 h5 w m (List.replicate m (af x)):=by
   have e:(List.replicate m (af x)++List.replicate (n-m) (af 0)).take (m*1)=List.replicate m (af x):=by
    rw[lT,RM (by simp),eS (by simp)]
   rw[e]at G;exact G
  obtain⟨d,d1,d2⟩:=ZE o5 (show m<n by omega) G (λy hy=>by rw[(KH.1 hy).2];rfl) (kk:=.i64);rw[d1,ak,w1,ak];refine d2 _ λh6 o6 f6=>?_
  have A:Nat.min m (n-m)=min m (n-m):=rfl;rw[A,dw,ak,w64 ae ae,show(m:Int)+((min m (n-m):Nat):Int)=((m+min m (n-m):Nat):Int)by omega];refine aa _ h6 (n-(m+min m (n-m))) ae ⟨m+min m (n-m),rfl,rfl,ae,ae,E5.then_fr f6 f,?_⟩;have e:(List.replicate m (af x)++List.replicate (n-m) (af 0)).take m++(List.replicate m (af x)).take (n-m)++(List.replicate m (af x)++List.replicate (n-m) (af 0)).drop (m+m)
    =List.replicate (m+min m (n-m)) (af x)++List.replicate (n-(m+min m (n-m))) ai:=by
   rw[RM (by simp),eS (by simp),List.take_replicate,RL,qs (by simp),fG,We,vx,List.replicate_append_replicate,Nat.min_comm]
   congr 2;omega
  rw[←e];exact o6
 ·have:m=n:=ae;subst this;refine⟨VZ ?_,E5,f⟩;rw[vx,←YM];simpa using o5
def ut (r:Int):Prop:=r<0∨511<r
instance (r:Int):Decidable (ut r):=by unfold ut;infer_instance
def Qd (r:Int):Int:=if ut r then 7 else AM (List.replicate (2*r+1).toNat 1)
def yB (r:Int):List Int:=if ut r then[]else rj (List.replicate (2*r+1).toNat 1)
theorem Qc (r:Int):∀x∈yB r,I64 x:=by
 unfold yB;split
 ·simp
 ·exact Ik _
theorem zc7 {h:ah}{r:Int}(hr:I64 r):ag prog Cn #[af r] h λw h'=>∃u,w=.tuple #[u,af (Qd r)]∧New (Rp.int .i64) h h' u (yB r):=by
 apply QF;unfold FN
 try simp only[go_sem]
 unfold Qd yB;refine ao (λh0=>?_) (λh0=>?_)
 ·have:ut r:=h0;rw[aA this,aA this];exact⟨_,rfl,New.nil (Ext.refl _)⟩
 ·have D:¬ut r:=h0;rw[az D,az D];refine dc (Rp.fill_one rfl) λb h1 r1 L U=>?_
  rw[w64 (n:=2*r) ae ae]
  try simp only[go_sem]
  rw[w64 (n:=2*r+1) ae ae];have G:SlI (λ_=>True) h1 (.slice (some ⟨b,0,none⟩) 1 1) [1]:=⟨[af 1],Rp.SlC.single (cs:=[af 1]) r1,λ_ _ _=>trivial,λi hi=>by
   have:i=0:=by simpa using hi
   subst this;rfl⟩
  obtain⟨N,F⟩:∃N:Nat,N=(2*r+1).toNat:=⟨_,rfl⟩
  rw[←F,show 2*r+1=(N:Int)by omega];refine(Yj G (n:=N) ae ae).mono λv W A=>?_
  refine(Fq A.sl (λx I=>by rw[(KH.1 I).2];unfold I64;omega) (by rw[vx];omega)).mono λw h3 ⟨u,e,H⟩=>?_
  subst e
  try simp only[go_sem]
  exact⟨u,rfl,H.before (L.trans A.2.1)⟩
end Go.Proofs.YtjljhnandbbldaaGreatDoor
namespace Go.Crisp
open Go
theorem gC (c:Array Value):aM c []=some c:=rfl
theorem zF {a b x y:Value}(D:aR a=true)(A:aR b=true):aM #[x,y] [(0,1,a),(1,1,b)]=some #[a,b]:=by
 simp only[aM,cB D,cB A];rfl
theorem WQ {a x y z w:Value}(A:aR a=true):aM #[x,y,z,w] [(0,1,a)]=some #[a,y,z,w]:=by
 simp only[aM,cB A];rfl
def bH (ls:List (Int×List Int)):Int:=ls.foldl (λm x=>max m (x.2.length:Int)) 0
def Lm (ls:List (Int×List Int)):Int:=ls.foldl (λm x=>max m (mP x.2)) 0
theorem Fb (ls:List (Int×List Int))(x:Int×List Int):bH (ls++[x])=max (bH ls) (x.2.length:Int):=by unfold bH;rw[CP];rfl
theorem UB (ls:List (Int×List Int))(x:Int×List Int):Lm (ls++[x])=max (Lm ls) (mP x.2):=by unfold Lm;rw[CP];rfl
def mg:Rp (Int×List Int) where
 w:=2
 R:=λZ h cs x=>∃v,cs=[.int .i64 x.1,v]∧Rp.Sl (Rp.int .i64) Z h v x.2
 len:=by rintro _ _ _ _ ⟨v,rfl,_⟩;rfl
 one:=by
  rintro _ _ _ _ ⟨v,rfl,H⟩ u hu;rcases List.mem_cons.1 hu with rfl|hu
  ·rfl
  ·rw[List.mem_singleton.1 hu];exact H.one
 fr:=by rintro _ _ _ _ _ _ ⟨v,rfl,H⟩ f q;exact⟨v,rfl,H.fr f q⟩
 mono:=by rintro _ _ _ _ _ ⟨v,rfl,H⟩ q;exact⟨v,rfl,H.mono q⟩
def zas (v:Value):Prop:=∃a n c,v=.slice a n c∧n≤c
theorem Rp.Ow.cap {α:Type}{e:Rp α}{Z:Nat→Prop}{h:ah}{v:Value}{l:List α}(H:Rp.Ow e Z h v l):zas v:=by
 obtain⟨ds,o,_⟩:=H;rcases o with⟨rfl,_,_⟩|⟨b,cap,r,e,rfl,hc,_⟩
 ·exact⟨_,_,_,rfl,cq _⟩
 ·exact⟨_,_,_,rfl,hc⟩
structure Tbl where
 n:Int
 lines:List (Int×List Int)
def rTbl:Rp Tbl where
 w:=4
 R:=λZ h cs t=>∃lv,cs=[.int .i64 t.n,lv,.int .i64 (bH t.lines),.int .i64 (Lm t.lines)]∧Rp.Sl mg Z h lv t.lines∧zas lv
 len:=by rintro _ _ _ _ ⟨v,rfl,_⟩;rfl
 one:=by
  rintro _ _ _ _ ⟨v,rfl,H,_⟩;exact aq rfl (aq H.one (aq rfl (aq rfl aX)))
 fr:=by rintro _ _ _ _ _ _ ⟨v,rfl,H,c⟩ f q;exact⟨v,rfl,H.fr f q,c⟩
 mono:=by rintro _ _ _ _ _ ⟨v,rfl,H,c⟩ q;exact⟨v,rfl,H.mono q,c⟩
abbrev fJ (Z:Nat→Prop)(h:ah)(p:Value)(t:Tbl):Prop:=Rp.Pt rTbl Z h p t
theorem fJ.open {Z:Nat→Prop}{h:ah}{p:Value}{t:Tbl}(H:fJ Z h p t):∃b lv,p=.pointer (some ⟨b,0,none⟩)∧aG h ⟨b,0,none⟩=some (af t.n)∧aG h ⟨b,1,none⟩=some lv∧aG h ⟨b,2,none⟩=some (af (bH t.lines))∧
  aG h ⟨b,3,none⟩=some (af (Lm t.lines))∧Rp.Sl mg Z h lv t.lines∧Z b∧b<h.size∧zas lv:=by
 obtain⟨b,ds,ty,rfl,r,D,lv,rfl,A,hc⟩:=H;exact⟨b,lv,rfl,am r,am r,am r,am r,A,D,bC r,hc⟩
structure En (h0:ah)(Z:Nat→Prop)(h:ah)(b:Nat)(ty:TypeId)(lv:Value)(n:Int)(ls:List (Int×List Int)):Prop where
 ext:Ext h0 h
 row:h[b]? =some (.cells #[.int .i64 n,lv,.int .i64 (bH ls),.int .i64 (Lm ls)] ty (0,0))
 ow:Rp.Ow mg Z h lv ls
 nb:h0.size≤b
 nl:∀c,blk lv c→h0.size≤c
 zb:¬Z b
 lb:¬blk lv b
 zf:∀c,Z c→h0.size≤c∧c<h.size
theorem En.more {h0 h:ah}{Z Z':Nat→Prop}{b:Nat}{ty:TypeId}{lv:Value}{n:Int}{ls:List (Int×List Int)}{h':ah}(T:En h0 Z h b ty lv n ls)(e:Ext h h')(q:∀c,Z c→Z' c)(D:∀c,Z' c→¬Z c→h.size≤c∧c<h'.size):En h0 Z' h' b ty lv n ls where
 ext:=T.ext.trans e
 row:=e.row T.row
 ow:=(T.ow.ext e).mono (λc _ A=>q c A) λc hc A=>by
  by_cases h1:Z c
  ·obtain⟨ds,_,F,_⟩:=T.ow;exact F c hc h1
  ·have:=D c A h1;have:=T.ow.lt hc;omega
 nb:=T.nb
 nl:=T.nl
 zb:=λA=>by
  by_cases h1:Z b
  ·exact T.zb h1
  ·have:=D b A h1;have:=bC T.row;omega
 lb:=T.lb
 zf:=λc A=>by
  by_cases h1:Z c
  ·have:=T.zf c h1;have:=e.1;omega
  ·have:=D c A h1;have:=T.ext.1;omega
theorem En.done {h0 h:ah}{Z:Nat→Prop}{b:Nat}{ty:TypeId}{lv:Value}{n:Int}{ls:List (Int×List Int)}(T:En h0 Z h b ty lv n ls):fJ (λc=>h0.size≤c∧c<h.size) h (.pointer (some ⟨b,0,none⟩)) ⟨n,ls⟩:=
 ⟨b,[_,_,_,_],ty,rfl,T.row,⟨T.nb,bC T.row⟩,lv,rfl,T.ow.sl.mono λc _ hc=>by
  rcases hc with hc|hc
  ·exact T.zf c hc
  ·exact⟨T.nl c hc,T.ow.lt hc⟩,T.ow.cap⟩
end Go.Crisp
namespace Go.Proofs.YtjljhnandbbldaaGreatDoor
open Go Go.Crisp
attribute [local irreducible] ag di aW stK aF vK qK bK gK fo bA mkK dk Fm GM CJ bsK clK
open _root_.Go.Proofs.Tryz
theorem Ca {h:ah}{n:Int}:ag prog oQ #[af n] h λr h'=>r=.bool (decide (1≤n∧n≤65536))∧h'=h:=by
 apply Of;unfold DC
 try simp only[go_sem]
 exact⟨by simp,by simp⟩
theorem Nk {h0 h:ah}{Z:Nat→Prop}{b:Nat}{ty:TypeId}{lv u:Value}{n first:Int}{ls:List (Int×List Int)}{l:List Int}(T:En h0 Z h b ty lv n ls)(H:SlI Z h u l)(U:∀x∈l,I64 x)(hl:l.length<1048577)(aa:ls.length≤65536):
  ag prog kM #[.pointer (some ⟨b,0,none⟩),af first,u] h λ_ h'=>∃D,En h0 Z h' b ty D n (ls++[(first,l)])∧Fr (λc=>c=b∨blk lv c) h h':=by
 apply EI;unfold uQ;have c1:aG h ⟨b,1,none⟩=some lv:=am T.row;obtain⟨au,cu,eu⟩:=H.isSl;have W:aD u=some (af (l.length:Int)):=by rw[eu];rfl
 simp only[go_sem,c1,zF (a:=af first) (b:=u) rfl H.one,cI];refine Rp.push_ow (e:=mg) (cs:=[af first,u]) (x:=(first,l)) T.ow ⟨u,rfl,H⟩ rfl rfl ae ae (λc hc=>(T.zf c hc).2) λD h1 o1 f1 n1=>?_
 have r1:=f1.row T.row T.lb;have G:¬blk D b:=λhb=>by
  rcases n1 b hb with A|A
  ·exact T.lb A
  ·have:=bC T.row;omega
 obtain⟨al,cl,el⟩:=o1.isSl
 try simp only[go_sem]
 refine bZ r1 (by simp) (by rw[el];rfl) λA r2 u2=>?_
 have c2:aG A ⟨b,2,none⟩=some (af (bH ls)):=am r2;simp only[go_sem,c2,W];refine bZ r2 (by simp) rfl λI r3 u3=>?_
 have c3:aG I ⟨b,3,none⟩=some (af (Lm ls)):=am r3;refine aQ (λh'=>h'=I) rfl ?_
 try simp only[go_sem]
 refine aC _ (λh' e=>by rw[e];exact c3) ?_;have F3:Fr (λc=>c=b∨blk lv c) h I:=((f1.mono λc _ hc=>.inr hc).trans (u2.fr.mono λc _ hc=>.inl hc)).trans (u3.fr.mono λc _ hc=>.inl hc);have H3:SlI Z I u l:=H.fr F3 λc hc F L=>by
  rcases L with rfl|L
  ·exact T.zb F
  ·obtain⟨ds,_,A,_⟩:=T.ow;exact A c L F
 refine(JP H3 U ae).mono λw h4 ⟨e4,w4⟩=>?_
 subst e4 w4;refine⟨rfl,?_⟩;refine aC _ (λh' _=>MF _ _ _) ?_;refine bZ r3 (by simp) rfl λh5 r5 u5=>?_
 have F5:=F3.trans (u5.fr.mono (M':=λc=>c=b∨blk lv c) λc _ hc=>.inl hc);refine⟨D,⟨?_,?_,?_,T.nb,?_,T.zb,G,?_⟩,F5⟩
 ·exact T.ext.then_fr F5 λc hc=>by
   rcases hc with rfl|hc
   ·exact T.nb
   ·exact T.nl c hc
 ·rw[Fb,UB];simpa using r5
 ·have g:Fr (λc=>c=b) h1 h5:=(u2.fr.trans u3.fr).trans u5.fr;exact o1.fr g (λc _ F he=>T.zb (he▸F)) λc hc he=>G (he▸hc)
 ·intro c hc;rcases n1 c hc with A|A
  ·exact T.nl c A
  ·exact aZ T.ext.1 A
 ·intro c F;have:=T.zf c F;have:=F5.1;omega
end Go.Proofs.YtjljhnandbbldaaGreatDoor
namespace Go.Proofs.YtjljhnandbbldaaGreatDoor
open Go Go.Crisp
attribute [local irreducible] ag di aW stK aF vK qK bK gK fo bA mkK dk Fm GM CJ bsK
open _root_.Go.Proofs.Tryz
abbrev Two (h:ah)(b:Nat)(t:TypeId)(x y:Value):Prop:=h[b]? =some (.cells #[x,y] t (0,0))
theorem Two.a {h:ah}{b:Nat}{t:TypeId}{x y:Value}(r:Two h b t x y):aG h ⟨b,0,none⟩=some x:=am r
theorem Two.b {h:ah}{b:Nat}{t:TypeId}{x y:Value}(r:Two h b t x y):aG h ⟨b,1,none⟩=some y:=am r
theorem Two.all {h:ah}{b:Nat}{t:TypeId}{x y:Value}(r:Two h b t x y):aP 2 h (.pointer (some ⟨b,0,none⟩))=some (.agg #[x,y]):=aU (l:=[x,y]) r 2 rfl
abbrev Big (h:ah)(b:Nat)(t:TypeId)(n:Nat):Prop:=Two h b t (.int .u64 ((n/18446744073709551616:Nat):Int)) (.int .u64 ((n%18446744073709551616:Nat):Int))
theorem Big.all {h:ah}{b:Nat}{t:TypeId}{n:Nat}(r:Big h b t n):aP 2 h (.pointer (some ⟨b,0,none⟩))=some (oK n):=Two.all r
theorem hG (n:Nat):Value.cells (oK n)=#[.int .u64 ((n/18446744073709551616:Nat):Int),.int .u64 ((n%18446744073709551616:Nat):Int)]:=rfl
theorem CM {n:Nat}(h:n<18446744073709551616):oK n=.agg #[.int .u64 0,.int .u64 (n:Int)]:=by
 unfold oK;rw[sJ h,vA h];rfl
theorem CB:oK 0=.agg #[.int .u64 0,.int .u64 0]:=rfl
theorem yq:oK 1=.agg #[.int .u64 0,.int .u64 1]:=rfl
theorem iV {t:TypeId}{b:Nat}{h:ah}{x y:Value}{n:Nat}{K:Value→ah→Prop}(r:Two h b t x y)(A:∀h',Big h' b t n→Upd b h h'→K undef h'):stK 2 (.pointer (some ⟨b,0,none⟩)) (oK n) h K:=
 cT (l:=[.int .u64 ((n/18446744073709551616:Nat):Int),.int .u64 ((n%18446744073709551616:Nat):Int)]) r rfl (aq rfl (aq rfl aX)) rfl A
theorem kH {t:TypeId}{h:ah}{n:Nat}{K:Value→ah→Prop}(H:∀b h',Big h' b t n→Ext h h'→h.size≤b→K (.pointer (some ⟨b,0,none⟩)) h'):aW #[.int .u64 0,.int .u64 0] t h λv D=>stK 2 v (oK n) D λ_ A=>K v A:=
 dh (cs:=[.int .u64 ((n/18446744073709551616:Nat):Int),.int .u64 ((n%18446744073709551616:Nat):Int)]) rfl (aq rfl (aq rfl aX)) rfl H
theorem kI {a b x y:Int}:aM #[(.int .u64 x),(.int .u64 y)] [(0,1,(.int .u64 a)),(1,1,(.int .u64 b))]=some #[.int .u64 a,.int .u64 b]:=zF rfl rfl
theorem zbg {b x y:Int}:aM #[(.int .u64 x),(.int .u64 y)] [(1,1,(.int .u64 b))]=some #[.int .u64 x,.int .u64 b]:=by
 simp only[aM,cB (v:=.int .u64 b) rfl];rfl
theorem bG (c:Array Value):(some c).map Value.agg=some (.agg c):=rfl
theorem Ie {n:Nat}{x y:Int}(A:x=((n/18446744073709551616:Nat):Int))(D:y=((n%18446744073709551616:Nat):Int)):(Value.agg #[.int .u64 x,.int .u64 y])=oK n:=by rw[A,D];rfl
theorem nA {h:ah}{n bit:Nat}(U:bit≤1)(W:2*n+bit<340282366920938463463374607431768211456):
  ag prog fu #[oK n,.int .u64 (bit:Int)] h λr h'=>r=oK (2*n+bit)∧Ext h h':=by
 apply L5;unfold AV;rw[hG];refine aI λb1 h1 r1 A I=>?_
 refine aI λb2 L r2 D G=>?_
 have r1:=D.row r1;simp only[go_sem,Two.a r1,Two.b r1];rw[show(1:Int)=((1:Nat):Int)from rfl,show(63:Int)=((63:Nat):Int)from rfl,wm _ ae,ak,mA _ ae,ak,dw,ak,wm _ ae,ak,dw,ak,kI,bG,ak];rw[Ie (n:=2*n+bit) (by rw[fg];omega) (by rw[fg];omega)];refine iV r2 λh3 F H=>?_
 rw[F.all,ak];exact⟨rfl,(A.trans D).upd (aZ A.1 G) H⟩
theorem Cd {h:ah}{m n:Nat}(hn:m+n<340282366920938463463374607431768211456):
  ag prog iM #[oK m,oK n] h λr h'=>r=oK (m+n)∧Ext h h':=by
 apply Oz;unfold DR;rw[hG,hG];refine aI λb1 h1 r1 W n1=>?_
 refine aI λb2 h2 r2 G n2=>?_
 refine aI λb3 h3 A F n3=>?_
 have r1:=(G.trans F).row r1;have r2:=F.row r2;have l3:=bC A;simp only[go_sem,Two.a r1,Two.b r1,Two.a r2,Two.b r2];rw[kI,bG,ak];refine aI λb4 h4 r4 e4 n4=>?_
 refine cT (l:=[_,_]) r4 rfl (aq rfl (aq rfl aX)) rfl λh5 D u5=>?_
 have U:=e4.upd n4 u5;have r1:=U.row r1;have A:=U.row A;simp only[fg]at D;simp only[go_sem,Two.a D,Two.b D,Two.b r1,fg];have e0:=W.trans (G.trans (F.trans U));have k3:h.size≤b3:=aZ (W.trans G).1 n3;have k4:h.size≤b4:=aZ (W.trans (G.trans F)).1 n4;have aa:b3≠b4:=ae;refine ao (λhc=>?_) (λhc=>?_)
 ·refine bZ D (by simp) rfl λh6 H u6=>?_
  have A:=u6.row aa A;have H:Two h6 b4 _ (.int .u64 _) (.int .u64 _):=H;rw[Two.all H,ak];rw[Ie (n:=m+n) ae ae];refine iV A λh7 L I=>?_
  rw[L.all,ak];exact⟨rfl,(e0.upd k4 u6).upd k3 I⟩
 ·rw[Two.all D,ak];rw[Ie (n:=m+n) ae ae];refine iV A λh7 L I=>?_
  rw[L.all,ak];exact⟨rfl,e0.upd k3 I⟩
theorem PY {h:ah}{m n:Nat}(hm:m<340282366920938463463374607431768211456)(hn:n≤m):
  ag prog qW #[oK m,oK n] h λr h'=>r=oK (m-n)∧Ext h h':=by
 apply L8;unfold AY;rw[hG,hG];refine aI λb1 h1 r1 W n1=>?_
 refine aI λb2 h2 r2 H n2=>?_
 refine aI λb3 h3 A F n3=>?_
 have r1:=(H.trans F).row r1;have r2:=F.row r2;have l3:=bC A;simp only[go_sem,Two.a r1,Two.b r1,Two.a r2,Two.b r2];rw[kI,bG,ak];refine aI λb4 h4 r4 e4 n4=>?_
 refine cT (l:=[_,_]) r4 rfl (aq rfl (aq rfl aX)) rfl λh5 D u5=>?_
 have G:=e4.upd n4 u5;have r1:=G.row r1;have r2:=G.row r2;have A:=G.row A;simp only[fg]at D;simp only[go_sem,Two.a D,Two.b D,Two.b r1,Two.b r2,fg];have e0:=W.trans (H.trans (F.trans G));have k3:h.size≤b3:=aZ (W.trans H).1 n3;have k4:h.size≤b4:=aZ (W.trans (H.trans F)).1 n4;have aa:b3≠b4:=ae;refine ao (λhc=>?_) (λhc=>?_)
 ·refine bZ D (by simp) rfl λh6 I u6=>?_
  have A:=u6.row aa A;have I:Two h6 b4 _ (.int .u64 _) (.int .u64 _):=I;rw[Two.all I,ak];rw[Ie (n:=m-n) ae ae];refine iV A λh7 U L=>?_
  rw[U.all,ak];exact⟨rfl,(e0.upd k4 u6).upd k3 L⟩
 ·rw[Two.all D,ak];rw[Ie (n:=m-n) ae ae];refine iV A λh7 U L=>?_
  rw[U.all,ak];exact⟨rfl,e0.upd k3 L⟩
theorem Ce {h:ah}{m n:Nat}:ag prog ka #[oK m,oK n] h λr h'=>r=.bool (decide (m<n))∧Ext h h':=by
 apply OB;unfold DT;rw[hG,hG];refine aI λL h1 r1 D F=>?_
 refine aI λG H r2 A I=>?_
 have r1:=A.row r1;simp only[go_sem,Two.a r1,Two.b r1,Two.a r2,Two.b r2];refine ao (λhc=>?_) (λhc=>?_)
 ·exact⟨by congr 1;exact gL.2 ae,D.trans A⟩
 ·exact⟨by congr 1;exact gL.2 ae,D.trans A⟩
theorem Jh {a:Nat}(A:a<18446744073709551616):aj .i .and (.int .u64 (a:Int)) (.int .u64 1)=some (.int .u64 ((a%2:Nat):Int)):=by
 have:=Sk A (b:=1) ae;rw[Hk]at this;exact this
theorem Da {h:ah}{m i:Nat}(L:m<340282366920938463463374607431768211456)(hi:i<128):ag prog iN #[oK m,af (i:Int)] h λr h'=>r=.int .u64 ((m/2^i%2:Nat):Int)∧Ext h h':=by
 apply QR;unfold FZ;rw[hG];refine aI λI h1 r1 D H=>?_
 simp only[go_sem,Two.a r1,Two.b r1];refine ao (λhc=>?_) (λhc=>?_)
 ·rw[w64 (n:=(i:Int)-64) ae ae,show(i:Int)-64=((i-64:Nat):Int)by omega,mA _ ae,ak];rw[Jh (sK (jy _ _) ae),ak];refine⟨?_,D⟩;have e:m/2^i=m/18446744073709551616/2^(i-64):=by
   rw[Hf,show(18446744073709551616:Nat)=2^64 from rfl,←vz,show 64+(i-64)=i by omega]
  rw[e]
 ·rw [mA _ ae,ak];rw[Jh (sK (jy _ _) (gN _ ae)),ak];refine⟨?_,D⟩;have G:(0:Nat)<2^i:=wW ae;have A:(18446744073709551616:Nat)=2^i*(2*2^(63-i)):=by rw[←Rv,←vz,show i+(63-i+1)=64 by omega]
  have D:m/2^i=m/18446744073709551616*(2*2^(63-i))+m%18446744073709551616/2^i:=by
   have e:=mV m 18446744073709551616;have F:m=m%18446744073709551616+2^i*(m/18446744073709551616*(2*2^(63-i))):=by
    have:2^i*(m/18446744073709551616*(2*2^(63-i)))=18446744073709551616*(m/18446744073709551616):=by
     conv=>rhs;rw[A]
     rw[CS,eO,←A]
    rw[this];omega
   conv=>lhs;rw[F]
   rw[Hd _ _ G,CV]
  rw[D,CS,KG]
theorem sb {h:ah}{x:Int}(A:I64 x):ag prog gi #[af x] h λr h'=>r=.int .u64 (x.natAbs:Int)∧h'=h:=by
 apply Oy;unfold DQ;simp only[go_sem,fg,iU];unfold I64 at A;refine ao (λh0=>?_) (λh0=>?_)
 ·exact⟨by congr 1;omega,trivial⟩
 ·exact⟨by congr 1;omega,trivial⟩
theorem oG {h:ah}{m:Nat}{b:Bool}(D:m<340282366920938463463374607431768211456):ag prog dN #[oK m,.bool b] h λr h'=>r=af (jN m b)∧Ext h h':=by
 apply OC;unfold DU;rw[hG];refine aI λG h1 r1 A F=>?_
 unfold jN;cases b
 ·simp only[go_sem,Two.a r1,Two.b r1,gB,cE];refine ao (λh0=>?_) (λh0=>?_)
  ·rw[aA ae];exact⟨rfl,A⟩
  ·rw[az ae,w64 ae ae];exact⟨by congr 1;omega,A⟩
 ·simp only[go_sem,Two.a r1,Two.b r1,cJ];refine ao (λh0=>?_) (λh0=>?_)
  ·rw[aA ae];exact⟨rfl,A⟩
  ·rw[w64 (n:=((m%18446744073709551616:Nat):Int)) ae ae,w64 ae ae];refine⟨?_,A⟩
   congr 1
   split<;>omega
theorem GQ {a b:Nat}(A:a<18446744073709551616)(D:b<18446744073709551616):a*b<340282366920938463463374607431768211456:=by
 have:=Nat.mul_lt_mul'' A D;exact this
theorem PX {h:ah}{a b:Nat}(W:a<18446744073709551616)(I:b<18446744073709551616):
  ag prog qV #[.int .u64 (a:Int),.int .u64 (b:Int)] h λr h'=>r=oK (a*b)∧Ext h h':=by
 apply L6;unfold AW;refine aI λb1 h1 r1 e1 n1=>?_
 have l1:=bC r1;rw[aM,bG,ak,←CB];refine kH (n:=0) λb2 h2 r2 e2 n2=>?_
 refine bI (α:=Unit) 64 0 (λi _=>[af (63-(i:Int))]) (λi _ h'=>Big h' b2 351 (a*(b/2^(64-i)))∧Ext h1 h') () rfl ae ⟨by rw[sJ I];exact r2,e2⟩ λi _ h3 again ρj _ hi ⟨A,L⟩ H=>?_
 simp only[go_sem];have aa:b/2^(64-i)≤b:=jy _ _;have hm:=GQ W (sK aa I);refine ao (λh0=>?_) (λh0=>?_)
 ·have hi:i<64:=ae;have hv:=TC b (63-i);rw[show 63-i+1=64-i by omega]at hv;have F:a*(b/2^(63-i))=2*(a*(b/2^(64-i)))+a*(b/2^(63-i)%2):=by
   conv=>lhs;rw[hv]
   rw[He,CS]
  have G:=GQ W (sK (jy b (2^(63-i))) I);have H:=λh'=>H () h' hi
  rw[show 64-(i+1)=63-i by omega,F]at H;rw[F]at G;generalize a*(b/2^(64-i))=p at*;rw[A.all,ak];refine(nA (n:=p) (bit:=0) ae ae).mono λv h4 ⟨e,e4⟩=>?_
  subst e;have A:=e4.row A;refine iV A λh5 U u5=>?_
  have e5:Ext h1 h5:=(L.trans e4).upd n2 u5;rw[show(63:Int)-(i:Int)=((63-i:Nat):Int)by omega,mA _ ae,ak];rw[Jh (sK (jy _ _) I),ak,vJ,ak];refine ao (λD=>?_) (λD=>?_)
  ·have D:b/2^(63-i)%2=1:=ae;rw[D,lT]at G H;rw[U.all,ak,kI,bG,ak,←CM W];refine(Cd (m:=2*p+0) (n:=a) ae).mono λv D ⟨e,e6⟩=>?_
   subst e;refine iV (e6.row U) λh7 r7 u7=>?_
   rw[w64 ae ae];have:=H h7 ⟨r7,(e5.trans e6).upd n2 u7⟩;rw[show(63:Int)-((i+1:Nat):Int)=((63-i:Nat):Int)-1 by omega]at this;exact this
  ·have D:b/2^(63-i)%2=0:=ae;rw[D,Nat.mul_zero]at H;rw[w64 ae ae];have:=H h5 ⟨U,e5⟩;rw[show(63:Int)-((i+1:Nat):Int)=((63-i:Nat):Int)-1 by omega]at this;exact this
 ·have:i=64:=ae;subst this;rw[show b/2^(64-64)=b by simp]at A;rw[A.all,ak];refine iV (L.row r1) λh4 r4 u4=>?_
  rw[r4.all,ak];exact⟨rfl,(e1.trans L).upd n1 u4⟩
theorem T7 {h:ah}{m d:Nat}(hm:m<340282366920938463463374607431768211456)(hd:d<18446744073709551616)(aa:0<d):
  ag prog uE #[oK m,.int .u64 (d:Int)] h λr h'=>r=.tuple #[oK (m/d),.int .u64 ((m%d:Nat):Int)]∧Ext h h':=by
 apply OA;unfold DS;rw[hG];refine aI λb1 h1 r1 e1 n1=>?_
 refine aI λb2 h2 r2 e2 n2=>?_
 have r1:=e2.row r1;have l1:=bC r1;have l2:=bC r2;rw[aM,bG,ak,←CB];refine kH (n:=0) λb3 h3 A e3 n3=>?_
 have l3:=bC A;rw[ak];refine kH (n:=0) λb4 h4 D e4 n4=>?_
 rw[vJ,ak,show decide ((d:Int)=0)=false from cG ae,cR];have an:Ext h h4:=e1.trans (e2.trans (e3.trans e4));have k2:h.size≤b2:=aZ e1.1 n2;have k3:h.size≤b3:=aZ (e1.trans e2).1 n3;have k4:h.size≤b4:=aZ (e1.trans (e2.trans e3)).1 n4;refine bI (α:=Unit) 128 0 (λi _=>[af (127-(i:Int))]) (λi _ h'=>Big h' b1 351 m∧Two h' b2 351 (.int .u64 0) (.int .u64 0)∧Big h' b3 351 (m/2^(128-i)/d)∧Big h' b4 351 (m/2^(128-i)%d)∧Ext h h')
  () rfl ae ?_ λi _ h5 again ρj _ hi ⟨r1,r2,A,D,e5⟩ H=>?_
 ·have q:m/2^(128-0)=0:=sJ (bX hm (by decide));rw[q,Nat.zero_div,Nat.zero_mod];exact⟨(e3.trans e4).row r1,(e3.trans e4).row r2,e4.row A,D,an⟩
 simp only[go_sem];have hr:m/2^(128-i)%d<d:=gN _ aa;refine ao (λh0=>?_) (λh0=>?_)
 ·have hi:i<128:=ae;have H:=λh'=>H () h' hi
  have hv:=TC m (127-i);rw[show 127-i+1=128-i by omega]at hv;rw[show 128-(i+1)=127-i by omega]at H;have hb:m/2^(127-i)%2≤1:=ae;have hs:=Xy (n:=m/2^(128-i)) aa rfl rfl hb;rw[←hv]at hs;rw[hs.1,hs.2]at H;have hq:2*(m/2^(128-i)/d)+(if d≤2*(m/2^(128-i)%d)+m/2^(127-i)%2 then 1 else 0)<340282366920938463463374607431768211456:=by
   rw[←hs.1];exact sK (aZ (jy _ _) (jy _ _)) hm
  rw[show(127:Int)-((i+1:Nat):Int)=((127-i:Nat):Int)-1 by omega]at H;rw[show(127:Int)-(i:Int)=((127-i:Nat):Int)by omega];have ad:∀h',ag prog iN #[oK m,af ((127-i:Nat):Int)] h' λr ar=>r=.int .u64 ((m/2^(127-i)%2:Nat):Int)∧Ext h' ar:=λh'=>Da hm ae
  generalize m/2^(127-i)%2=bit at*;generalize m/2^(128-i)/d=q at*;generalize m/2^(128-i)%d=r at*;refine aQ (Ext h5) (Ext.refl _) ?_;refine aC _ (λh' e=>Big.all (e.row D)) ?_;refine aC _ (λh' e=>Big.all (e.row r1)) ?_;refine(ad h5).mono λv h6 ⟨e,e6⟩=>?_
  subst e;refine⟨e6,?_⟩;refine(nA (n:=r) (bit:=bit) hb ae).mono λv h7 ⟨e,e7⟩=>?_
  subst e;have G:=e6.trans e7;refine iV (G.row D) λh8 D u8=>?_
  have r1:=u8.row ae (G.row r1);have r2:=u8.row ae (G.row r2);have A:=u8.row ae (G.row A);have e8:=(e5.trans G).upd k4 u8;rw[Big.all A,ak];refine(nA (n:=q) (bit:=0) ae ae).mono λv h9 ⟨e,e9⟩=>?_
  subst e;refine iV (e9.row A) λa7 A W=>?_
  have r1:=W.row ae (e9.row r1);have r2:=W.row ae (e9.row r2);have D:=W.row ae (e9.row D);have aw:=(e8.trans e9).upd k3 W;rw[Big.all D,ak,kI,bG,ak,←CM hd];refine Ce.mono λv au ⟨e,I⟩=>?_
  subst e;have r1:=I.row r1;have r2:=I.row r2;have A:=I.row A;have D:=I.row D;have al:=aw.trans I;rw[VN,ak,WT];refine ao (λhc=>?_) (λhc=>?_)
  ·rw[aA ae,aA ae]at H;rw[aA ae]at hq;rw[Big.all D,ak,ak];refine(PY (m:=2*r+bit) (n:=d) ae ae).mono λv a8 ⟨e,F⟩=>?_
   subst e;refine iV (F.row D) λay D U=>?_
   have r1:=U.row ae (F.row r1);have r2:=U.row ae (F.row r2);have A:=U.row ae (F.row A);have ax:=(al.trans F).upd k4 U;simp only[go_sem,Two.b A];refine bZ A (by simp) rfl λab A L=>?_
   have A:Two ab b3 _ (.int .u64 _) (.int .u64 _):=A;have r1:=L.row ae r1;have r2:=L.row ae r2;have D:=L.row ae D;rw[w64 ae ae];refine H ab ⟨r1,r2,?_,D,ax.upd k3 L⟩;have a1:(((2*q+0)/18446744073709551616:Nat):Int)=(((2*q+1)/18446744073709551616:Nat):Int):=ae;have a2:IntKind.u64.wrap ((((2*q+0)%18446744073709551616:Nat):Int)+1)=(((2*q+1)%18446744073709551616:Nat):Int):=by rw[fg];omega
   rw[a1,a2]at A;exact A
  ·rw[az ae,az ae]at H;rw[w64 ae ae];exact H au ⟨r1,r2,A,D,al⟩
 ·have:i=128:=ae;subst this;rw[show m/2^(128-128)=m by simp]at A D hr;refine aQ (λh'=>Two h' b4 351 (.int .u64 ((m%d/18446744073709551616:Nat):Int)) (.int .u64 ((m%d%18446744073709551616:Nat):Int))∧(Big h' b3 351 (m/d))) ⟨D,A⟩ ?_;refine aC _ (λh' e=>Big.all e.2) ?_;simp only[go_sem];refine aC _ (λh' e=>Two.b e.1) ?_;refine iV r2 λh6 r6 u6=>?_
  refine⟨⟨u6.row ae D,u6.row ae A⟩,?_⟩;rw[r6.all,ak];refine⟨?_,e5.upd k2 u6⟩;rw[vA (Nat.lt_trans hr hd)]
end Go.Proofs.YtjljhnandbbldaaGreatDoor
namespace Go.Crisp
def upS (m n:Nat)(below:Bool):Bool:=if below then decide (2^(n-1)<m%2^n)else decide (2^(n-1)≤m%2^n)
theorem Xr {x:Int}{n:Nat}(hx:I64 x)(h1:1≤n)(h2:n≤64):
  jN (x.natAbs/2^n+(if upS x.natAbs n (decide (x<0))then 1 else 0)) (decide (x<0))=nK x n:=by
 obtain⟨b1,b2⟩:=hx;have an:(0:Nat)<2^(n-1):=wW ae;have U:2^n=2*2^(n-1):=by
  obtain⟨j,rfl⟩:∃j,n=j+1:=⟨n-1,ae⟩
  rw[zj,KR,eO]
 have aa:(2:Int)^n=2*((2^(n-1):Nat):Int):=by
  rw[show(2:Int)^n=((2^n:Nat):Int)by simp,U];simp
 have L:(2:Int)^(n-1)=((2^(n-1):Nat):Int):=by simp
 have G:64≤n→9223372036854775808≤2^(n-1):=λh=>by rw[show n=64 by omega];decide
 have hq:x.natAbs/2^n≤4611686018427387904:=by
  rw[U];refine aZ (Ru (c:=2) ae ae) ?_;omega
 have hs:nK x n=if(64:Int)≤n then 0 else x/2^n+x/2^(n-1)%2:=by
  unfold nK;rw[az ae,eo]
 rw[hs,aa,L];unfold upS;have hm:=mV x.natAbs (2^n);have hr:=gN x.natAbs (show 0<2^n by omega);rw[U]at hm hr hq ⊢;generalize ad:x.natAbs/(2*2^(n-1))=q at*;generalize al:x.natAbs%(2*2^(n-1))=r at*;generalize 2^(n-1)=p at*;have W:(2*p)*q=2*(p*q):=ue _ _ _;rw[W]at hm;have ci:((p*q:Nat):Int)=(p:Int)*q:=lR _ _;by_cases H:x<0
 ·rw [da H];simp only[cJ,dI];unfold jN
  try simp only[cJ]
  by_cases A:(64:Int)≤n
  ·rw[aA A];have:=G ae;have I:q=0:=by
    rcases w9 q with h|h
    ·exact h
    ·have:=Wd p h;omega
   subst I;rw[az (show¬p<r by omega),az ae];rfl
  ·rw [az A,az (by split<;>omega)];by_cases ab:r=0
   ·have e:x=0+2*(p:Int)*(-(q:Int)):=by rw[mU,zh];omega
    have F:x=0+(p:Int)*(-(2*(q:Int))):=by rw[zh,CQ];omega
    have d1:x/(2*(p:Int))= -(q:Int):=by
     conv=>lhs;rw[e]
     rw[ud _ _ ae];simp
    have d2:x/(p:Int)= -(2*(q:Int)):=by
     conv=>lhs;rw[F]
     rw[ud _ _ ae];simp
    rw[d1,d2];rw[az ae];omega
   ·have e:x=(2*p-r:Int)+2*(p:Int)*(-(q:Int)-1):=by rw[mU,Rt,zh];omega
    have d1:x/(2*(p:Int))= -(q:Int)-1:=by
     conv=>lhs;rw[e]
     rw[ud _ _ ae,qR ae ae];simp
    by_cases D:p<r
    ·have F:x=(2*p-r:Int)+(p:Int)*(2*(-(q:Int)-1)):=by rw[CQ,Rt,zh];omega
     have d2:x/(p:Int)=2*(-(q:Int)-1):=by
      conv=>lhs;rw[F]
      rw[ud _ _ ae,qR ae ae];simp
     rw[d1,d2,aA D];omega
    ·have F:x=(p-r:Int)+(p:Int)*(2*(-(q:Int)-1)+1):=by rw[GZ,CQ,Rt,zh];omega
     have d2:x/(p:Int)=2*(-(q:Int)-1)+1:=by
      conv=>lhs;rw[F]
      rw[ud _ _ ae,qR ae ae];simp
     rw[d1,d2,az D];omega
 ·rw [cG H];simp only[gB,cE,dI];unfold jN
  try simp only[gB,cE]
  rw[az (by split<;>omega)];by_cases A:(64:Int)≤n
  ·rw[aA A];have:=G ae;have I:q=0:=by
    rcases w9 q with h|h
    ·exact h
    ·have:=Wd p h;omega
   subst I;rw[az ae];rfl
  ·rw[az A];have e:x=(r:Int)+2*(p:Int)*(q:Int):=by rw[mU];omega
   have d1:x/(2*(p:Int))=(q:Int):=by
    conv=>lhs;rw[e]
    rw[ud _ _ ae,qR ae ae];simp
   by_cases D:p≤r
   ·have F:x=(r-p:Int)+(p:Int)*(2*(q:Int)+1):=by rw[GZ,CQ];omega
    have d2:x/(p:Int)=2*(q:Int)+1:=by
     conv=>lhs;rw[F]
     rw[ud _ _ ae,qR ae ae];simp
    rw[d1,d2,aA D];omega
   ·have F:x=(r:Int)+(p:Int)*(2*(q:Int)):=by rw[CQ];omega
    have d2:x/(p:Int)=2*(q:Int):=by
     conv=>lhs;rw[F]
     rw[ud _ _ ae,qR ae ae];simp
    rw[d1,d2,az D];omega
theorem Xw (m n i:Nat):m%2^n+m/2^i*2^i=m%2^n+m/2^(i+1)*2^(i+1)+m/2^i%2*2^i:=by
 have:=TC m i
 conv=>lhs;rw[this]
 rw[em,KR,ue 2,CS 2,eO 2];omega
theorem Y5 (m i:Nat):m%2^(i+1)=m%2^i+m/2^i%2*2^i:=by
 rw[KR,Nat.mod_mul,eO]
end Go.Crisp
namespace Go.Proofs.YtjljhnandbbldaaGreatDoor
open Go Go.Crisp
attribute [local irreducible] ag di aW stK aF vK qK bK gK fo bA mkK dk Fm GM CJ bsK
open _root_.Go.Proofs.Tryz
theorem T8 {h:ah}{m d:Nat}{bl:Bool}(hm:m<340282366920938463463374607431768211456)(hd:d<18446744073709551616)(F:0<d):
  ag prog sX #[oK m,.int .u64 (d:Int),.bool bl] h λr h'=>r=af (jN (wS m d bl) bl)∧Ext h h':=by
 apply IG;unfold yg;rw[hG];refine aI λb1 h1 r1 e1 n1=>?_
 rw[Big.all r1,ak];refine(T7 hm hd F).mono λv h2 ⟨e,e2⟩=>?_
 subst e;simp only[go_sem];refine kH (n:=m/d) λb2 h3 U e3 n3=>?_
 have hr:m%d<d:=gN _ F;rw[kI,bG,ak,←CM (n:=m%d) ae];refine(nA (n:=m%d) (bit:=0) ae ae).mono λv h4 ⟨e,e4⟩=>?_
 subst e;refine kH (n:=2*(m%d)+0) λb3 h5 r5 e5 n5=>?_
 rw[Big.all r5,ak,kI,bG,ak,←CM hd];refine Ce.mono λv h6 ⟨e,e6⟩=>?_
 subst e;have H:Ext h h6:=e1.trans (e2.trans (e3.trans (e4.trans (e5.trans e6))));have r2:=(e4.trans (e5.trans e6)).row U;have U:=e6.row r5;have k2:h.size≤b2:=aZ (e1.trans e2).1 n3;simp only[go_sem];have hq:m/d≤m:=jy _ _;have A:d≤2*(m%d)→m/d+1<340282366920938463463374607431768211456:=λhh=>by
  have:=Ru (a:=m) (c:=2) (b:=d) ae ae;omega
 refine bB (λxs h'=>xs=[.bool (if bl then decide (d<2*(m%d))else decide (d≤2*(m%d)))]∧Ext h h'∧Big h' b2 351 (m/d)) ?_ ?_
 ·cases bl
  ·rw[cR];refine⟨?_,H,r2⟩
   congr 2
   simp only[gB,cE];exact gL.2 ae
  ·rw[gR];rw[Big.all U];simp only[go_sem];refine Ce.mono λv h7 ⟨e,G⟩=>?_
   subst e;exact⟨by simp only[cJ,iA],H.trans G,G.row r2⟩
 ·rintro xs ρj h7 ⟨rfl,G,W⟩;simp only[go_sem];refine jW (λhc=>?_) (λhc=>?_)
  ·have I:wS m d bl=m/d+1:=by
    unfold wS;cases bl
    ·simp only[gB,cE,dI]at hc ⊢;rw[aA hc]
    ·simp only[cJ,dI]at hc ⊢;rw[aA hc]
   have A:=A (by
    cases bl
    ·simp only[gB,cE,dI]at hc;exact hc
    ·simp only[cJ,dI]at hc;omega)
   rw[Big.all W,ak,kI,bG,ak,←yq];refine(Cd (m:=m/d) (n:=1) A).mono λv h8 ⟨e,e8⟩=>?_
   subst e;refine iV (e8.row W) λh9 r9 u9=>?_
   rw[r9.all,ak];refine(oG (m:=m/d+1) (b:=bl) A).mono λv L ⟨e,D⟩=>?_
   exact⟨by rw[e,I],((G.trans e8).upd k2 u9).trans D⟩
  ·have I:wS m d bl=m/d:=by
    unfold wS;cases bl
    ·simp only[gB,cE,G0]at hc ⊢;rw[az hc];rfl
    ·simp only[cJ,G0]at hc ⊢;rw[az hc];rfl
   rw[Big.all W,ak];refine(oG (m:=m/d) (b:=bl) ae).mono λv L ⟨e,D⟩=>?_
   exact⟨by rw[e,I],G.trans D⟩
theorem VF (a b:Int):(!(decide (a<0)==decide (b<0)))=kJ a b:=rfl
theorem PZ {h:ah}{a b:Int}(U:I64 a)(L:I64 b):ag prog qX #[af a,af b] h λr h'=>r=af (IV a b)∧Ext h h':=by
 apply L9;unfold AZ;simp only[go_sem];unfold IV;refine ao (λh0=>?_) (λh0=>?_)
 ·rw[aA h0];exact⟨rfl,Ext.refl _⟩
 rw[az h0];have aa:=qi U;have ab:=qi L;refine(sb U).mono λv1 h1 ⟨H,w1⟩=>?_
 subst H w1;rw[kI,bG,ak,←CM (n:=a.natAbs) ae];refine(sb L).mono λv1 h1 ⟨H,w1⟩=>?_
 subst H w1;refine(T7 (m:=a.natAbs) (d:=b.natAbs) ae ae ae).mono λv h2 ⟨e,W⟩=>?_
 subst e;simp only[go_sem];refine kH (n:=a.natAbs/b.natAbs) λb2 h3 G e3 n3=>?_
 have hq:a.natAbs/b.natAbs≤a.natAbs:=jy _ _;simp only[go_sem,VF];have D:=W.trans e3;have k2:=aZ W.1 n3;by_cases hd:kJ a b=true∧0<a.natAbs%b.natAbs
 ·have q:(kJ a b&&decide ((0:Int)<((a.natAbs%b.natAbs:Nat):Int)))=true:=by rw[hd.1,da ae];rfl
  rw[q,gR];unfold Fk;rw[aA ⟨hd.1,ae⟩];rw[Big.all G,ak,kI,bG,ak,←yq];refine(Cd (m:=a.natAbs/b.natAbs) (n:=1) ae).mono λv h8 ⟨e,I⟩=>?_
  subst e;refine iV (I.row G) λh9 r9 u9=>?_
  rw[r9.all,ak];refine(oG (m:=a.natAbs/b.natAbs+1) (b:=kJ a b) ae).mono λv F ⟨e,A⟩=>?_
  exact⟨e,((D.trans I).upd k2 u9).trans A⟩
 ·have q:(kJ a b&&decide ((0:Int)<((a.natAbs%b.natAbs:Nat):Int)))=false:=by
   rw[←Bool.not_eq_true,dj,dI];rintro⟨x,y⟩;exact hd ⟨x,ae⟩
  rw[q,cR];unfold Fk;rw[az (by rintro⟨x,y⟩;exact hd ⟨x,ae⟩)];rw[Big.all G,ak];refine(oG (m:=a.natAbs/b.natAbs) (b:=kJ a b) ae).mono λv F ⟨e,A⟩=>?_
  exact⟨e,D.trans A⟩
theorem iZ {h:ah}{a b d:Int}(U:I64 a)(I:I64 b)(hd:I64 d):ag prog dn #[af a,af b,af d] h λr h'=>r=af (cS a b d)∧Ext h h':=by
 apply Kl;unfold An;simp only[go_sem];unfold cS;refine ao (λh0=>?_) (λh0=>?_)
 ·rw[aA h0];exact⟨rfl,Ext.refl _⟩
 rw[az h0];have A:=js U;have D:=js I;have F:=js hd;refine(sb U).mono λL h1 ⟨H,w1⟩=>?_
 subst H w1;refine(sb I).mono λL h1 ⟨H,w1⟩=>?_
 subst H w1;refine(PX A D).mono λv h2 ⟨e,e2⟩=>?_
 subst e;refine kH (n:=a.natAbs*b.natAbs) λb2 h3 r3 e3 n3=>?_
 simp only[go_sem,VF];refine aQ (Ext h3) (Ext.refl _) ?_;refine aC _ (λh' e=>Big.all (e.row r3)) ?_;refine(sb hd).mono λL h4 ⟨W,w4⟩=>?_
 subst W w4;refine⟨Ext.refl _,?_⟩;refine(T8 (bl:= !(kJ a b==decide (d<0))) (GQ A D) F ae).mono λv aa ⟨e,G⟩=>?_
 refine⟨?_,e2.trans (e3.trans G)⟩;rw[e];rfl
theorem Ld {i:Nat}(h:i<128):2^i<340282366920938463463374607431768211456:=by
 have:=Nat.pow_lt_pow_right (a:=2) ae h;exact this
theorem I9 {h:ah}{x n:Int}(hx:I64 x)(hn:I64 n):ag prog ms #[af x,af n] h λr h'=>r=af (nK x n)∧Ext h h':=by
 apply L7;unfold AX;simp only[go_sem];refine ao (λh0=>?_) (λh0=>?_)
 ·unfold nK;rw[aA ae];exact⟨rfl,Ext.refl _⟩
 refine ao (λh1=>?_) (λh1=>?_)
 ·unfold nK;rw[az ae,aA ae];exact⟨rfl,Ext.refl _⟩
 obtain⟨k,rfl⟩:∃k:Nat,n=(k:Int):=⟨n.toNat,ae⟩
 rw[w64 (n:=(k:Int)-1) ae ae];rw[kI,bG,ak,←yq];refine kH (n:=1) λb1 h1 r1 e1 n1=>?_
 -- half
 refine bI (α:=Unit) (k-1) 0 (λi _=>[af (i:Int)]) (λi _ h'=>Big h' b1 351 (2^i)∧Ext h h') () rfl ae ⟨r1,e1⟩ λi _ h2 again ρj _ hi ⟨r2,e2⟩ H=>?_
 simp only[go_sem];refine ao (λhc=>?_) (λhc=>?_)
 ·rw[Big.all r2,ak];have hp:=Ld (i:=i+1) ae;have aw:2^(i+1)=2*2^i:=Rv;refine(nA (n:=2^i) (bit:=0) ae ae).mono λv h3 ⟨e,e3⟩=>?_
  subst e;refine iV (e3.row r2) λh4 r4 u4=>?_
  rw[w64 ae ae];rw[iA,←aw]at r4;exact H () h4 ae ⟨r4,(e2.trans e3).upd n1 u4⟩
 have:i=k-1:=ae;subst this;have A:=e2;refine(sb hx).mono λv1 h3 ⟨e3,w3⟩=>?_
 subst e3 w3;have be:=js hx;rw[kI,bG,ak,←CM be];refine kH (n:=x.natAbs) λb2 h4 r4 e4 n4=>?_
 try simp only[go_sem]
 rw[gC,bG,ak,←CB];refine kH (n:=0) λb3 h5 r5 e5 n5=>?_
 have l1:=bC r2;have l2:=bC r4;have k2:h.size≤b2:=aZ A.1 n4;have k3:h.size≤b3:=aZ (A.trans e4).1 n5;have al:x.natAbs<340282366920938463463374607431768211456:=ae;have D:=Xr hx (n:=k) ae ae;have b0:x.natAbs≤9223372036854775808:=qi hx;generalize bv:x.natAbs=m at*
 -- the quotient
 refine bI (α:=Unit) (128-k) 0 (λi _=>[af (127-(i:Int))])
  (λi _ h'=>Big h' b1 351 (2^(k-1))∧Big h' b2 351 m∧Big h' b3 351 (m/2^(128-i))∧Ext h h')
  () rfl ae ⟨(e4.trans e5).row r2,e5.row r4,by rw[show m/2^(128-0)=0 from sJ (by simpa using al)];exact r5,A.trans (e4.trans e5)⟩ λi _ h6 again ρj _ hi ⟨U,W,I,e6⟩ H=>?_
 simp only[go_sem];refine ao (λhc=>?_) (λhc=>?_)
 ·have H:=λh'=>H () h' ae
  have hv:=TC m (127-i);rw[show 127-i+1=128-i by omega]at hv;rw[show 128-(i+1)=127-i by omega,show(127:Int)-((i+1:Nat):Int)=((127-i:Nat):Int)-1 by omega]at H;have a7:m/2^(127-i)≤m:=jy _ _;have hb:m/2^(127-i)%2≤1:=ae;rw[show(127:Int)-(i:Int)=((127-i:Nat):Int)by omega];refine aQ (Ext h6) (Ext.refl _) ?_;refine aC _ (λh' e=>Big.all (e.row I)) ?_;refine aC _ (λh' e=>Big.all (e.row W)) ?_;refine(Da al (i:=127-i) ae).mono λv h7 ⟨e,e7⟩=>?_
  subst e;refine⟨e7,?_⟩;refine(nA (n:=m/2^(128-i)) (bit:=m/2^(127-i)%2) hb ae).mono λv h8 ⟨e,e8⟩=>?_
  subst e;have ar:=e7.trans e8;refine iV (ar.row I) λh9 r9 u9=>?_
  rw[w64 ae ae];rw[←hv]at r9;exact H h9 ⟨u9.row ae (ar.row U),u9.row ae (ar.row W),r9,(e6.trans ar).upd k3 u9⟩
 have a8:i=128-k:=ae;subst a8;rw[show 128-(128-k)=k by omega]at I;rw[Big.all W,ak];refine kH (n:=m) λb4 h7 r7 e7 n7=>?_
 have l3:=bC I;have l1:=bC U;have l2:=bC W;have k4:h.size≤b4:=aZ e6.1 n7
 -- the rest
 refine bI (α:=Unit) 128 k (λi _=>[af (i:Int)])
  (λi _ h'=>Big h' b1 351 (2^(k-1))∧Big h' b2 351 m∧Big h' b3 351 (m/2^k)∧Big h' b4 351 (m%2^k+m/2^i*2^i)∧Ext h h')
  () rfl ae ⟨e7.row U,e7.row W,e7.row I,by rw[show m%2^k+m/2^k*2^k=m by rw[eO];exact Nat.mod_add_div _ _];exact r7,e6.trans e7⟩ λi _ h8 again ρj a8 hi ⟨U,W,I,q4,e8⟩ H=>?_
 simp only[go_sem];refine ao (λhc=>?_) (λhc=>?_)
 ·have H:=λh'=>H () h' ae
  rw[Big.all W,ak];have an:=Xw m k i;have a7:m%2^k+m/2^i*2^i≤2*m:=by
   have a1:=Nat.mod_le m (2^k);have a2:=G6 m (2^i);omega
  refine(Da al (i:=i) ae).mono λv h9 ⟨e,L⟩=>?_
  subst e;simp only[go_sem];have U:=L.row U;have W:=L.row W;have I:=L.row I;have q4:=L.row q4;have L:=e8.trans L;have l4:=bC q4;refine ao (λhd=>?_) (λhd=>?_)
  ·have hd:m/2^i%2=1:=ae;rw[hd,sH]at an
   try rw[kI,bG,ak,←yq]
   refine kH (n:=1) λb5 ay bo F n10=>?_
   have k5:h.size≤b5:=aZ L.1 n10;refine bI (α:=Unit) i 0 (λj _=>[af (j:Int)]) (λj _ h'=>Big h' b1 351 (2^(k-1))∧Big h' b2 351 m∧Big h' b3 351 (m/2^k)∧Big h' b4 351 (m%2^k+m/2^i*2^i)∧Big h' b5 351 (2^j)∧Ext h h')
    () rfl ae ⟨F.row U,F.row W,F.row I,F.row q4,bo,L.trans F⟩ λj _ bc a9 ρj2 _ hj ⟨U,W,I,q4,q5,ad⟩ H2=>?_
   simp only[go_sem];refine ao (λbg=>?_) (λbg=>?_)
   ·rw[Big.all q5,ak];have hp:=Ld (i:=j+1) ae;have aw:2^(j+1)=2*2^j:=Rv;refine(nA (n:=2^j) (bit:=0) ae ae).mono λv ax ⟨e,A⟩=>?_
    subst e;refine iV (A.row q5) λab aa G=>?_
    rw[w64 ae ae];rw[iA,←aw]at aa;exact H2 () ab ae ⟨G.row ae (A.row U),G.row ae (A.row W),G.row ae (A.row I),G.row ae (A.row q4),aa,(ad.trans A).upd k5 G⟩
   ·have:j=i:=ae;subst this;rw[Big.all q4,ak,Big.all q5,ak];refine(PY (m:=m%2^k+m/2^j*2^j) (n:=2^j) ae ae).mono λv ax ⟨e,A⟩=>?_
    subst e;refine iV (A.row q4) λab aa G=>?_
    rw[w64 ae ae];rw[an,zj]at aa;exact H ab ⟨G.row ae (A.row U),G.row ae (A.row W),G.row ae (A.row I),aa,(ad.trans A).upd k4 G⟩
  ·have hd:m/2^i%2=0:=ae;rw[hd,zk,iA]at an;rw[w64 ae ae];exact H h9 ⟨U,W,I,by rw[←an];exact q4,L⟩
 have:i=128:=ae;subst this;rw[show m%2^k+m/2^128*2^128=m%2^k by rw[sJ (a:=m) (b:=2^128) (by simpa using al)];simp]at q4;rw[Big.all q4,ak,Big.all U,ak];refine Ce.mono λv h9 ⟨e,L⟩=>?_
 subst e;have U:=L.row U;have I:=L.row I;have q4:=L.row q4;have L:=e8.trans L;have k1:=n1;simp only[go_sem];refine bB (λxs h'=>xs=[.bool (upS m k (decide (x<0)))]∧Ext h h'∧Big h' b3 351 (m/2^k)) ?_ ?_
 ·unfold upS;refine ao (λhc=>?_) (λhc=>?_)
  ·rw[Big.all U,ak,Big.all q4,ak];refine Ce.mono λv ay ⟨e,F⟩=>?_
   subst e;rw[da hc];exact⟨by simp only[cJ],L.trans F,F.row I⟩
  ·rw[cG hc];refine⟨?_,L,I⟩;simp only[gB,cE]
   congr 2
   exact gL.2 ae
 ·rintro xs ρj ay ⟨rfl,F,I⟩;simp only[go_sem];have a7:m/2^k≤m:=jy _ _;refine jW (λhc=>?_) (λhc=>?_)
  ·rw[hc,aA rfl]at D;rw[Big.all I,ak]
   try rw[kI,bG,ak,←yq]
   try rw[ak]
   refine(Cd (m:=m/2^k) (n:=1) ae).mono λv bc ⟨e,ad⟩=>?_
   subst e;refine iV (ad.row I) λax bk bd=>?_
   rw[bk.all,ak];refine(oG (m:=m/2^k+1) (b:=decide (x<0)) ae).mono λv ab ⟨e,au⟩=>?_
   exact⟨by rw[e,D],((F.trans ad).upd k3 bd).trans au⟩
  ·rw[hc]at D;simp only[gB,cE,iA]at D;rw[Big.all I,ak];refine(oG (m:=m/2^k) (b:=decide (x<0)) ae).mono λv ab ⟨e,au⟩=>?_
   exact⟨by rw[e,D],F.trans au⟩
theorem R9 {h:ah}{a b n:Int}(ha:I64 a)(hb:I64 b)(hn:I64 n):ag prog qJ #[af a,af b,af n] h λr h'=>r=af (qk a b n)∧Ext h h':=by
 apply GB;unfold wC;simp only[go_sem];have ab:=js ha;have ar:=js hb;refine bB (λxs h'=>xs=[af (n.toNat:Int)]∧h'=h) ?_ ?_
 ·refine ao (λhc=>?_) (λhc=>?_)
  ·exact⟨by rw[Int.toNat_of_nonpos ae];rfl,rfl⟩
  ·exact⟨by rw[wU ae],rfl⟩
 rintro xs ρj h1 ⟨rfl,hh⟩;have hh:=hh.symm;subst hh;simp only[go_sem,VF];unfold qk;refine ao (λh0=>?_) (λh0=>?_)
 ·rw[aA ae];exact⟨rfl,Ext.refl _⟩
 rw[az ae];generalize n.toNat=k at*;refine(sb ha).mono λv1 h1 ⟨e1,w1⟩=>?_
 have w1:=w1.symm;subst e1 w1;refine(sb hb).mono λv1 h1 ⟨e1,w1⟩=>?_
 have w1:=w1.symm;subst e1 w1;refine(PX ab ar).mono λv G ⟨e,e2⟩=>?_
 subst e;have D:=GQ ab ar;generalize kJ a b=bl at*;generalize a.natAbs*b.natAbs=m at*;refine kH (n:=m) λb2 h3 r3 e3 n3=>?_
 have U:=e2.trans e3
 try simp only[go_sem]
 refine ao (λhk=>?_) (λhk=>?_)
 ·obtain rfl:k=0:=ae;rw[Big.all r3,ak];refine(oG (m:=m) (b:=bl) D).mono λv h4 ⟨e,e4⟩=>?_
  exact⟨by rw[e];rfl,U.trans e4⟩
 rw[gC,bG,ak,←CB];refine kH (n:=0) λb3 h5 r5 e5 n5=>?_
 have l2:=bC r3;have k2:h.size≤b2:=aZ e2.1 n3;have k3:h.size≤b3:=aZ U.1 n5;refine bI (α:=Unit) (128-k) 0 (λi _=>[af (127-(i:Int))])
  (λi _ h'=>Big h' b2 351 m∧Big h' b3 351 (m/2^(128-i))∧Ext h h')
  () rfl ae ⟨e5.row r3,by rw[show m/2^(128-0)=0 from sJ (by simpa using D)];exact r5,U.trans e5⟩ λi _ h6 again ρj _ hi ⟨I,F,e6⟩ H=>?_
 simp only[go_sem];refine ao (λhc=>?_) (λhc=>?_)
 ·have H:=λh'=>H () h' ae
  have hv:=TC m (127-i);rw[show 127-i+1=128-i by omega]at hv;rw[show 128-(i+1)=127-i by omega,show(127:Int)-((i+1:Nat):Int)=((127-i:Nat):Int)-1 by omega]at H;have be:m/2^(127-i)≤m:=jy _ _;have hb:m/2^(127-i)%2≤1:=ae;rw[show(127:Int)-(i:Int)=((127-i:Nat):Int)by omega];refine aQ (Ext h6) (Ext.refl _) ?_;refine aC _ (λh' e=>Big.all (e.row F)) ?_;refine aC _ (λh' e=>Big.all (e.row I)) ?_;refine(Da D (i:=127-i) ae).mono λv h7 ⟨e,e7⟩=>?_
  subst e;refine⟨e7,?_⟩;refine(nA (n:=m/2^(128-i)) (bit:=m/2^(127-i)%2) hb ae).mono λv h8 ⟨e,A⟩=>?_
  subst e;have W:=e7.trans A;refine iV (W.row F) λh9 r9 u9=>?_
  rw[w64 ae ae];rw[←hv]at r9;exact H h9 ⟨u9.row ae (W.row I),r9,(e6.trans W).upd k3 u9⟩
 have bk:i=128-k:=ae;subst bk;rw[show 128-(128-k)=k by omega]at F;rw[w64 (n:=(k:Int)-1) ae ae];refine bI (α:=Unit) (k-1) 0 (λi _=>[.bool (decide (m%2^i≠0)),af (i:Int)])
  (λi _ h'=>Big h' b2 351 m∧Big h' b3 351 (m/2^k)∧Ext h h')
  () (by simp[Nat.mod_one]) ae ⟨I,F,e6⟩ λi _ h7 again ρj _ hi ⟨I,F,e7⟩ H=>?_
 simp only[go_sem];refine ao (λhc=>?_) (λhc=>?_)
 ·have H:=λh'=>H () h' ae
  have aa:=Y5 m i;have hp:0<2^i:=wW ae;rw[Big.all I];by_cases hz:m%2^i=0
  ·have q:decide (m%2^i≠0)=false:=cG ae;rw[q];simp only[go_sem];refine(Da D (i:=i) ae).mono λv h8 ⟨e,A⟩=>?_
   subst e;simp only[go_sem];rw[w64 ae ae];have qq:decide (m%2^(i+1)≠0)=decide (((m/2^i%2:Nat):Int)=1):=gL.2 (by
    rw[aa,hz];rcases Nat.mod_two_eq_zero_or_one (m/2^i)with hh|hh
    ·rw[hh];simp
    ·rw[hh];simp)
   have H:=H h8 ⟨A.row I,A.row F,e7.trans A⟩;rw[qq]at H;exact H
  ·have q:decide (m%2^i≠0)=true:=da hz;rw[q];simp only[go_sem];rw[w64 ae ae];have H:=H h7 ⟨I,F,e7⟩;rw[show decide (m%2^(i+1)≠0)=true from da (by rw[aa];omega)]at H;exact H
 have:i=k-1:=ae;subst this;rw[Big.all I,ak,show(k:Int)-1=((k-1:Nat):Int)by omega];refine(Da D (i:=k-1) ae).mono λv h8 ⟨e,A⟩=>?_
 subst e;have F:=A.row F;have A:=e7.trans A;have be:m/2^k≤m/2:=by
  refine Ru ?_ ae;have:=Nat.pow_le_pow_right (n:=2) ae (show 1≤k by omega);omega
 have ad:∀c:Bool,(c=true↔(m/2^(k-1)%2=1∧¬(bl=true∧m%2^(k-1)=0)))→aF (.bool c)
   (ag prog iM #[oK (m/2^k),oK 1] h8 λbg ay=>stK 2 (.pointer (some ⟨b3,0,none⟩)) bg ay λbv al=>vK (aP 2 al (.pointer (some ⟨b3,0,none⟩))) λax=>
    ag prog dN #[ax,.bool bl] al λa7 a9=>a7=af (jN (Ln m k bl) bl)∧Ext h a9)
   (ag prog dN #[oK (m/2^k),.bool bl] h8 λaw bd=>aw=af (jN (Ln m k bl) bl)∧Ext h bd):=by
  intro c au;unfold Ln;rw[az ae];refine jW (λhc=>?_) (λhc=>?_)
  ·rw[aA (au.1 hc)];refine(Cd (m:=m/2^k) (n:=1) ae).mono λv b0 ⟨e,an⟩=>?_
   subst e;refine iV (an.row F) λb1 bo a8=>?_
   rw[bo.all,ak];refine(oG (m:=m/2^k+1) (b:=bl) ae).mono λv bc ⟨e,L⟩=>?_
   exact⟨e,((A.trans an).upd k3 a8).trans L⟩
  ·rw[az (λhh=>by rw[au.2 hh]at hc;cases hc)];refine(oG (m:=m/2^k) (b:=bl) ae).mono λv bc ⟨e,L⟩=>?_
   exact⟨e,A.trans L⟩
 simp only[go_sem,Big.all F];rw[zbg,bG,ak,←yq];refine ad _ ?_;rw[dj,xz,dI,dI];constructor
 ·rintro⟨h1,G⟩;refine⟨ae,?_⟩;rintro⟨h3,h4⟩;rcases G with G|G
  ·exact G h4
  ·rw[h3]at G;cases G
 ·rintro⟨h1,G⟩;refine⟨ae,?_⟩;by_cases h3:bl=true
  ·exact .inl λh4=>G ⟨h3,h4⟩
  ·exact .inr (by simpa using h3)
theorem SA (p m t:Int):IntKind.i64.wrap (p-IntKind.i64.wrap (m+t))=IntKind.i64.wrap (IntKind.i64.wrap (p-m)-t):=by
 rw[Ep,yI];congr 1;omega
theorem Sy (p m t:Int):IntKind.i64.wrap (IntKind.i64.wrap (p+t)-m)=IntKind.i64.wrap (IntKind.i64.wrap (p-m)+t):=by
 rw[yI,uJ];congr 1;omega
theorem zbt {h:ah}{t:Int}(ht:I64 t):ag prog Cu #[af t] h λr h'=>r=af (XU t)∧Ext h h':=by
 apply QQ;unfold FY
 try simp only[go_sem]
 unfold XU;have aa:0≤max 0 t∧max 0 t≤9223372036854775807:=by unfold I64 at ht;omega
 refine bB (λW h'=>W=[af (max 0 t)]∧h'=h) ?_ ?_
 ·refine ao (λhc=>?_) (λhc=>?_)
  ·exact⟨by rw[show max 0 t=0 by omega],rfl⟩
  ·exact⟨by rw[show max 0 t=t by omega],rfl⟩
 rintro W ρj h1 ⟨rfl,hh⟩;have hh:=hh.symm;subst hh;generalize max 0 t=T at*
 try simp only[go_sem]
 refine(PZ (by unfold I64;omega) (by unfold I64;omega)).mono λU h1 ⟨e,e1⟩=>?_
 subst e;rw[qB (by unfold I64;omega) ae];simp only[go_sem];rw[w64 (n:=T/762123384786*762123384786) ae ae,w64 (n:=T-T/762123384786*762123384786) ae ae];rw[show T-T/762123384786*762123384786=T%762123384786 by omega];have hr:0≤T%762123384786∧T%762123384786<762123384786:=ae;generalize ab:T%762123384786=r at*;refine bI (α:=Int×Int) 16 0 (λi a=>[af a.1,af a.2,af (fH r i).2,af ((i:Int)+1)]) (λi a h'=>IntKind.i64.wrap (a.1-a.2)=(fH r i).1∧Ext h h') (1099511627776,0) rfl ae ⟨show IntKind.i64.wrap (1099511627776-0)=1099511627776 from w64 ae ae,e1⟩ λi a h2 again ρj _ hi ⟨F,L⟩ H=>?_
 obtain⟨P,M⟩:=a;simp only[go_sem];obtain⟨s1,s2⟩:=BZ r i;refine ao (λh0=>?_) (λh0=>?_)
 ·rw[w64 (n:=((i:Int)+1)*1099511627776) ae ae];refine(iZ s2 (by unfold I64;omega) (by unfold I64;omega)).mono λU G ⟨e,D⟩=>?_
  subst e;rw[dP _ _ _ _ ae,ak,jV ae];simp only[go_sem];have A:(fH r (i+1)).1=IntKind.i64.wrap (if i%2=0 then(fH r i).1-(fH r (i+1)).2 else(fH r i).1+(fH r (i+1)).2):=rfl;have I:(fH r (i+1)).2=cS (fH r i).2 r (((i:Int)+1)*1099511627776):=rfl;rw[←I];rw[w64 (n:=(i:Int)+1+1) ae ae,show(i:Int)+1+1=((i+1:Nat):Int)+1 by omega];refine ao (λh4=>?_) (λh4=>?_)
  ·refine H (P,_) G ae ⟨?_,L.trans D⟩;rw[A,aA ae,←F];exact SA _ _ _
  ·refine H (_,M) G ae ⟨?_,L.trans D⟩;rw[A,az ae,←F];exact Sy _ _ _
 ·have:i=16:=ae;subst this;rw[F];refine(I9 s1 (by unfold I64;omega)).mono λU G ⟨e,D⟩=>?_
  exact⟨e,L.trans D⟩
theorem X2 {h:ah}{d s:Int}(hd:I64 d)(D:I64 s):ag prog xH #[af d,af s] h λr h'=>r=af (Ez d s)∧Ext h h':=by
 apply L3;unfold AT;simp only[go_sem];unfold Ez;refine ao (λh0=>?_) (λh0=>?_)
 ·rw[aA ae];exact⟨rfl,Ext.refl _⟩
 ·rw[az ae];have h1:=Pd (d:=d) (B:=16384) ae ae;have A:=Pd (d:=s) (B:=4194304) ae ae;rw[w64 (n:=d*d) ae ae,w64 (n:=d*d*2147483648) ae ae,w64 (n:=s*s) ae ae];exact iZ (by unfold I64;omega) (by unfold I64;omega) (by unfold I64;omega)
theorem X3 {h:ah}{d s:Int}(hd:I64 d)(F:I64 s):ag prog xI #[af d,af s] h λr h'=>r=af (BW d s)∧Ext h h':=by
 apply L4;unfold AU;refine(X2 hd F).mono λA h1 ⟨e,D⟩=>?_
 subst e;refine(zbt (LO _ _)).mono λA L ⟨e,G⟩=>?_
 subst e;refine(I9 (Na _) (by unfold I64;omega)).mono λA I ⟨e,H⟩=>?_
 exact⟨e,D.trans (G.trans H)⟩
theorem zbs {h:ah}{p q:Int}(A:I64 p)(hq:I64 q):ag prog Ct #[af p,af q] h λr h'=>r=.bool (decide (Kv p q))∧h'=h:=by
 apply QP;unfold FX;simp only[go_sem];unfold I64 at*;refine ao (λh0=>?_) (λh0=>?_)
 ·exact⟨by rw[cG];unfold Kv;omega,trivial⟩
 ·refine⟨?_,trivial⟩
  congr 1
  rw[gL,w64 (n:= -4*q) ae ae,w64 (n:=4*q) ae ae];unfold Kv;omega
theorem Nq {h:ah}{p q:Int}(hp:I64 p)(h0:p≠ -9223372036854775808)(hq:I64 q):ag prog pf #[af p,af q] h λr h'=>r=af (yR p q)∧Ext h h':=by
 apply Kk;unfold Am;unfold yR;simp only[go_sem];unfold I64 at hp;refine bB (λxs h'=>xs=[af (max p (-p))]∧h'=h) ?_ ?_
 ·refine ao (λhc=>?_) (λhc=>?_)
  ·rw[w64 ae ae];exact⟨by rw[show max p (-p)=0-p by omega],rfl⟩
  ·exact⟨by rw[show max p (-p)=p by omega],rfl⟩
 rintro xs ρj h1 ⟨rfl,hh⟩;have hh:=hh.symm;subst hh;have L:I64 (max p (-p)):=by unfold I64 at*;omega
 simp only[go_sem];refine(iZ (by unfold I64;omega) L hq).mono λW h1 ⟨e,e1⟩=>?_
 subst e;refine(iZ (gm _ _ _) L hq).mono λW h2 ⟨e,e2⟩=>?_
 subst e;have hu:=gm (cS 10851744800547 (max p (-p)) q) (max p (-p)) q;generalize cS (cS 10851744800547 (max p (-p)) q) (max p (-p)) q=u at*;refine bI (α:=Int×Int) 30 0 (λi a=>[af a.1,af a.2,af (cA u i).2,af ((i:Int)+1)]) (λi a h'=>IntKind.i64.wrap (a.1-a.2)=(cA u i).1∧Ext h h') (1099511627776,0) rfl ae ⟨show IntKind.i64.wrap (1099511627776-0)=1099511627776 from w64 ae ae,e1.trans e2⟩ λi a h3 again ρj _ hi ⟨F,D⟩ H=>?_
 obtain⟨P,M⟩:=a;simp only[go_sem];obtain⟨s1,s2⟩:=yQ u i;refine ao (λh0=>?_) (λh0=>?_)
 ·have aa:=Pd (d:=(i:Int)+1) (B:=30) ae ae;have he:=Ss ((i:Int)+1);rw[w64 (n:=2*((i:Int)+1)) ae ae,w64 (n:=2*((i:Int)+1)+1) ae ae,w64 (n:=2*((i:Int)+1)*(2*((i:Int)+1)+1)) ae ae,
   w64 (n:=2*((i:Int)+1)*(2*((i:Int)+1)+1)*1099511627776) ae ae]
  refine(iZ s2 hu (by unfold I64;omega)).mono λW U ⟨e,I⟩=>?_
  subst e;rw[dP _ _ _ _ ae,ak,jV ae];simp only[go_sem];have A:(cA u (i+1)).1=IntKind.i64.wrap (if i%2=0 then(cA u i).1-(cA u (i+1)).2 else(cA u i).1+(cA u (i+1)).2):=rfl;have G:(cA u (i+1)).2=cS (cA u i).2 u (2*((i:Int)+1)*(2*((i:Int)+1)+1)*1099511627776):=rfl;rw[←G];rw[w64 (n:=(i:Int)+1+1) ae ae,show(i:Int)+1+1=((i+1:Nat):Int)+1 by omega];refine ao (λh5=>?_) (λh5=>?_)
  ·refine H (P,_) U ae ⟨?_,D.trans I⟩;rw[A,aA ae,←F];exact SA _ _ _
  ·refine H (_,M) U ae ⟨?_,D.trans I⟩;rw[A,az ae,←F];exact Sy _ _ _
 ·have:i=30:=ae;subst this;exact⟨by rw[F],D⟩
theorem T6 {h:ah}{p q:Int}(D:I64 p)(hq:I64 q):ag prog sW #[af p,af q] h λr h'=>r=af (vD p q)∧Ext h h':=by
 apply IF;unfold yf;unfold vD;refine(zbs D hq).mono λA h1 ⟨H,w1⟩=>?_
 have w1:=w1.symm;subst H w1;by_cases G:Kv p q
 ·have F:=G;unfold Kv at F;simp only[go_sem,G];rw[w64 (n:=3*q) ae ae,w64 (n:= -3*q) ae ae];refine ao (λh0=>?_) (λh0=>?_)
  ·rw[aA ae];exact⟨rfl,Ext.refl _⟩
  ·rw[az ae];refine(Nq D ae hq).mono λA h1 ⟨e,H⟩=>?_
   subst e;refine(Nq D ae (by unfold I64;omega)).mono λA W ⟨e,U⟩=>?_
   subst e;refine(R9 (wN _ _) (wN _ _) (by unfold I64;omega)).mono λA h3 ⟨e,L⟩=>?_
   subst e;refine(I9 (xv _ _ _) (by unfold I64;omega)).mono λA h4 ⟨e,I⟩=>?_
   exact⟨e,H.trans (U.trans (L.trans I))⟩
 ·simp only[go_sem,G];rw[aA trivial];exact⟨rfl,Ext.refl _⟩
end Go.Proofs.YtjljhnandbbldaaGreatDoor
namespace Go.Crisp
def inW (f n m i j:Int):Prop:=if f=0 then i*n<(j+1)*m∧j*m<(i+1)*n else
 2*m*j-(2*i+1)*n+m<cU f*(2*max n m)∧ -(cU f*(2*max n m))<2*m*j-(2*i+1)*n+m
instance (f n m i j:Int):Decidable (inW f n m i j):=by unfold inW;infer_instance
theorem WH {f n m i j:Int}(h:vw f n m i):inW f n m i j↔qn f n m i≤j∧j<ns f n m i:=by
 obtain⟨f0,f1,I,D,F,m1,G,H⟩:=h;unfold inW qn ns Ni;split
 ·have a1:= @Int.ediv_lt_iff_lt_mul (i*n) (j+1) m ae;have a2:= @Int.ediv_lt_iff_lt_mul (-((i+1)*n)) (-j) m ae;rw[RC]at a2;constructor
  ·rintro⟨h1,A⟩;have:=a1.2 h1;have:=a2.2 ae;omega
  ·rintro⟨h1,A⟩;have:=a1.1 ae;have:=a2.1 ae;omega
 ·have a1:= @Int.ediv_lt_iff_lt_mul ((2*i+1)*n-m-cU f*2*max n m) j (2*m) ae;have a2:= @Int.ediv_lt_iff_lt_mul (-((2*i+1)*n-m+cU f*2*max n m)) (-j) (2*m) ae;rw[RC]at a2;rw[fU j]at a1 a2;rw[mU (cU f)]at a1 a2;rw[mU (cU f)];constructor
  ·rintro⟨h1,A⟩;have:=a1.2 ae;have:=a2.2 ae;omega
  ·rintro⟨h1,A⟩;have:=a1.1 ae;have:=a2.1 ae;omega
theorem Lk {f n m i:Int}(h:vw f n m i):qn f n m i≤i*n/m∧i*n/m<ns f n m i:=by
 rw[←WH h];obtain⟨f0,f1,n0,W,m0,m1,i0,i1⟩:=h;have hq:=vy (i*n) m;have hr:=kz (i*n) (show m≠0 by omega);have H:=iB (i*n) (show 0<m by omega);generalize i*n/m=j at*;generalize i*n%m=r at*;unfold inW;have L:(j+1)*m=m*j+m:=by rw[jw,kr,fU]
 have U:(i+1)*n=i*n+n:=by rw[jw,kr]
 have G:(2*i+1)*n=2*(i*n)+n:=by rw[jw,kr,mU]
 have D:2*m*j=2*(m*j):=mU _ _ _;have I:j*m=m*j:=fU _ _;split
 ·rw[L,U,I];omega
 ·rw[G,D];have A:cU f=2∨cU f=3:=by unfold cU;rename_i F;rw[az F];split<;>omega
  rcases A with A|A<;>rw[A]<;>omega
end Go.Crisp
namespace Go.Proofs.YtjljhnandbbldaaGreatDoor
open Go Go.Crisp
attribute [local irreducible] ag di aW stK aF vK qK bK gK fo bA mkK dk Fm GM CJ bsK
open _root_.Go.Proofs.Tryz
theorem zbq {h:ah}{f n m i:Int}:ag prog Cs #[af f,af n,af m,af i] h λr h'=>r=.bool (decide (vw f n m i))∧h'=h:=by
 apply QO;unfold FW;simp only[go_sem];refine⟨?_,trivial⟩
 congr 1
 rw[gL];unfold vw;omega
abbrev jB (j:Int):Prop:= -137438953472≤j∧j≤137438953472
theorem Ia {h:ah}{f n m i j:Int}(D:vw f n m i)(hj:jB j):ag prog lJ #[af n,af m,af i,af j] h λr h'=>
  r=.tuple #[af (2*m*j-(2*i+1)*n+m),af (2*max n m)]∧h'=h:=by
 apply GA;unfold wB;simp only[go_sem];have H:=UY D;obtain⟨b1,b2,U,b4,W⟩:=H;obtain⟨f0,f1,n0,L,m0,m1,i0,i1⟩:=D;have G:=KB (a:=j) (A:=137438953472) (b:=m) (B:=65536) ae ae ae ae;have I:2*m*j=2*(j*m):=by rw[mU,fU m j]
 rw[w64 (n:=2*m) ae ae,w64 (n:=2*n) ae ae,w64 (n:=2*m*j) ae ae,w64 (n:=2*i) ae ae,w64 (n:=2*i+1) ae ae,w64 (n:=(2*i+1)*n) ae ae,
  w64 (n:=2*m*j-(2*i+1)*n) ae ae,w64 (n:=2*m*j-(2*i+1)*n+m) ae ae]
 refine bB (λF h'=>F=[af (2*max n m)]∧h'=h) ?_ ?_
 ·refine ao (λhc=>?_) (λhc=>?_)
  ·exact⟨by rw[show max n m=m by omega],rfl⟩
  ·exact⟨by rw[show max n m=n by omega],rfl⟩
 rintro F ρj h1 ⟨rfl,hh⟩;exact⟨rfl,hh⟩
theorem zbr {h:ah}{f n m i j:Int}(F:vw f n m i)(U:jB j):ag prog qI #[af f,af n,af m,af i,af j] h λr h'=>
  r=.bool (decide (inW f n m i j))∧h'=h:=by
 apply Te;unfold Js;simp only[go_sem];have G:=F;have I:=UY F;obtain⟨b1,b2,b3,b4,b5⟩:=I;obtain⟨f0,f1,n0,n1,m0,m1,i0,i1⟩:=F;have H:=KB (a:=j) (A:=137438953472) (b:=m) (B:=65536) ae ae ae ae;have L:(j+1)*m=j*m+m:=by rw[jw,kr]
 refine ao (λD=>?_) (λD=>?_)
 ·rw[w64 (n:=i+1) ae ae,w64 (n:=(i+1)*n) ae ae,w64 (n:=j+1) ae ae,w64 (n:=(j+1)*m) ae ae,w64 (n:=i*n) ae ae,w64 (n:=j*m) ae ae];refine⟨?_,trivial⟩
  congr 1
  rw[gL];unfold inW;rw[aA D]
 ·refine(Ia G U).mono λv1 h1 ⟨W,w1⟩=>?_
  have w1:=w1.symm;subst W w1;simp only[go_sem];rw[w64 (n:=2*(2*max n m)) ae ae,w64 (n:=3*(2*max n m)) ae ae,w64 (n:=0-2*(2*max n m)) ae ae,w64 (n:=0-3*(2*max n m)) ae ae];refine ao (λhc=>?_) (λhc=>?_)
  ·refine⟨?_,trivial⟩
   congr 1
   rw[gL];unfold inW cU;rw[az D,az D,az ae];omega
  ·refine⟨?_,trivial⟩
   congr 1
   rw[gL];unfold inW cU;rw[az D,az D,aA ae];omega
theorem Vq {h:ah}{f n m i j:Int}(A:vw f n m i)(D:jB j):ag prog qI #[af f,af n,af m,af i,af j] h λr h'=>
  r=.bool (decide (qn f n m i≤j∧j<ns f n m i))∧h'=h:=
 (zbr A D).mono λv h1 ⟨e,w⟩=>⟨by rw[e];congr 1;exact gL.2 (WH A),w⟩
theorem ZR {h:ah}{p q:Int}(G: -4611686018427387904≤p∧p≤4611686018427387904)(hq:I64 q):ag prog zP #[af p,af q] h λr h'=>r=af (HC p q)∧Ext h h':=by
 apply Ox;unfold DP
 try simp only[go_sem]
 unfold HC;refine ao (λh0=>?_) (λh0=>?_)
 ·rw[aA ae];exact⟨rfl,Ext.refl _⟩
 rw[w64 (n:=2*q) ae ae,w64 (n:= -2*q) ae ae];refine ao (λh1=>?_) (λh1=>?_)
 ·rw[aA ae];exact⟨rfl,Ext.refl _⟩
 rw[az ae];refine bB (λD h'=>D=[af (max p (-p))]∧h'=h) ?_ ?_
 ·refine ao (λhc=>?_) (λhc=>?_)
  ·rw[w64 ae ae];exact⟨by rw[show max p (-p)=0-p by omega],rfl⟩
  ·exact⟨by rw[show max p (-p)=p by omega],rfl⟩
 rintro D ρj F ⟨rfl,hh⟩;have hh:=hh.symm;subst hh;generalize max p (-p)=a
 try simp only[go_sem]
 simp only[yJ,Er,uJ,p8,yI,Ep];unfold Vk;refine ao (λh1=>?_) (λh1=>?_)
 ·rw[az ae];have A:3*(a*a*a)-5*(a*a)*q+2*(q*q*q)=3*(a*a*a)-5*(a*a*q)+2*(q*q*q):=by grind
  rw[A];exact iZ (kc _) (by unfold I64;omega) (kc _)
 ·rw[aA ae];have A:5*(a*a)*q-a*a*a-8*a*(q*q)+4*(q*q*q)=4*(q*q*q)+5*(a*a*q)-a*a*a-8*(a*q*q):=by grind
  rw[A];exact iZ (kc _) (by unfold I64;omega) (kc _)
theorem Vp {h:ah}{f n m i j:Int}(G:vw f n m i)(hj:jB j):ag prog vQ #[af f,af n,af m,af i,af j] h λr h'=>
  r=af (yN f n m i j)∧Ext h h':=by
 apply Kj;unfold Al
 try simp only[go_sem]
 have H:=G;have U:=UY G;obtain⟨b1,b2,b3,b4,b5⟩:=U;obtain⟨f0,f1,n0,n1,m0,m1,i0,i1⟩:=G;unfold yN;have L:=KB (a:=j) (A:=137438953472) (b:=m) (B:=65536) ae ae ae ae;have W:(j+1)*m=j*m+m:=by rw[jw,kr]
 have aa:2*m*j=2*(j*m):=by rw[mU,fU m j]
 refine ao (λF=>?_) (λF=>?_)
 ·rw[aA F];rw[w64 (n:=i+1) ae ae,w64 (n:=(i+1)*n) ae ae,w64 (n:=j+1) ae ae,w64 (n:=(j+1)*m) ae ae,w64 (n:=i*n) ae ae,w64 (n:=j*m) ae ae];refine bB (λI h'=>I=[af (max (i*n) (j*m))]∧h'=h) ?_ ?_
  ·refine ao (λhc=>?_) (λhc=>?_)
   ·exact⟨by rw[show max (i*n) (j*m)=j*m by omega],rfl⟩
   ·exact⟨by rw[show max (i*n) (j*m)=i*n by omega],rfl⟩
  rintro I ρj h2 ⟨rfl,hh⟩;have hh:=hh.symm;subst hh;simp only[go_sem];refine ao (λhc=>?_) (λhc=>?_)
  ·rw[w64 ae ae,show min ((i+1)*n) ((j+1)*m)=(j+1)*m by omega];exact iZ (by unfold I64;omega) (by unfold I64;omega) (by unfold I64;omega)
  ·rw[w64 ae ae,show min ((i+1)*n) ((j+1)*m)=(i+1)*n by omega];exact iZ (by unfold I64;omega) (by unfold I64;omega) (by unfold I64;omega)
 rw[az F];refine(Ia H hj).mono λv1 h1 ⟨e1,w1⟩=>?_
 have w1:=w1.symm;subst e1 w1;simp only[go_sem];refine ao (λD=>?_) (λD=>?_)
 ·rw[aA D];exact ZR ae (by unfold I64;omega)
 ·rw[az D];exact T6 (by unfold I64;omega) (by unfold I64;omega)
theorem zbp {h:ah}{f n m i:Int}:ag prog xf #[af f,af n,af m,af i] h λr h'=>
  ∃v,r=.tuple #[af (eW f n m i),v]∧New (Rp.int .i64) h h' v (c5 f n m i):=by
 apply QN;unfold FV;refine zbq.mono λv1 h1 ⟨I,w1⟩=>?_
 have w1:=w1.symm;subst I w1;unfold eW c5;by_cases A:vw f n m i
 ·rw[aA A,aA A];simp only[go_sem,A];have au:=MI A;have al:=Lk A;have ad:=UY A;obtain⟨b1,b2,b3,b4,b5⟩:=ad;have ab:=A;obtain⟨f0,f1,n0,n1,m0,m1,i0,i1⟩:=ab;have an:=rZ (a:=i*n) (b:=m) (L:=0) (U:=4294967296) ae ae ae ae ae;rw[w64 (n:=i*n) ae ae,mo _ _ _ _ ae,ak,wV b1.1,w64 ae ae];generalize D:qn f n m i=lo at*;generalize F:ns f n m i=hi at*;generalize i*n/m=W at*;refine lF (λk=>[af (W-(k:Int))]) (W-lo).toNat 0 (by simp) (b9 _) λk again ρj _ hk H=>?_
  simp only[go_sem];rw[w64 (n:=W-(k:Int)-1) ae ae];refine(Vq A ae).mono λv1 h1 ⟨I,w1⟩=>?_
  have w1:=w1.symm;subst I w1;rw[D,F];refine ao (λhc=>?_) (λhc=>?_)
  ·have H:=H ae;rw[show W-((k+1:Nat):Int)=W-(k:Int)-1 by omega]at H;exact H
  have hk:W-(k:Int)=lo:=ae;rw[hk];refine lF (λk=>[af lo]) 0 0 rfl (cq _) λk2 aa ρj2 _ ar _=>?_
  simp only[go_sem];refine(Vq A ae).mono λv1 h1 ⟨I,w1⟩=>?_
  have w1:=w1.symm;subst I w1;rw[D,F,da ae];simp only[go_sem];refine bI (hi-lo).toNat 0 (λk v=>[af (lo+(k:Int)),v]) (λk v h'=>New (Rp.int .i64) h h' v ((Dh f n m i).take k)) (.slice none 0 0) (by simp) (b9 _) (New.nil (Ext.refl _)) λk v h2 again ρj _ hk hI H=>?_
  simp only[go_sem];have hl:(Dh f n m i).length=(hi-lo).toNat:=by unfold Dh;rw[cQ,eN,D,F]
  refine(Vq A ae).mono λv1 h3 ⟨I,w1⟩=>?_
  have w1:=w1.symm;subst I w1;rw[D,F];refine ao (λh0=>?_) (λh0=>?_)
  ·refine(Vp A ae).mono λv2 h3 ⟨e2,w2⟩=>?_
   subst e2;have G:((Dh f n m i).take k).length=k:=by rw[db];omega
   refine(hI.ext w2).push_int rfl (by rw[G];omega) (by rw[G];omega) λs' h' H'=>?_
   try simp only[go_sem]
   rw[w64 ae ae];have:=H s' h' ae (by
    have e:=nI (λk:Nat=>yN f n m i (qn f n m i+k)) (ns f n m i-qn f n m i).toNat k ae;unfold Dh at H' ⊢;rw[e,D];rw[D]at H';exact H')
   rw[show lo+((k+1:Nat):Int)=lo+(k:Int)+1 by omega]at this;exact this
  ·rw[eS ae]at hI;exact⟨v,rfl,hI⟩
 ·rw[az A,az A];simp only[go_sem,A];exact⟨_,rfl,New.nil (Ext.refl _)⟩
end Go.Proofs.YtjljhnandbbldaaGreatDoor
namespace Go.Proofs.YtjljhnandbbldaaGreatDoor
open Go Go.Crisp
attribute [local irreducible] ag di aW stK aF vK qK bK gK fo bA mkK dk Fm GM CJ bsK clK
open _root_.Go.Proofs.Tryz
theorem T4 {h:ah}{a b:Int}(D:I64 a)(A:I64 b):ag prog uB #[af a,af b] h λr h'=>r=af (Dw a b)∧h'=h:=by
 apply Oo;unfold DK;simp only[go_sem,iU];unfold Dw I64 at*;refine ao (λh0=>?_) (λh0=>?_)
 ·exact⟨by congr 1;omega,trivial⟩
 refine ao (λh1=>?_) (λh1=>?_)
 ·exact⟨by congr 1;omega,trivial⟩
 ·exact⟨by congr 1;omega,trivial⟩
theorem T5 {h:ah}{x:Int}(A:I64 x):ag prog uC #[af x] h λr h'=>r=af (nh x)∧h'=h:=by
 apply Ot;unfold DM;rw[FI A];simp only[go_sem,iU];unfold I64 at*;refine ao (λh0=>?_) (λh0=>?_)
 ·exact⟨by congr 1;omega,trivial⟩
 refine ao (λh1=>?_) (λh1=>?_)
 ·exact⟨by congr 1;omega,trivial⟩
 ·exact⟨by congr 1;omega,trivial⟩
theorem zbo {Z:Nat→Prop}{h:ah}{v:Value}{l:List Int}(H:SlI Z h v l)(D:∀x∈l,I64 x)(hl:l.length<4611686018427387904):ag prog Cr #[v] h λr h'=>r=af (mN l)∧h'=h:=by
 apply QM;unfold FU;obtain⟨a,cap,e⟩:=H.isSl;have U:aD v=some (af (l.length:Int)):=by rw[e];rfl
 rw[U,ak];refine lF (λi=>[af ((l.take i).foldl Dw 0),af (i:Int)]) l.length 0 rfl (b9 _) λi again ρj _ hi F=>?_
 simp only[go_sem];refine ao (λh0=>?_) (λh0=>?_)
 ·have A:i<l.length:=ae;obtain⟨p,I,G⟩:=H.int_at (k':=.i64) A;simp only[go_sem,I,G];refine(T4 (qA yE _ _ yG) (D _ (cO _))).mono λW h1 ⟨L,w1⟩=>?_
  subst L w1;rw[w64 ae ae];have:=F A;rw[CD A]at this;exact this
 ·rw[eS ae];exact⟨rfl,trivial⟩
theorem X0 {Z:Nat→Prop}{h:ah}{v:Value}{l:List Int}(H:SlI Z h v l)(D:∀x∈l,I64 x)(hl:l.length<4611686018427387904):ag prog xG #[v] h λr h'=>r=af (mP l)∧h'=h:=by
 apply L2;unfold AS;obtain⟨a,cap,e⟩:=H.isSl;have e2:aD v=some (af (l.length:Int)):=by rw[e];rfl
 rw[e2,ak];refine lF (λi=>[af ((l.take i).foldl (λs x=>Dw s (nh x)) 0),af (i:Int)]) l.length 0 rfl (b9 _) λi again ρj _ hi F=>?_
 simp only[go_sem];refine ao (λh0=>?_) (λh0=>?_)
 ·have A:i<l.length:=ae;obtain⟨p,U,L⟩:=H.int_at (k':=.i64) A;simp only[go_sem,U,L];have I:=D _ (cO A);refine(T5 I).mono λW h1 ⟨G,w1⟩=>?_
  subst G w1;refine(T4 (qA (λa b=>yE a (nh b)) _ _ yG) (Pf I)).mono λW h1 ⟨G,w1⟩=>?_
  subst G w1
  try simp only[go_sem]
  rw[w64 ae ae];have:=F A;rw[CD A]at this;exact this
 ·rw[eS ae];exact⟨rfl,trivial⟩
theorem NZ (l:List Int):0≤mP l∨¬ ∀x∈l,I64 x:=by
 by_cases h:∀x∈l,I64 x
 ·left;unfold mP;have:∀(l:List Int) (s:Int),(∀x∈l,I64 x)→0≤s→0≤l.foldl (λs x=>Dw s (nh x)) s:=by
   intro l;induction l with
   |nil=>intro s _ A;exact A
   |cons x l D=>
    intro s h A;refine D _ (λy G=>h y (by simp[G])) ?_;have F:=FI (h x (by simp));show 0≤Dw s (nh x);rw[F];unfold Dw;omega
  exact this l 0 h (fT _)
 ·exact .inr h
theorem Np {Z:Nat→Prop}{h:ah}{v:Value}{l:List Int}(H:SlI Z h v l)(F:∀x∈l,I64 x)(hl:l.length<4611686018427387904):
  ag prog pe #[v] h λr h'=>∃u,r=.tuple #[u,af (AM l)]∧New (Rp.int .i64) h h' u (rj l):=by
 apply Oq;unfold DL;refine(X0 H F hl).mono λv1 h1 ⟨e1,w1⟩=>?_
 have w1:=w1.symm;subst e1 w1;obtain⟨a,cap,e⟩:=H.isSl;have U:aD v=some (af (l.length:Int)):=by rw[e];rfl
 simp only[go_sem,U];rw[dP _ _ _ _ ae,ak,jV ae];simp only[go_sem,U];unfold AM rj;have hs:=Ll l;have aa:0≤mP l:=(NZ l).resolve_right λhh=>hh F
 refine ao (λh0=>?_) (λh0=>?_)
 ·have:jP l:=by unfold jP;omega
  rw[aA this,aA this];exact⟨_,rfl,New.nil (Ext.refl _)⟩
 ·have I:¬jP l:=by unfold jP;omega
  rw[az I,az I];refine bI l.length 0 (λk u=>[u,af (k:Int)]) (λk u h'=>New (Rp.int .i64) h h' u ((l.map λx=>cS x 1073741824 (mP l)).take k)) (.slice none 0 0) rfl (b9 _) (New.nil (Ext.refl _)) λk u h2 again ρj _ hk G L=>?_
  simp only[go_sem];refine ao (λh0=>?_) (λh0=>?_)
  ·have D:k<l.length:=ae;obtain⟨p,e3,W⟩:=(H.ext G.2.1).int_at (k':=.i64) D;simp only[go_sem,e3,W];refine(iZ (F _ (cO _)) (by unfold I64;omega) hs).mono λv2 h3 ⟨e5,w5⟩=>?_
   subst e5;have A:((l.map λx=>cS x 1073741824 (mP l)).take k).length=k:=by rw[db,cQ];omega
   unfold jP at I;refine(G.ext w5).push_int rfl (by rw[A];omega) (by rw[A];omega) λs' h' H'=>?_
   try rw[dw,ak]
   rw[w64 ae ae];have:=L s' h' D (by rw[Ej _ _ D];exact H');exact this
  ·rw[eS (by rw[cQ];omega)]at G;exact⟨u,rfl,G⟩
theorem R8 {h:ah}{s:Int}(hs:I64 s):ag prog qH #[af s] h λr h'=>∃u,r=.tuple #[u,af (Fi s)]∧New (Rp.int .i64) h h' u (oF s):=by
 apply Gz;unfold wA;simp only[go_sem];unfold Fi oF;refine ao (λh0=>?_) (λh0=>?_)
 ·have:mm s:=h0;rw[aA this,aA this];exact⟨_,rfl,New.nil (Ext.refl _)⟩
 ·have I:¬mm s:=h0;rw[az I,az I];have hr:0≤gF s∧gF s≤193∧65536*gF s≥3*s∧65536*(gF s-1)<3*s:=by unfold gF;omega
  generalize gF s=q at*;refine lF (λk=>[af (k:Int)]) q.toNat 0 rfl (b9 _) λk again ρj _ hk D=>?_
  simp only[go_sem];rw[w64 (n:=(k:Int)*65536) ae ae,w64 (n:=3*s) ae ae];refine ao (λh1=>?_) (λh1=>?_)
  ·rw[w64 ae ae];exact D ae
  have G:(k:Int)=q:=ae;rw[G,w64 (n:=0-q) ae ae];obtain⟨N,U⟩:∃N,N=(2*q+1).toNat:=⟨_,rfl⟩
  rw[←U];refine bI N 0 (λk u=>[u,af ((k:Int)-q)]) (λk u h'=>New (Rp.int .i64) h h' u (((List.range N).map λk:Nat=>BW ((k:Int)-q) s).take k)) (.slice none 0 0) rfl (b9 _) (New.nil (Ext.refl _)) λk u h2 again ρj _ hk H D=>?_
  simp only[go_sem];refine ao (λL=>?_) (λL=>?_)
  ·have F:k<N:=ae;refine(X3 (by unfold I64;omega) hs).mono λv2 L ⟨e5,W⟩=>?_
   subst e5;have A:(((List.range N).map λk:Nat=>BW ((k:Int)-q) s).take k).length=k:=by rw[db,cQ,eN];omega
   refine(H.ext W).push_int rfl (by rw[A];omega) (by rw[A];omega) λs' h' H'=>?_
   try rw[dw,ak]
   rw[w64 ae ae];have:=D s' h' F (by rw[nI _ _ _ F];exact H');rw[show((k+1:Nat):Int)-q=(k:Int)-q+1 by omega]at this;exact this
  ·rw[eS (by rw[cQ,eN];omega)]at H;exact⟨u,rfl,H⟩
theorem ZQ {h:ah}{r:Int}(hr:I64 r):ag prog zO #[af r] h λw h'=>∃u,w=.tuple #[u,af (Qd r)]∧New (Rp.int .i64) h h' u (yB r):=by
 apply Ov;unfold DO
 try simp only[go_sem]
 unfold Qd yB;refine ao (λh0=>?_) (λh0=>?_)
 ·have:ut r:=h0;rw[aA this,aA this];exact⟨_,rfl,New.nil (Ext.refl _)⟩
 ·have F:¬ut r:=h0;rw[az F,az F];rw[w64 (n:=2*r) ae ae]
  try simp only[go_sem]
  rw[w64 (n:=2*r+1) ae ae];obtain⟨N,I⟩:∃N:Nat,N=(2*r+1).toNat:=⟨_,rfl⟩
  rw[←I,show 2*r+1=(N:Int)by omega];refine bI N 0 (λk u=>[u,af (k:Int)]) (λk u h'=>New (Rp.int .i64) h h' u (List.replicate k 1)) (.slice none 0 0) rfl (b9 _) (New.nil (Ext.refl _)) λk u h2 again ρj _ hk A D=>?_
  simp only[go_sem];refine ao (λH=>?_) (λH=>?_)
  ·refine A.push_int rfl (by rw[vx];omega) (by rw[vx];omega) λL h' G=>?_
   try rw[dw,ak]
   rw[w64 ae ae];rw[←List.replicate_succ']at G;exact D L h' ae G
  ·have:k=N:=ae;subst this;refine(Np A.sl (λx W=>by rw[(KH.1 W).2];unfold I64;omega) (by rw[vx];omega)).mono λw H ⟨u,e,U⟩=>?_
   subst e
   try simp only[go_sem]
   exact⟨u,rfl,U.before A.2.1⟩
theorem Qz {k:IntKind}{Z:Nat→Prop}{h:ah}{v:Value}{l:List Int}(H:Rp.Ow (Rp.int k) Z h v l):Own 1 h v l.length (l.map λn=>Value.int k n):=by
 obtain⟨ds,D,_,G⟩:=H;have L:ds.length=l.length*1:=D.sl.1;have e:ds=l.map λn=>Value.int k n:=by
  apply qw
  ·simp;omega
  ·intro i h1 I;have F:=G i ae;have A:Rp.el 1 ds i=[Value.int k (l[i]'ae)]:=F;rw[Rp.el_one h1]at A;simpa using A
 rw[←e];exact D
structure NQ (h0 h:ah)(x y:Value)(l m:List Int):Prop where
 ext:Ext h0 h
 ox:Rp.Ow (Rp.int .i64) (λ_=>False) h x l
 oy:Rp.Ow (Rp.int .i64) (λ_=>False) h y m
 nx:∀b,blk x b→h0.size≤b
 ny:∀b,blk y b→h0.size≤b
 dis:∀b,blk x b→¬blk y b
theorem NQ.more {h0 h h':ah}{x y:Value}{l m:List Int}(T:NQ h0 h x y l m)(e:Ext h h'):NQ h0 h' x y l m:=⟨T.ext.trans e,T.ox.ext e,T.oy.ext e,T.nx,T.ny,T.dis⟩
theorem NQ.push_x {h0 h:ah}{x y:Value}{l m:List Int}{n:Int}{t t':TypeId}{bytes:Nat}{K:Value→ah→Prop}(T:NQ h0 h x y l m)(A:(l.length+1)*bytes≤140737488355328)(U:l.length+1≤9223372036854775807)
  (H:∀F h',NQ h0 h' F y (l++[n]) m→K F h'):di #[ai] t 1 [(0,1,af n)] h λL W=>dk ai t' 1 bytes x L W K:=by
 refine Rp.push_ow1 (e:=Rp.int .i64) rfl T.ox (x:=n) rfl rfl A U (λb A=>A.elim) λI h' o' D n'=>H I h' ⟨T.ext.then_fr D T.nx,o',T.oy.fr D (λ_ _=>False.elim) λb A hx=>T.dis b hx A,λb A=>?_,T.ny,λb A G=>?_⟩
 ·rcases n' b A with h1|h1
  ·exact T.nx b h1
  ·exact aZ T.ext.1 h1
 ·rcases n' b A with h1|h1
  ·exact T.dis b h1 G
  ·have:=T.oy.lt G;omega
theorem NQ.swap {h0 h:ah}{x y:Value}{l m:List Int}(T:NQ h0 h x y l m):NQ h0 h y x m l:=⟨T.ext,T.oy,T.ox,T.ny,T.nx,λb D A=>T.dis b A D⟩
theorem sF {β:Type}(g:Nat→β)(n k:Nat)(h:k<n):(List.range (k+1)).map g=(List.range k).map g++[g k]:=by
 rw[qp,jT];rfl
theorem Em {Z:Nat→Prop}{h:ah}{v:Value}{l:List Int}(H:SlI Z h v l)(aa:∀x∈l,I64 x)(hl:l.length<4611686018427387904):
  ag prog iL #[v] h λr h'=>∃u,r=.tuple #[u,af (cV l)]∧New (Rp.int .i64) h h' u (cj l):=by
 apply EO;unfold uV;obtain⟨a,cap,e⟩:=H.isSl;have e2:aD v=some (af (l.length:Int)):=by rw[e];rfl
 simp only[go_sem,e2];refine ao (λh0=>?_) (λh0=>?_)
 ·have hB:Fw l:=by unfold Fw;rcases h0 with h2|h2;exact .inl ae;exact .inr (.inl ae)
  have hc:cV l=7:=by unfold cV;rw[aA hB]
  unfold cj;rw[hc,az ae];exact⟨_,rfl,New.nil (Ext.refl _)⟩
 refine bI (α:=Unit) l.length 0 (λi _=>[af (i:Int)]) (λi _ h'=>(∀j (U:j<l.length),j<i→¬1099511627776<nh l[j])∧h'=h) () rfl (b9 _) ⟨λj _ U=>absurd U ae,rfl⟩ λi _ h1 again ρj _ hi ⟨hs,W⟩ al=>?_
 have W:=W.symm;subst W;simp only[go_sem];refine ao (λh2=>?_) (λh2=>?_)
 ·have F:i<l.length:=ae;obtain⟨p,e3,e4⟩:=H.int_at (k':=.i64) F;simp only[go_sem,e3,e4];have hx:=aa _ (cO F);refine(T5 hx).mono λv1 h1 ⟨e1,w1⟩=>?_
  have w1:=w1.symm;subst e1 w1;simp only[go_sem];refine ao (λD=>?_) (λD=>?_)
  ·have hB:Fw l:=.inr (.inr ⟨_,cO F,D⟩);have hc:cV l=7:=by unfold cV;rw[aA hB]
   unfold cj;rw[hc,az ae];exact⟨_,rfl,New.nil (Ext.refl _)⟩
  ·rw[w64 ae ae];refine al () h F ⟨λj U ci=>?_,rfl⟩;by_cases b4:j=i
   ·subst b4;exact D
   ·exact hs j U ae
 have b6:i=l.length:=ae;subst b6;have hB:¬Fw l:=by
  unfold Fw;rintro(D|D|⟨x,hx,D⟩)
  ·omega
  ·omega
  ·obtain⟨j,U,rfl⟩:=List.getElem_of_mem hx;exact hs j U U D
 refine(zbo H aa hl).mono λv1 h1 ⟨e1,w1⟩=>?_
 have w1:=w1.symm;subst e1 w1;simp only[go_sem];refine ao (λD=>?_) (λD=>?_)
 ·have hc:cV l=8:=by unfold cV;rw[az hB,aA D]
  unfold cj;rw[hc,az ae];exact⟨_,rfl,New.nil (Ext.refl _)⟩
 have hc:cV l=0:=JM.2 ⟨hB,ae⟩;have G:=Zg aa hc;have s1:=G.sum;have bg:=SB l;have hn:=G.len;have a8:=G.pos;unfold cj;rw[aA hc,hc];refine bI (α:=Value×Value) l.length 0 (λk a=>[a.1,a.2,af (vC l k),af (k:Int)]) (λk a h'=>NQ h h' a.1 a.2 ((List.range k).map (gv l)) ((List.range k).map (dW l))) (.slice none 0 0,.slice none 0 0) rfl (b9 _)
  ⟨Ext.refl _,Rp.Ow.nil,Rp.Ow.nil,λb A=>A.elim,λb A=>A.elim,λb A=>A.elim⟩ λk a h1 again ρj _ hk T al=>?_
 obtain⟨x,y⟩:=a;have T:NQ h h1 x y ((List.range k).map (gv l)) ((List.range k).map (dW l)):=T;simp only[go_sem];refine ao (λh4=>?_) (λh4=>?_)
 ·have ad:k<l.length:=ae;obtain⟨p,e3,e4⟩:=(H.ext T.ext).int_at (k':=.i64) ad;simp only[go_sem,e3,e4];have eg:l.getD k 0=l[k]:=by simp[dS,ad]
  have hx:=G.small k;rw[eg]at hx;rw[w64 (n:=l[k]*16384) ae ae];refine(PZ (by unfold I64;omega) bg).mono λv1 h4 ⟨e5,w5⟩=>?_
  subst e5;rw[qB (by unfold I64;omega) ae];have eb:l[k]*16384/mN l=gv l k:=by unfold gv;rw[eg]
  have er:dW l k=l[k]*16384-gv l k*mN l:=by unfold dW;rw[←eb,eg,Int.emod_def,fU (mN l)]
  rw[eb];have bo:=yD G k;have b8:=ML G k;have a7:=LJ G k;refine(T.more w5).push_x (by rw[cQ,eN];omega) (by rw[cQ,eN];omega) λx' h5 T=>?_
  try simp only[go_sem]
  have cc:gv l k*mN l=l[k]*16384-dW l k:=by rw[er];omega
  have cb:dW l k<mN l:=a7.2;have cp:mN l≤1152921504606846976:=by
   have h6:=Qv G l.length;rw[←Pc G]at h6;have:(l.length:Int)*1099511627776≤1048576*1099511627776:=ae;omega
  rw[w64 (n:=gv l k*mN l) ae ae,←er,w64 (n:=dW l k) ae ae];refine T.swap.push_x (by rw[cQ,eN];omega) (by rw[cQ,eN];omega) λy' h6 T=>?_
  try simp only[go_sem]
  rw[w64 (n:=vC l k-gv l k) ae ae,w64 (n:=(k:Int)+1) ae ae];refine al (x',y') h6 ad ?_;rw[sF _ (k+1) k ae,sF _ (k+1) k ae];exact T.swap
 have b5:k=l.length:=ae;subst b5;obtain⟨L0,L1⟩:=left_bd G;obtain⟨m,hm⟩:∃m:Nat,yw l=(m:Int):=⟨(yw l).toNat,ae⟩
 have bk:vC l l.length=(m:Int):=hm;rw[bk];have o1:=Qz T.ox;have o2:=Qz T.oy;rw[cQ,eN,C6]at o1 o2;have au:=T.dis;have nx:=T.nx;have ny:=T.ny;have E1:=T.ext;obtain⟨ya,aw,ey⟩:=o2.isSl;have ey:y=.slice ya l.length aw:=ey;have bc:aD y=some (af (l.length:Int)):=by rw[ey];rfl
 refine bI (α:=Unit) m 0 (λk _=>[af ((m:Int)-(k:Int))])
  (λk _ h'=>Ext h h'∧Own 1 h' x l.length ((List.range l.length).map λi=>af (gv l i+(if(lP (dW l) l.length i:Int)<(k:Int)then 1 else 0)))∧Own 1 h' y l.length ((List.range l.length).map λi=>af (jS (dW l) l.length k i)))
  () (by simp) (b9 _) ⟨E1,by
   rw[bN (f:=λi=>af (gv l i)) (λi hi=>by rw[az ae,Int.add_zero])];exact o1,by rw[SY];exact o2⟩ λk _ h2 ay ρj2 _ hk ⟨E2,q1,q2⟩ ar=>?_
 simp only[go_sem];refine ao (λh5=>?_) (λh5=>?_)
 ·have a9:k<m:=ae;rw[bc,ak];have bv:∀i,i<l.length→0≤dW l i:=λi _=>(LJ G i).1
  refine bI (α:=Nat) l.length 0 (λj b=>[af (b:Int),af (j:Int)])
   (λj b h'=>h'=h2∧b<l.length∧(∀i,i<j→jS (dW l) l.length k i≤jS (dW l) l.length k b)∧(∀i,i<b→jS (dW l) l.length k i<jS (dW l) l.length k b)∧b≤j) 0 rfl (b9 _)
   ⟨rfl,a8,λi hi=>absurd hi ae,λi hi=>absurd hi ae,cq _⟩ λj b D ax ρj3 _ U ⟨W,A,p1,p2,ca⟩ L=>?_
  have W:=W.symm;subst W;simp only[go_sem];refine ao (λh6=>?_) (λh6=>?_)
  ·have I:j<l.length:=ae;obtain⟨pj,j1,j2,_⟩:=Own.at_map q2 (k:=.i64) I;obtain⟨pb,b1,b2,_⟩:=Own.at_map q2 (k:=.i64) A;simp only[go_sem,j1,j2,b1,b2];rw[w64 (n:=(j:Int)+1) ae ae];refine ao (λh7=>?_) (λh7=>?_)
   ·refine L j h2 I ⟨rfl,I,λi hi=>?_,λi hi=>?_,ae⟩
    ·by_cases ab:i=j
     ·rw[ab];exact fT _
     ·have:=p1 i ae;omega
    ·have:=p1 i hi;omega
   ·refine L b h2 I ⟨rfl,A,λi hi=>?_,p2,ae⟩;by_cases ab:i=j
    ·rw[ab];omega
    ·exact p1 i ae
  have b3:j=l.length:=ae;subst b3;have an:=Yp bv (k:=k) ae A p1 p2;obtain⟨px,x1,x2,x3⟩:=Own.at_map q1 (k:=.i64) A;simp only[go_sem,x1,x2];have bo:=yD G b;rw[w64 (n:=gv l b+(if(lP (dW l) l.length b:Int)<(k:Int)then 1 else 0)+1) (by split<;>omega) (by split<;>omega)];refine x3 _ _ λD b0 f3=>?_
  have bd:=q2.fr f3 λc hc hx=>au c hx hc
  obtain⟨py,y1,y2,y3⟩:=Own.at_map bd (k:=.i64) A;simp only[go_sem,y1];refine y3 _ _ λh4 b7 f4=>?_
  have be:=b0.fr f4 λc hc hy=>au c hc hy
  rw[w64 ae ae,show(m:Int)-(k:Int)-1=(m:Int)-((k+1:Nat):Int)by omega];refine ar () h4 a9 ⟨(E2.then_fr f3 nx).then_fr f4 ny,?_,?_⟩
  ·rw[bN (f:=λj=>af (if j=b then gv l b+(if(lP (dW l) l.length b:Int)<(k:Int)then 1 else 0)+1 else gv l j+if(lP (dW l) l.length j:Int)<(k:Int)then 1 else 0)) (λi hi=>by
    congr 1
    by_cases he:i=b
    ·rw[aA he,he,aA ae,az ae];omega
    ·rw[az he];have cr:lP (dW l) l.length i≠k:=λe=>he (Gt hi A (e.trans an.symm))
     by_cases h8:lP (dW l) l.length i<k
     ·rw[aA ae,aA ae]
     ·rw[az ae,az ae])]
   exact be
  ·rw[bN (f:=λj=>af (if j=b then-1 else jS (dW l) l.length k j)) (λi hi=>by rw[SZ A an hi])];exact b7
 ·have:k=m:=ae;subst this;refine⟨x,rfl,⟨(mM l).map λn=>af n,?_,λc _=>id,λi hi=>?_⟩,E2,nx⟩
  ·rw[qe];unfold mM;rw[C6];simp only[←hm]at q1;exact q1
  ·have e:Rp.el (Rp.int .i64).w ((mM l).map λn=>af n) i=[af (mM l)[i]]:=by
    have:=Rp.el_one (ds:=(mM l).map λn=>af n) (i:=i) (by simpa using hi);rw[eT]at this;exact this
   exact e
end Go.Proofs.YtjljhnandbbldaaGreatDoor
namespace Go.Proofs.YtjljhnandbbldaaGreatDoor
open Go Go.Crisp
attribute [local irreducible] ag di aW stK aF vK qK bK gK fo bA mkK dk Fm GM CJ bsK
open _root_.Go.Proofs.Tryz
theorem Jf (a:Option Addr)(n c:Nat):aj .sl .eql (.slice a n c) (.slice none 0 0)=some (.bool a.isNone):=by cases a<;>rfl
theorem Yl {h:ah}{Z:Nat→Prop}{v:Value}{l:List Int}(H:Rp.Sl rI Z h v l)(hl:l.length≤1000000000):
  ag prog df #[v] h λr h'=>Rp.Sl rI (λb=>h.size≤b) h' r l∧Ext h h':=by
 apply jr;unfold fS;obtain⟨ds,⟨D,a,cap,rfl,F⟩,A,he⟩:=H;rw[Jf,ak];cases a with
 | none=>
  have:l=[]:=by
   rcases F with F|⟨b,o,h0,_⟩
   ·subst F;have U:([]:List Value).length=l.length*1:=D;exact mW (by simpa using U.symm)
   ·cases h0
  subst this;simp only[Rs,go_sem];exact⟨Rp.Sl.nil,Ext.refl _⟩
 | some a=>
  simp only[Rq,go_sem];refine dc (c':=#[]) rfl λb h1 r1 L n1=>?_
  have O:Rp.Ow rI (λ_=>False) h1 (.slice (some ⟨b,0,none⟩) 0 0) []:=⟨[],.inr ⟨b,0,[],_,rfl,cq _,rfl,rfl,r1⟩,λb W G=>G,λi hi=>absurd hi (by simp)⟩
  have S1:SlC 1 h1 (.slice (some a) l.length cap) l.length ds:=SlC.ext ⟨D,some a,cap,rfl,F⟩ L;refine Rp.app_ow (e:=rI) (l:=[]) (l2:=l) O S1 (λi hi=>he i hi) rfl (by simp;omega) (by simp;omega) (λb W=>W.elim) λv2 U O2 f2 n2=>?_
  rw[fG]at O2;have nb:∀k,blk (.slice (some ⟨b,0,none⟩) 0 0) k→h.size≤k:=λk hk=>by have:k=b:=hk;omega
  refine⟨O2.sl.mono λk hk A=>?_,L.then_fr f2 nb⟩;rcases A with A|A
  ·exact A.elim
  ·rcases n2 k A with I|I
   ·exact nb k I
   ·exact aZ L.1 I
end Go.Proofs.YtjljhnandbbldaaGreatDoor
namespace Go.Crisp
open Go
def dD (g:Nat→Int):Nat→Int
 |0=>0
 |k+1=>if dD g k≠0 then dD g k else g k
theorem Ek {g:Nat→Int}{k n:Nat}(h:dD g k≠0)(D:k≤n):dD g n=dD g k:=by
  induction n with
  | zero => have:k=0:=ae
            rw[this]
  | succ n A=>
    rcases oE n k with h1|h1
    · have:k=n+1:=ae
      rw[this]
    · have:=A h1
      show(if dD g n≠0 then dD g n else g n)=_;rw[this,aA h]
end Go.Crisp
namespace Go.Proofs.YtjljhnandbbldaaGreatDoor
open Go Go.Crisp
attribute [local irreducible] ag di aW stK aF vK qK bK gK fo bA mkK dk Fm GM CJ bsK clK
open _root_.Go.Proofs.Tryz
def bu (n:Int):Prop:=1≤n∧n≤65536
instance (n:Int):Decidable (bu n):=by unfold bu;infer_instance
theorem TL (f:Int):TM f=[]↔ ¬(0≤f∧f<3):=by
 unfold TM;split
 ·constructor
  ·intro h;cases h
  ·intro h;omega
 split
 ·constructor
  ·intro h;cases h
  ·intro h;omega
 split
 ·constructor
  ·intro h;cases h
  ·intro h;omega
 ·constructor
  ·intro _;omega
  ·intro _;rfl
def dy (f n m:Int):Int:=if¬(0≤f∧f<3)∨¬bu n∨¬bu m then 6 else dD (λi=>cV (c5 f n m i)) m.toNat
def fF (f n m:Int):Tbl:=⟨n,(List.range m.toNat).map λi:Nat=>(eW f n m i,cj (c5 f n m i))⟩
theorem vq (f n m i:Int):∀x∈c5 f n m i,I64 x:=by
 unfold c5;split
 ·intro x A;unfold Dh at A;obtain⟨k,_,rfl⟩:=gO.1 A;exact Ut _ _ _ _ _
 ·simp
theorem LI (f n m i:Int):(c5 f n m i).length<4611686018427387904:=by
 unfold c5;split
 ·rename_i h;unfold Dh;rw[cQ,eN];have:=MI h;omega
 ·simp
theorem qC {l:List Int}(A:∀x∈l,I64 x):(cj l).length≤1048576∧∀x∈cj l, -67108864≤x∧x≤67108865:=by
 unfold cj;split
 ·rename_i h;have G:=Zg A h;exact⟨by rw[qe];exact G.len,Xm G⟩
 ·simp
theorem JV {l:List Int}(A:∀x∈l,I64 x):∀x∈cj l,I64 x:=λx D=>by
 have:=(qC A).2 x D;unfold I64;omega
def VI (h:ah)(code:Int)(t:Tbl)(r:Value)(h':ah):Prop:=∃p,r=.tuple #[p,.int .i64 code]∧Ext h h'∧(code≠0→p=.pointer none)∧(code=0→fJ (λc=>h.size≤c∧c<h'.size) h' p t)
theorem NB {h:ah}(G:eF h){f n m:Int}(hf:I64 f)(hn:I64 n)(hm:I64 m):ag prog kY #[af f,af n,af m] h (VI h (dy f n m) (fF f n m)):=by
 apply Ke;unfold Ag;refine(PS G).mono λv1 h1 ⟨e1,w1⟩=>?_
 subst e1 w1;rw[Xg,NL,ak];unfold dy;have ab:=TL f;have I:(¬(0≤f∧f<3)∨¬bu n∨¬bu m)→VI h1 (if¬(0≤f∧f<3)∨¬bu n∨¬bu m then 6 else dD (λi=>cV (c5 f n m i)) m.toNat) (fF f n m) (.tuple #[.pointer none,af 6]) h1:=by
  intro hb;rw[aA hb];exact⟨_,rfl,Ext.refl _,λ_=>rfl,λh=>by cases h⟩
 by_cases h0:TM f=[]
 ·have A:=I (.inl (ab.1 h0));simp only[go_sem,h0];exact A
 have al:0≤f∧f<3:=cf λh=>h0 (ab.2 h)
 simp only[go_sem,h0];refine Ca.mono λv1 h2 ⟨e1,w1⟩=>?_
 subst e1 w1;by_cases H:¬bu n
 ·have A:=I (.inr (.inl H));have q:(1≤n∧n≤65536)=False:=fN H;simp only[go_sem,q];exact A
 have H:bu n:=cf H;have q:(1≤n∧n≤65536)=True:=jx H;simp only[go_sem,q];refine Ca.mono λv1 h3 ⟨e1,w1⟩=>?_
 subst e1 w1;by_cases F:¬bu m
 ·have A:=I (.inr (.inr F));have q:(1≤m∧m≤65536)=False:=fN F;simp only[go_sem,q];exact A
 have F:bu m:=cf F;have q:(1≤m∧m≤65536)=True:=jx F;simp only[go_sem,q,WQ (a:=af n) rfl,cI];rw[az (by rintro(h|h|h);exact h al;exact h H;exact h F)]
 clear I q
 refine aI λb h4 r4 e4 n4=>?_
 have ad:=H;have U:=F;unfold bu at ad U;have D:∀k:Nat,((List.range k).map λi:Nat=>(eW f n m i,cj (c5 f n m i))).length=k:=λk=>by simp
 refine bI m.toNat 0 (λk (_:Unit)=>[af (k:Int)]) (λk _ h'=>dD (λi=>cV (c5 f n m i)) k=0∧∃Z lv,En h3 Z h' b 224 lv n ((List.range k).map λi:Nat=>(eW f n m i,cj (c5 f n m i)))) () rfl (b9 _)
  ⟨rfl,λ_=>False,_,e4,r4,Rp.Ow.nil,n4,λc hc=>hc.elim,id,id,λc hc=>hc.elim⟩ λk _ h5 again ρj _ hk ⟨hg,Z,lv,T⟩ ar=>?_
 try simp only[go_sem]
 refine ao (λh6=>?_) (λh6=>?_)
 ·have aa:k<m.toNat:=ae;have G5:=G.ext T.ext;refine(TZ G5).mono λw h7 ⟨v,e,Nw⟩=>?_
  subst e
  try simp only[go_sem]
  refine(Cg Nw.sl (vq _ _ _ _) (LI _ _ _ _)).mono λw h8 ⟨u,e,W⟩=>?_
  subst e
  try simp only[go_sem]
  refine ao (λL=>?_) (λL=>?_)
  ·have hc:dD (λi=>cV (c5 f n m i)) (k+1)=cV (c5 f n m k):=by
    show(if dD (λi=>cV (c5 f n m i)) k≠0 then _ else _)=_;rw[az (by rw[hg];simp)]
   have hs:=Ek (g:=λi=>cV (c5 f n m i)) (k:=k+1) (n:=m.toNat) (by rw[hc];exact L) aa;rw[hs,hc];exact⟨_,rfl,(T.ext.trans Nw.2.1).trans W.2.1,λ_=>rfl,λh=>absurd h L⟩
  ·have L:cV (c5 f n m k)=0:=cf L;have bd:=qC (vq f n m k);have T2:En h3 (λc=>Z c∨blk u c) h8 b 224 lv n _:=T.more (Z':=λc=>Z c∨blk u c) (Nw.2.1.trans W.2.1) (λc=>.inl) λc hc hz=>by
    rcases hc with hc|hc
    ·exact absurd hc hz
    ·exact⟨aZ Nw.2.1.1 (W.2.2 c hc),W.1.lt hc⟩
   refine(Nk T2 (W.sl.mono λc _ hc=>.inr hc) (JV (vq _ _ _ _)) ae (by rw[D];omega)).mono λw an ⟨au,T3,_⟩=>?_
   rw[w64 ae ae];refine ar () an aa ⟨?_,λc=>Z c∨blk u c,au,?_⟩
   ·show(if dD (λi=>cV (c5 f n m i)) k≠0 then _ else _)=_;rw[az (by rw[hg];simp)];exact L
   ·rw[qp,jT];exact T3
 ·have:k=m.toNat:=ae;subst this;exact⟨_,by rw[hg],T.ext,λh=>absurd hg h,λ_=>T.done⟩
def iJ (l:List Int)(n:Int):Int:=if¬bu n then 6 else if l.length%2=0 then 7 else cV l
def jX (l:List Int)(n:Int):Tbl:=⟨n,(List.range n.toNat).map λi:Nat=>((i:Int)-(l.length/2:Nat),cj l)⟩
theorem Uf {h:ah}{Z:Nat→Prop}{v:Value}{l:List Int}{n:Int}(H:SlI Z h v l)(G:∀x∈l,I64 x)(hl:l.length<4611686018427387904)(hn:I64 n):ag prog oR #[v,af n] h (VI h (iJ l n) (jX l n)):=by
 apply Kf;unfold Ah;refine Ca.mono λv1 h1 ⟨e1,w1⟩=>?_
 subst e1 w1;unfold iJ;obtain⟨a,cap,e⟩:=H.isSl;have e2:aD v=some (af (l.length:Int)):=by rw[e];rfl
 by_cases D:¬bu n
 ·rw[aA D];have q:(1≤n∧n≤65536)=False:=fN D;simp only[go_sem,q];exact⟨_,rfl,Ext.refl _,λ_=>rfl,λh=>by cases h⟩
 rw[az D];have D:bu n:=cf D;have q:(1≤n∧n≤65536)=True:=jx D;have L:=D;unfold bu at L;simp only[go_sem,q,e2];rw[dP _ _ _ _ ae,ak,jV ae];simp only[go_sem];refine ao (λh0=>?_) (λh0=>?_)
 ·rw[aA ae];exact⟨_,rfl,Ext.refl _,λ_=>rfl,λh=>by cases h⟩
 rw[az ae];refine(Cg H G hl).mono λw h2 ⟨u,e,F⟩=>?_
 subst e;simp only[go_sem];refine ao (λI=>?_) (λI=>?_)
 ·exact⟨_,rfl,F.2.1,λ_=>rfl,λh=>absurd h I⟩
 have I:cV l=0:=cf I;have an:(cj l).length=l.length:=by unfold cj;rw[aA I,qe]
 have bd:=qC G;simp only[WQ (a:=af n) rfl,cI,ak,bP];refine aI λb h4 r4 U n4=>?_
 have A:∀k:Nat,((List.range k).map λi:Nat=>((i:Int)-(l.length/2:Nat),cj l)).length=k:=λk=>by simp
 refine bI n.toNat 0 (λk (_:Unit)=>[af (k:Int)]) (λk _ h'=>∃lv,En h1 (blk u) h' b 224 lv n ((List.range k).map λi:Nat=>((i:Int)-(l.length/2:Nat),cj l))∧SlI (blk u) h' u (cj l)) () rfl (b9 _)
  ⟨_,⟨F.2.1.trans U,r4,Rp.Ow.nil,aZ F.2.1.1 n4,λc hc=>hc.elim,λhc=>by have:=F.1.lt hc;omega,id,λc hc=>⟨F.2.2 c hc,by have:=F.1.lt hc;have:=U.1;omega⟩⟩,F.sl.ext U⟩ λk _ h5 again ρj _ hk ⟨lv,T,Hu⟩ ad=>?_
 try simp only[go_sem]
 refine ao (λh6=>?_) (λh6=>?_)
 ·have W:k<n.toNat:=ae;obtain⟨au,cu,eu⟩:=Hu.isSl;have aa:aD u=some (af (l.length:Int)):=by rw[eu,an];rfl
  simp only[go_sem,aa];rw[mo _ _ _ _ ae,ak,wV ae,w64 (n:=(l.length:Int)/2) ae ae];simp only[go_sem];rw[w64 (n:=(k:Int)-(l.length:Int)/2) ae ae,show(k:Int)-(l.length:Int)/2=(k:Int)-(l.length/2:Nat)by omega];refine(Nk T Hu (JV G) ae (by rw[A];omega)).mono λw ab ⟨al,T3,F3⟩=>?_
  try simp only[go_sem]
  rw[w64 ae ae];have hd:∀c,blk u c→¬(c=b∨blk lv c):=λc hc hm=>by
   rcases hm with rfl|hm
   ·exact T.zb hc
   ·obtain⟨ds,_,h2,_⟩:=T.ow;exact h2 c hm hc
  refine ad () ab W ⟨al,?_,Hu.fr F3 λc _ hc=>hd c hc⟩;rw[qp,jT];exact T3
 ·have:k=n.toNat:=ae;subst this;exact⟨_,by rw[I],T.ext,λh=>absurd I h,λ_=>T.done⟩
theorem Si {Z:Nat→Prop}{h:ah}{p:Value}{t:Tbl}(H:fJ Z h p t):ag prog fW #[p] h λr h'=>r=af t.n∧h'=h:=by
 apply Dn;unfold tt;obtain⟨b,lv,rfl,A,D,F,I,G,_⟩:=H.open;simp only[go_sem,A];exact⟨by simp,by simp⟩
theorem Dv {Z:Nat→Prop}{h:ah}{p:Value}{t:Tbl}(H:fJ Z h p t):ag prog bJ #[p] h λr h'=>r=af (t.lines.length:Int)∧h'=h:=by
 apply Gw;unfold wu;obtain⟨b,lv,rfl,L,A,G,I,D,_⟩:=H.open;obtain⟨a,cap,e⟩:=D.isSl;have F:aD lv=some (af (t.lines.length:Int)):=by rw[e];rfl
 simp only[go_sem,A,F];exact⟨by simp,by simp⟩
theorem Sh {Z:Nat→Prop}{h:ah}{p:Value}{t:Tbl}(H:fJ Z h p t):ag prog fV #[p] h λr h'=>r=af (bH t.lines)∧h'=h:=by
 apply Dl;unfold tj;obtain⟨b,lv,rfl,I,D,A,G,F,_⟩:=H.open;simp only[go_sem,A];exact⟨by simp,by simp⟩
structure _root_.Go.Crisp.Tbl.Wf (t:Tbl):Prop where
 len:t.lines.length≤65536
 taps:∀x∈t.lines,x.2.length≤1048576∧ -70368744177664≤x.1∧x.1≤70368744177664
def bE (t:Tbl)(i:Int):Int×List Int:=if 0≤i then t.lines.getD i.toNat (0,[])else(0,[])
theorem Cf {Z:Nat→Prop}{h:ah}{p:Value}{t:Tbl}(H:fJ Z h p t)(W:t.Wf){i:Int}:ag prog bF #[p,af i] h λr h'=>∃u,r=.agg #[af (bE t i).1,u]∧SlI (λb=>h.size≤b∧b<h'.size) h' u (bE t i).2∧Ext h h':=by
 apply Dm;unfold tm;refine aI λbv h1 r1 D n1=>?_
 obtain⟨b,lv,rfl,c0,U,c2,c3,hl,_⟩:=fJ.open (H.ext D);obtain⟨a,cap,e⟩:=hl.isSl;have e2:aD lv=some (af (t.lines.length:Int)):=by rw[e];rfl
 simp only[go_sem,U,e2];unfold bE;refine ao (λh0=>?_) (λh0=>?_)
 ·have I:(if 0≤i then t.lines.getD i.toNat (0,[])else((0,[]):Int×List Int))=(0,[]):=by
   split
   ·rw[dS,GV ae];rfl
   ·rfl
  rw[I,gC,cI,ak];refine cT (l:=[ai,.slice none 0 0]) r1 rfl (aq rfl (aq rfl aX)) rfl λh2 r2 u2=>?_
  rw[aU r2 2 rfl,ak];exact⟨_,rfl,Rp.Sl.nil,D.upd n1 u2⟩
 ·obtain⟨k,rfl⟩:∃k:Nat,i=(k:Int):=⟨i.toNat,ae⟩
  have L:k<t.lines.length:=ae;have I:(if(0:Int)≤(k:Int)then t.lines.getD (k:Int).toNat (0,[])else((0,[]):Int×List Int))=t.lines[k]:=by
   rw[aA ae,eo,dS,iY L];rfl
  rw[I];obtain⟨b2,o2,cs,A,i2,i3,⟨u,rfl,hu⟩,F⟩:=Rp.Sl.atp (e:=mg) hl (show 0<2 by omega) (k:=.i64) L;have A:bh 2 lv (af (k:Int))=some (.pointer (some ⟨b2,o2,none⟩)):=A;have j0:=i3 0 (by simp);have j1:=i3 1 (by simp);simp only[CW,List.getElem_cons_succ]at j0 j1;refine aQ (λh'=>Ext h1 h') (Ext.refl _) ?_;refine aC lv (λh' e=>e.cell U) ?_;rw[A];simp only[go_sem];refine aC _ (λh' e=>e.cell j0) ?_;refine aC lv (λh' e=>e.cell U) ?_;rw[A];simp only[go_sem];refine aC _ (λh' e=>e.cell j1) ?_;have aa:=(W.taps _ (cO L)).1;refine(Yl hu ae).mono λw h3 ⟨hw,G⟩=>?_
  refine⟨G,?_⟩;have one:=hw.one;rw[zF (a:=af t.lines[k].1) rfl one,cI,ak];refine cT (l:=[af t.lines[k].1,w]) (G.row r1) rfl (aq rfl (aq one aX)) rfl λh5 r5 u5=>?_
  rw[aU r5 2 rfl,ak];have hb:=bC r1;refine⟨w,rfl,?_,(D.trans G).upd n1 u5⟩;obtain⟨ds,hs,F,he⟩:=hw.fr (M:=λc=>c=bv) u5.fr λc hc F he=>by have:=he▸F;omega
  refine⟨ds,hs,λh0 c hc=>⟨?_,?_⟩,λi hi=>he i hi⟩
  ·have:=F h0 c hc;have:=D.1;omega
  ·exact hs.lt h0 hc
def Ey (ls:List (Int×List Int))(x0:Int):Int:=ls.foldl (λm x=>min m x.1) x0
def Iu (ls:List (Int×List Int))(x0:Int):Int:=ls.foldl (λm x=>max m (x.1+(x.2.length:Int))) x0
def Qm (t:Tbl)(i k:Nat):List (Int×List Int):=(t.lines.drop i).take (k-i)
def xn (t:Tbl)(i k:Int):Int×Int:=
 if(min k (t.lines.length:Int))≤max i 0 then(0,0)
 else let i':=(max i 0).toNat;let k':=(min k (t.lines.length:Int)).toNat;let x0:=(t.lines.getD i' (0,[])).1
  (Ey (Qm t i' k') x0,Iu (Qm t i' k') x0-Ey (Qm t i' k') x0)
theorem BY {β γ:Type}(f:γ→β→γ)(l:List β){k:Nat}(h:k<l.length)(s:γ):(l.take (k+1)).foldl f s=f ((l.take k).foldl f s) l[k]:=by
 rw[jU h,CP];rfl
theorem YN {ls:List (Int×List Int)}{x0:Int}(h0: -70368744177664≤x0∧x0≤70368744177664)(h:∀x∈ls,x.2.length≤1048576∧ -70368744177664≤x.1∧x.1≤70368744177664):
  (-70368744177664≤Ey ls x0∧Ey ls x0≤70368744177664)∧ -70368744177664≤Iu ls x0∧Iu ls x0≤70369000000000:=by
 unfold Ey Iu;have F:∀(ls:List (Int×List Int)) (m:Int),(∀x∈ls,x.2.length≤1048576∧ -70368744177664≤x.1∧x.1≤70368744177664)→ -70368744177664≤m∧m≤70368744177664→ -70368744177664≤ls.foldl (λm x=>min m x.1) m∧ls.foldl (λm x=>min m x.1) m≤70368744177664:=by
  intro ls;induction ls with
  |nil=>intro m _ h;exact h
  |cons x ls A=>intro m h H;have:=h x (by simp);exact A _ (λy D=>h y (by simp[D])) (by dsimp only;omega)
 have G:∀(ls:List (Int×List Int)) (m:Int),(∀x∈ls,x.2.length≤1048576∧ -70368744177664≤x.1∧x.1≤70368744177664)→ -70368744177664≤m∧m≤70369000000000→ -70368744177664≤ls.foldl (λm x=>max m (x.1+(x.2.length:Int))) m∧ls.foldl (λm x=>max m (x.1+(x.2.length:Int))) m≤70369000000000:=by
  intro ls;induction ls with
  |nil=>intro m _ h;exact h
  |cons x ls A=>intro m h H;have:=h x (by simp);exact A _ (λy D=>h y (by simp[D])) (by dsimp only;omega)
 exact⟨F ls x0 h h0,G ls x0 h ae⟩
theorem Sf {Z:Nat→Prop}{h:ah}{p:Value}{t:Tbl}(H:fJ Z h p t)(W:t.Wf){i k:Int}(hi:I64 i)(hk:I64 k):ag prog gG #[p,af i,af k] h λr h'=>r=.tuple #[af (xn t i k).1,af (xn t i k).2]∧Ext h h':=by
 apply BC;unfold ru;obtain⟨b,lv,rfl,c0,c1,c2,c3,hl,_,_,⟨la,ln,lc,el,ax⟩⟩:=H.open;have e2:aD lv=some (af (t.lines.length:Int)):=by
  obtain⟨a,cap,e⟩:=hl.isSl;rw[e];rfl
 simp only[go_sem,c1,e2];unfold xn;refine ao (λh0=>?_) (λh0=>?_)
 ·rw[aA h0];exact⟨rfl,Ext.refl _⟩
 rw[az h0];obtain⟨A,an⟩:∃A:Nat,max i 0=(A:Int):=⟨(max i 0).toNat,ae⟩
 obtain⟨k',ar⟩:∃k':Nat,min k (t.lines.length:Int)=(k':Int):=⟨(min k (t.lines.length:Int)).toNat,ae⟩
 simp only[an,ar,eo]at h0 ⊢;have bd:A<k':=ae;have ad:k'≤t.lines.length:=ae;have L:A<t.lines.length:=ae;have eg:t.lines.getD A (0,[])=t.lines[A]:=by rw[dS,iY L];rfl
 rw[eg];obtain⟨b2,o2,cs,q1,q2,q3,⟨u,rfl,hu⟩,hz⟩:=Rp.Sl.atp (e:=mg) hl (show 0<2 by omega) (k:=.i64) L;have q1:bh 2 lv (af (A:Int))=some (.pointer (some ⟨b2,o2,none⟩)):=q1;have j0:=q3 0 (by simp);simp only[CW]at j0;obtain⟨I,s1,s2⟩:=hl.part (show A≤k' by omega) ad el ax (k:=.i64) (k':=.i64);have s1:xm 2 lv (some (af (A:Int))) (some (af (k':Int)))=some I:=s1;simp only[go_sem,q1,j0,c1,s1];have ab:(t.lines.drop A).take (k'-A)=Qm t A k':=rfl;rw[ab]at s2;have a8:(Qm t A k').length=k'-A:=by unfold Qm;rw[db,iX];omega
 have G:∀x∈Qm t A k',x∈t.lines:=λx hx=>Rw (CT hx)
 obtain⟨a3,bc,e3⟩:=s2.isSl;have e4:aD I=some (af ((Qm t A k').length:Int)):=by rw[e3];rfl
 rw[e4,ak];generalize aw:t.lines[A].1=x0;have U:=W.taps _ (cO L);rw[aw]at U;generalize a9:Qm t A k'=D at*;refine bI D.length 0 (λk (_:Unit)=>[af (Ey (D.take k) x0),af (Iu (D.take k) x0),af (k:Int)]) (λk _ h'=>Ext h h') () rfl (b9 _) (Ext.refl _) λk _ h2 again ρj _ hk E2 ay=>?_
 simp only[go_sem];refine ao (λh3=>?_) (λh3=>?_)
 ·have F:k<D.length:=ae;obtain⟨p2,a7,z1,z2,⟨u2,rfl,aa⟩⟩:=Rp.Sl.atw (e:=mg) (s2.ext E2) (show 0<2 by omega) (k:=.i64) F;have z1:bh 2 I (af (k:Int))=some p2:=z1;have z2:aP 2 h2 p2=some (.agg #[af D[k].1,u2]):=z2;rw[z1,ak,z2,ak];refine dh (cs:=[af D[k].1,u2]) rfl (aq rfl (aq aa.one aX)) rfl λbv h4 r4 e5 n5=>?_
  obtain⟨au,cu,eu⟩:=aa.isSl;have al:aD u2=some (af (D[k].2.length:Int)):=by rw[eu];rfl
  have d0:aG h4 ⟨bv,0,none⟩=some (af D[k].1):=am r4;have d1:aG h4 ⟨bv,1,none⟩=some u2:=am r4;have hw:=W.taps _ (G _ (cO F));simp only[go_sem,d0,d1,al];rw[w64 (n:=D[k].1+(D[k].2.length:Int)) ae ae,w64 (n:=(k:Int)+1) (by have:=W.len;omega) (by have:=W.len;omega)];have:=ay () h4 F (E2.trans e5);unfold Ey Iu at this ⊢;rw[BY _ _ F,BY _ _ F]at this;exact this
 ·rw[eS ae];have:=YN (ls:=D) (x0:=x0) U.2 (λx hx=>W.taps x (G x hx));rw[w64 ae ae];exact⟨rfl,E2⟩
theorem Uj (b:Int):NN b=[]↔ ¬(0≤b∧b<3):=by
 unfold NN;split
 ·constructor
  ·intro h;cases h
  ·intro h;omega
 split
 ·constructor
  ·intro h;cases h
  ·intro h;omega
 split
 ·constructor
  ·intro h;cases h
  ·intro h;omega
 ·constructor
  ·intro _;omega
  ·intro _;rfl
def kG (o:OpD):Prop:=(0≤o.kind∧o.kind<4)∧(0≤o.border∧o.border<3)∧(o.kind=3→bu o.w∧bu o.hh∧0≤o.filter∧o.filter<3)
instance (o:OpD):Decidable (kG o):=by unfold kG;infer_instance
theorem Ib {h:ah}{n:Int}:ag prog uI #[af n] h λr h'=>r=.bool (decide (bu n))∧h'=h:=by
 apply UU;unfold Lr;simp only[go_sem];exact⟨rfl,by first|rfl|trivial⟩
theorem zbw {Z:Nat→Prop}{h:ah}(G:eF h){cs:List Value}{o:OpD}(H:rOp.R Z h cs o):ag prog NW #[.agg cs.toArray] h λr h'=>r=.bool (decide (kG o))∧Ext h h':=by
 apply XA;unfold Pg;obtain⟨s,t,rfl,Hx,Hy⟩:=H;simp only[bP];refine aI λb h1 r1 D n1=>?_
 have G1:=G.ext D;simp only[go_sem,am r1];have L:=Uj o.border;by_cases hk:o.kind<0∨4≤o.kind
 ·have q:kG o=False:=fN (by unfold kG;omega);simp only[go_sem,hk,q];exact⟨by simp,D⟩
 simp only[go_sem,hk];refine(Ic G1).mono λv h2 ⟨e,w⟩=>?_
 subst e w
 try rw[Xg]
 rw[NL,ak];by_cases W:NN o.border=[]
 ·have q:kG o=False:=fN (by unfold kG;exact λh=>L.1 W h.2.1);simp only[go_sem,W,q];exact⟨by simp,D⟩
 have U:0≤o.border∧o.border<3:=cf λh=>W (L.2 h)
 simp only[go_sem,W,am r1];by_cases A:¬o.kind=3
 ·have q:kG o=True:=jx ⟨ae,U,λh=>absurd h A⟩;simp only[go_sem,A,q];exact⟨by simp,D⟩
 have A:o.kind=3:=cf A;simp only[go_sem,A,am r1];refine Ib.mono λv h3 ⟨e,w⟩=>?_
 subst e w;by_cases F:¬bu o.w
 ·have q:kG o=False:=fN (λh=>F (h.2.2 A).1);simp only[go_sem,F,q];exact⟨by simp,D⟩
 have F:bu o.w:=cf F;simp only[go_sem,F,am r1];refine Ib.mono λv h4 ⟨e,w⟩=>?_
 subst e w;by_cases hh:¬bu o.hh
 ·have q:kG o=False:=fN (λh=>hh (h.2.2 A).2.1);simp only[go_sem,hh,q];exact⟨by simp,D⟩
 have hh:bu o.hh:=cf hh;simp only[go_sem,hh,am r1];refine(PS G1).mono λv h5 ⟨e,w⟩=>?_
 subst e w
 try rw[Xg]
 rw[NK,ak];have I:=TL o.filter;simp only[go_sem];refine⟨?_,D⟩
 congr 1
 rw[gL];unfold kG;constructor
 ·intro hf;exact⟨ae,U,λ_=>⟨F,hh,cf λh=>hf (I.2 h)⟩⟩
 ·intro hf he;exact I.1 he (hf.2.2 A).2.2
def gS (o:OpD):Int:=if o.kind=0 then Fi o.sigma else if o.kind=1 then Qd o.radius else if AM o.x≠0 then AM o.x else AM o.y
def ed (o:OpD):List Int:=if o.kind=0 then oF o.sigma else if o.kind=1 then yB o.radius else rj o.x
def cK (o:OpD):List Int:=if o.kind=0 then oF o.sigma else if o.kind=1 then yB o.radius else rj o.y
theorem yM (o:OpD):∀x∈ed o,I64 x:=by
 unfold ed;split
 ·exact M6 _
 split
 ·exact Qc _
 ·exact Ik _
theorem yL (o:OpD):∀x∈cK o,I64 x:=by
 unfold cK;split
 ·exact M6 _
 split
 ·exact Qc _
 ·exact Ik _
theorem xW (l:List Int):(rj l).length≤1024:=by
 unfold rj;split
 ·simp
 ·rename_i h;unfold jP at h;rw[cQ];omega
theorem Fh (s:Int):(oF s).length≤1024:=by
 unfold oF;split
 ·simp
 ·rename_i h;unfold mm at h;rw[cQ,eN];unfold gF;omega
theorem Je (r:Int):(yB r).length≤1024:=by
 unfold yB;split
 ·simp
 ·exact xW _
theorem FF (o:OpD):(ed o).length<4611686018427387904:=by
 unfold ed;split
 ·have:=Fh o.sigma;omega
 split
 ·have:=Je o.radius;omega
 ·have:=xW o.x;omega
theorem FE (o:OpD):(cK o).length<4611686018427387904:=by
 unfold cK;split
 ·have:=Fh o.sigma;omega
 split
 ·have:=Je o.radius;omega
 ·have:=xW o.y;omega
abbrev fQ (h h':ah)(c:Nat):Prop:=h.size≤c∧c<h'.size
theorem _root_.Go.Crisp.New.since {α:Type}{e:Rp α}{h0 h h':ah}{v:Value}{l:List α}(H:New e h h' v l)(k:Ext h0 h):Rp.Sl e (fQ h0 h') h' v l:=H.sl.mono λb A D=>⟨aZ k.1 (H.2.2 b D),A⟩
theorem XY {Z:Nat→Prop}{h:ah}{cs:List Value}{o:OpD}(H:rOp.R Z h cs o)(W:o.Wf)(lx:o.x.length<4611686018427387904)(ly:o.y.length<4611686018427387904):
  ag prog zV #[.agg cs.toArray] h λr h'=>∃u v,r=.tuple #[u,v,af (gS o)]∧Ext h h'∧(gS o=0→SlI (fQ h h') h' u (ed o)∧SlI (fQ h h') h' v (cK o)):=by
 apply OG;unfold DZ;obtain⟨s,t,rfl,I,L⟩:=H;simp only[bP];refine aI λb h1 r1 D n1=>?_
 simp only[go_sem,am r1];unfold gS ed cK;refine ao (λF=>?_) (λF=>?_)
 ·rw[aA F,aA F,aA F];refine(NC W.sigma).mono λw G ⟨u,e,N⟩=>?_
  subst e;simp only[go_sem];exact⟨u,u,rfl,D.trans N.2.1,λ_=>⟨N.since D,N.since D⟩⟩
 rw[az F,az F,az F];refine ao (λA=>?_) (λA=>?_)
 ·rw[aA A,aA A,aA A];refine(zc7 W.radius).mono λw G ⟨u,e,N⟩=>?_
  subst e;simp only[go_sem];exact⟨u,u,rfl,D.trans N.2.1,λ_=>⟨N.since D,N.since D⟩⟩
 rw[az A,az A,az A];refine(Fq (I.ext D) W.x lx).mono λw G ⟨u,e,N⟩=>?_
 subst e;simp only[go_sem];refine ao (λhu=>?_) (λhu=>?_)
 ·rw[aA hu];exact⟨_,_,rfl,D.trans N.2.1,λh=>absurd h hu⟩
 rw[az hu];simp only[go_sem,am (N.2.1.row r1)];refine(Fq ((L.ext D).ext N.2.1) W.y ly).mono λw h3 ⟨v,e,M⟩=>?_
 subst e;simp only[go_sem];refine⟨u,v,rfl,(D.trans N.2.1).trans M.2.1,λ_=>⟨?_,M.since (D.trans N.2.1)⟩⟩;exact((N.since D).ext M.2.1).mono λc hc U=>⟨U.1,hc⟩
def iE (o:OpD)(w h:Int):Int:=
 if o.kind=3 then(if dy o.filter w o.w≠0 then dy o.filter w o.w else dy o.filter h o.hh)
 else if gS o≠0 then gS o else if iJ (ed o) w≠0 then iJ (ed o) w else iJ (cK o) h
def kq (o:OpD)(w:Int):Tbl:=if o.kind=3 then fF o.filter w o.w else jX (ed o) w
def fj (o:OpD)(h:Int):Tbl:=if o.kind=3 then fF o.filter h o.hh else jX (cK o) h
theorem ZL {Z:Nat→Prop}{h:ah}(G:eF h){cs:List Value}{o:OpD}(H:rOp.R Z h cs o)(W:o.Wf)(lx:o.x.length<4611686018427387904)(ly:o.y.length<4611686018427387904){w hh:Int}(hw:I64 w)(U:I64 hh):
  ag prog Cw #[.agg cs.toArray,af w,af hh] h λr h'=>∃p q,r=.tuple #[p,q,af (iE o w hh)]∧Ext h h'∧(iE o w hh=0→fJ (fQ h h') h' p (kq o w)∧fJ (fQ h h') h' q (fj o hh)):=by
 apply QX;unfold Gd;have H0:=H;obtain⟨s,t,rfl,Hx,Hy⟩:=H;simp only[bP];refine aI λb h1 r1 A n1=>?_
 have G1:=G.ext A;simp only[go_sem,am r1];unfold iE kq fj;refine ao (λL=>?_) (λL=>?_)
 ·rw[aA L,aA L,aA L];refine(NB G1 W.filter hw W.w).mono λr h2 ⟨p,e,D,p0,p1⟩=>?_
  subst e;simp only[go_sem];refine ao (λhc=>?_) (λhc=>?_)
  ·rw[az (by simpa using hc)];simp only[go_sem,am (D.row r1)];refine(NB (G1.ext D) W.filter U W.hh).mono λr h3 ⟨q,e,I,q0,q1⟩=>?_
   subst e;simp only[go_sem];refine⟨p,q,rfl,(A.trans D).trans I,λh0=>⟨?_,?_⟩⟩
   ·exact((p1 hc).ext I).mono λc hc F=>⟨aZ A.1 F.1,hc⟩
   ·exact(q1 h0).mono λc hc F=>⟨aZ (A.trans D).1 F.1,F.2⟩
  ·rw[aA (by simpa using hc)];exact⟨p,_,rfl,A.trans D,λh0=>absurd h0 hc⟩
 rw[az L,az L,az L];rw[aU r1 9 rfl,ak];refine(XY (rOp.ext H0 A) W lx ly).mono λr h2 ⟨u,v,e,D,hu⟩=>?_
 subst e;simp only[go_sem];refine ao (λhc=>?_) (λhc=>?_)
 ·rw[aA hc];exact⟨_,_,rfl,A.trans D,λh0=>absurd h0 hc⟩
 have aa:gS o=0:=cf hc;rw[az hc];obtain⟨Hu,Hv⟩:=hu aa;refine(Uf Hu (yM o) (FF o) hw).mono λr h3 ⟨p,e,I,p0,p1⟩=>?_
 subst e;simp only[go_sem];refine ao (λhc=>?_) (λhc=>?_)
 ·rw[az (by simpa using hc)];refine(Uf (Hv.ext I) (yL o) (FE o) U).mono λr h4 ⟨q,e,e4,q0,q1⟩=>?_
  subst e;simp only[go_sem];refine⟨p,q,rfl,((A.trans D).trans I).trans e4,λh0=>⟨?_,?_⟩⟩
  ·exact((p1 hc).ext e4).mono λc hc F=>⟨aZ (A.trans D).1 F.1,hc⟩
  ·exact(q1 h0).mono λc hc F=>⟨aZ ((A.trans D).trans I).1 F.1,F.2⟩
 ·rw[aA (by simpa using hc)];exact⟨p,_,rfl,(A.trans D).trans I,λh0=>absurd h0 hc⟩
structure Stg where
 x:Tbl
 y:Tbl
 border:Int
def pX (Z:Nat→Prop)(h:ah)(v:Value)(s:Stg):Prop:=∃p q,v=.agg #[p,q,.int .i64 s.border]∧fJ Z h p s.x∧fJ Z h q s.y
theorem pX.mono {Z Z':Nat→Prop}{h:ah}{v:Value}{s:Stg}(H:pX Z h v s)(q:∀b,b<h.size→Z b→Z' b):pX Z' h v s:=by
 obtain⟨p,r,rfl,h1,A⟩:=H;exact⟨p,r,rfl,h1.mono q,A.mono q⟩
theorem pX.ext {Z:Nat→Prop}{h h':ah}{v:Value}{s:Stg}(H:pX Z h v s)(e:Ext h h'):pX Z h' v s:=by
 obtain⟨p,r,rfl,h1,A⟩:=H;exact⟨p,r,rfl,h1.ext e,A.ext e⟩
theorem mE {α:Type}{e:Rp α}{Z:Nat→Prop}{h:ah}{v:Value}{x:α}(H:Rp.Pt e Z h v x):aR v=true:=by
 obtain⟨b,ds,t,rfl,_⟩:=H;rfl
theorem zcE {a b c x y z:Value}(D:aR a=true)(A:aR b=true)(hc:aR c=true):aM #[x,y,z] [(0,1,a),(1,1,b),(2,1,c)]=some #[a,b,c]:=by
 simp only[aM,cB D,cB A,cB hc];rfl
abbrev noStg:Value:=.agg #[.pointer none,.pointer none,.int .i64 0]
def eZ (o:OpD)(w h:Int):Int:=if¬kG o∨¬bu w∨¬bu h then 6 else iE o w h
def ch (o:OpD)(w h:Int):Stg:=⟨kq o w,fj o h,o.border⟩
def zao (h:ah)(code:Int)(s:Stg)(r:Value)(h':ah):Prop:=∃v,r=.tuple #[v,.int .i64 code]∧Ext h h'∧(code≠0→v=noStg)∧(code=0→pX (fQ h h') h' v s)
theorem Jc {Z:Nat→Prop}{h:ah}(G:eF h){cs:List Value}{o:OpD}(H:rOp.R Z h cs o)(W:o.Wf)(lx:o.x.length<4611686018427387904)(ly:o.y.length<4611686018427387904){w hh:Int}(hw:I64 w)(an:I64 hh):
  ag prog nE #[.agg cs.toArray,af w,af hh] h (zao h (eZ o w hh) (ch o w hh)):=by
 apply UW;unfold Lt;have H0:=H;obtain⟨s,t,rfl,Hx,Hy⟩:=H;simp only[bP];refine aI λb h1 r1 e1 n1=>?_
 have l1:=bC r1;refine aI λb2 h2 r2 e2 n2=>?_
 have r1:=e2.row r1;have D:=e1.trans e2;have l2:=bC r2;have hb:b≠b2:=ae;rw[aU r1 9 rfl,ak];refine(zbw (G.ext D) (rOp.ext H0 D)).mono λv h3 ⟨e,L⟩=>?_
 subst e;have U:∀(code:Int) (h4:ah),eZ o w hh=code→code≠0→Ext h2 h4→stK 3 (.pointer (some ⟨b2,0,none⟩)) (.agg #[.pointer none,.pointer none,ai]) h4 λ_ al=>vK (aP 3 al (.pointer (some ⟨b2,0,none⟩))) λar=>zao h (eZ o w hh) (ch o w hh) (.tuple #[ar,af code]) al:=by
  intro code h4 A hc e4;rw[A];refine cT (l:=[.pointer none,.pointer none,ai]) (e4.row r2) rfl (aq rfl (aq rfl (aq rfl aX))) rfl λh5 r5 u5=>?_
  rw[aU r5 3 rfl,ak];exact⟨_,rfl,(D.trans e4).upd (aZ e1.1 n2) u5,λ_=>rfl,λh=>absurd h hc⟩
 by_cases hm:¬kG o
 ·have A:eZ o w hh=6:=aA (.inl hm);simp only[go_sem,hm,gC,cI];exact U 6 h3 A ae L
 have hm:kG o:=cf hm;simp only[go_sem,hm];refine Ib.mono λv h4 ⟨e,w⟩=>?_
 subst e w;by_cases F:¬bu w
 ·have A:eZ o w hh=6:=aA (.inr (.inl F));simp only[go_sem,F,gC,cI];exact U 6 _ A ae L
 have F:bu w:=cf F;simp only[go_sem,F];refine Ib.mono λv h5 ⟨e,w⟩=>?_
 subst e w;by_cases I:¬bu hh
 ·have A:eZ o w hh=6:=aA (.inr (.inr I));simp only[go_sem,I,gC,cI];exact U 6 _ A ae L
 have I:bu hh:=cf I;have A:eZ o w hh=iE o w hh:=az (by rintro(h|h|h);exact h hm;exact h F;exact h I);simp only[go_sem,I];rw[aU (L.row r1) 9 rfl,ak];refine(ZL ((G.ext D).ext L) (rOp.ext (rOp.ext H0 D) L) W lx ly hw an).mono λr h6 ⟨p,q,e,e6,hp⟩=>?_
 subst e;simp only[go_sem];refine ao (λhc=>?_) (λhc=>?_)
 ·simp only[gC,cI,ak];exact U _ _ A hc (L.trans e6)
 have ab:iE o w hh=0:=cf hc;obtain⟨ad,aa⟩:=hp ab;have c1:aG h6 ⟨b,1,none⟩=some (af o.border):=am (e6.row (L.row r1));simp only[go_sem,c1];rw[zcE (mE ad) (mE aa) rfl,cI,ak];refine cT (l:=[p,q,af o.border]) (e6.row (L.row r2)) rfl (aq (mE ad) (aq (mE aa) (aq rfl aX))) rfl λh7 r7 u7=>?_
 rw[aU r7 3 rfl,ak];have hz:∀c,c<h6.size→fQ h5 h6 c→¬c=b2:=λc _ hz he=>by
  have:=hz.1;have:=(L.1)
  subst he;omega
 have E:Ext h h6:=(D.trans L).trans e6;have fin:∀{t:Tbl} {p:Value},fJ (fQ h5 h6) h6 p t→fJ (fQ h h7) h7 p t:=λH=>by
  have:=Rp.Pt.fr H u7.fr hz;refine this.mono λc hc hz=>⟨?_,hc⟩
  exact aZ (D.trans L).1 hz.1
 rw[A];exact⟨.agg #[p,q,af o.border],by rw[ab],E.upd (aZ e1.1 n2) u7,λh=>absurd ab h,λ_=>⟨p,q,rfl,fin ad,fin aa⟩⟩
def jC {α:Type}(e:Rp α)(h h':ah)(v:Value)(l:List α):Prop:=∃Z,Rp.Ow e Z h' v l∧Ext h h'∧(∀b,blk v b→h.size≤b)∧∀c,Z c→h.size≤c∧c<h'.size
theorem jC.nil {α:Type}{e:Rp α}{h h':ah}(k:Ext h h'):jC e h h' (.slice none 0 0) []:=⟨λ_=>False,Rp.Ow.nil,k,λb A=>A.elim,λc hc=>hc.elim⟩
theorem jC.ext {α:Type}{e:Rp α}{h h' A:ah}{v:Value}{l:List α}(H:jC e h h' v l)(k:Ext h' A):jC e h A v l:=by
 obtain⟨Z,o,x,n,z⟩:=H;exact⟨Z,o.ext k,x.trans k,n,λc hc=>⟨(z c hc).1,bX (z c hc).2 k.1⟩⟩
theorem jC.exts {α:Type}{e:Rp α}{h h':ah}{v:Value}{l:List α}(H:jC e h h' v l):Ext h h':=by obtain⟨Z,o,x,n,z⟩:=H;exact x
theorem jC.sl {α:Type}{e:Rp α}{h h':ah}{v:Value}{l:List α}(H:jC e h h' v l):Rp.Sl e (fQ h h') h' v l:=by
 obtain⟨Z,o,x,n,z⟩:=H;exact o.sl.mono λc hc A=>by
  rcases A with A|A
  ·exact z c A
  ·exact⟨n c A,hc⟩
theorem jC.isSl {α:Type}{e:Rp α}{h h':ah}{v:Value}{l:List α}(H:jC e h h' v l):∃a cap,v=.slice a l.length cap:=by obtain⟨Z,o,x,n,z⟩:=H;exact o.isSl
theorem jC.push {α:Type}{e:Rp α}{z:Value}{c:Array Value}{t t':TypeId}{bytes:Nat}{h h1:ah}{v:Value}{l:List α}{cs:List Value}{x:α}{Y:Nat→Prop}{K:Value→ah→Prop}(H:jC e h h1 v l)
  (hx:e.R Y h1 cs x) (hY:∀b,Y b→h.size≤b∧b<h1.size∧¬blk v b) (hc:c.size=e.w) (D:z.cells.size=e.w) (A:(l.length+1)*bytes≤140737488355328) (W:l.length+1≤9223372036854775807)
  (HK:∀F h',jC e h h' F (l++[x])→Fr (blk v) h1 h'→(∀b,blk F b→blk v b∨h1.size≤b)→K F h'):di c t 1 [(0,e.w,.agg cs.toArray)] h1 λU h3=>dk z t' e.w bytes v U h3 K:=by
 obtain⟨Z,o,ex,n,zf⟩:=H;have L:∀b,blk v b→¬Z b:=by obtain⟨ds,_,d,_⟩:=o;exact d
 have o2:Rp.Ow e (λb=>Z b∨Y b) h1 v l:=o.mono (λb _ A=>.inl A) λb A D=>by
  rcases D with D|D
  ·exact L b A D
  ·exact(hY b D).2.2 A
 refine Rp.push_ow o2 (e.mono hx λb _ A=>.inr A) hc D A W (λb A=>?_) λF h' o' I n'=>HK F h' ⟨λb=>Z b∨Y b,o',ex.then_fr I n,λb A=>?_,λb A=>?_⟩ I n'
 ·rcases A with A|A
  ·exact(zf b A).2
  ·exact(hY b A).2.1
 ·rcases n' b A with G|G
  ·exact n b G
  ·exact aZ ex.1 G
 ·have hl:=I.1;rcases A with A|A
  ·have:=zf b A;omega
  ·have:=hY b A;omega
theorem jC.lt {α:Type}{e:Rp α}{h h':ah}{v:Value}{l:List α}(H:jC e h h' v l){b:Nat}(A:blk v b):b<h'.size:=by obtain⟨Z,o,x,n,z⟩:=H;exact o.lt A
theorem _root_.Go.Crisp.New.lt {α:Type}{e:Rp α}{h h':ah}{v:Value}{l:List α}(H:New e h h' v l){b:Nat}(A:blk v b):b<h'.size:=H.1.lt A
theorem Nm {h:ah}{n:Int}:ag prog oZ #[af n] h λr h'=>r=.bool (decide (bu n))∧h'=h:=by
 apply On;unfold DJ;simp only[go_sem];exact⟨rfl,trivial⟩
def Uq (h:ah)(code:Int)(ls:List (Int×List Int))(r:Value)(h':ah):Prop:=∃v,r=.tuple #[v,.int .i64 code]∧Ext h h'∧(code≠0→v=.slice none 0 0)∧(code=0→jC mg h h' v ls)
theorem Nn {h:ah}{f n m:Int}(hf:I64 f)(hn:I64 n)(hm:I64 m):ag prog o0 #[af f,af n,af m] h (Uq h (dy f n m) (fF f n m).lines):=by
 apply Kh;unfold Aj;have rc:dy f n m=if¬(0≤f∧f<3)∨¬bu n∨¬bu m then 6 else dD (λi=>cV (c5 f n m i)) m.toNat:=rfl
 have L:∀b:Bool,(b=true↔(¬(0≤f∧f<3)∨¬bu n∨¬bu m))→∀X:Prop,((0≤f∧f<3)→bu n→bu m→X)→aF (.bool b)
   (Uq h (dy f n m) (fF f n m).lines (.tuple #[.slice none 0 0,af 6]) h) X:=by
  intro b U X hX;refine jW (λhc=>?_) (λhc=>?_)
  ·rw[rc,aA (U.1 hc)];exact⟨_,rfl,Ext.refl _,λ_=>rfl,λh=>by cases h⟩
  ·have I:¬(¬(0≤f∧f<3)∨¬bu n∨¬bu m):=λhh=>by rw[U.2 hh]at hc;cases hc
   exact hX (cf λhh=>I (.inl hh)) (cf λhh=>I (.inr (.inl hh))) (cf λhh=>I (.inr (.inr hh)))
 have rest:(0≤f∧f<3)→bu n→bu m→bA [.slice none 0 0,ai] h λF b1 au D=>
   vK (aj .i .lss (ix F 1) (af m)) λbd=>aF bd (
    ag prog xf #[af f,af n,af m,(ix F 1)] au λal bv=>
    vK (aL al 0) λb0=>vK (aL al 1) λbe=>
    ag prog iL #[be] bv λad ab=>
    vK (aL ad 0) λbk=>vK (aL ad 1) λar=>
    vK (aj .i .neq ar ai) λa7=>aF a7 (
     Uq h (dy f n m) (fF f n m).lines (.tuple #[(.slice none 0 0),ar]) ab) (
     vK ((aM #[ai,(.slice none 0 0)] [(0,1,b0),(1,1,bk)]).map .agg) λa9=>
     di #[ai,(.slice none 0 0)] 240 1 [(0,2,a9)] ab λax a8=>
     dk (.agg #[ai,.slice none 0 0]) 240 2 32 (ix F 0) ax a8 λay bc=>
     vK (aj .i .add (ix F 1) aH) λbg=>D [ay,bg] bc)) (
    Uq h (dy f n m) (fF f n m).lines (.tuple #[(ix F 0),ai]) au):=by
  intro G A aw;rw[az (by rintro(h|h|h);exact h G;exact h A;exact h aw)]at rc;rw[rc];have aa:=aw;unfold bu at aa;refine bI m.toNat 0 (λk v=>[v,af (k:Int)]) (λk v h'=>dD (λi=>cV (c5 f n m i)) k=0∧jC mg h h' v ((List.range k).map λi:Nat=>(eW f n m i,cj (c5 f n m i)))) (.slice none 0 0) rfl (b9 _)
   ⟨rfl,jC.nil (Ext.refl _)⟩ λk v h5 again ρj _ hk ⟨hg,T⟩ bo=>?_
  simp only[go_sem];refine ao (λh6=>?_) (λh6=>?_)
  ·have an:k<m.toNat:=ae;refine zbp.mono λw h7 ⟨u,e,Nw⟩=>?_
   subst e
   try simp only[go_sem]
   refine(Em Nw.sl (vq _ _ _ _) (LI _ _ _ _)).mono λw h8 ⟨u,e,H⟩=>?_
   subst e
   try simp only[go_sem]
   refine ao (λW=>?_) (λW=>?_)
   ·have hc:dD (λi=>cV (c5 f n m i)) (k+1)=cV (c5 f n m k):=by
     show(if dD (λi=>cV (c5 f n m i)) k≠0 then _ else _)=_;rw[az (by rw[hg];simp)]
    have hs:=Ek (g:=λi=>cV (c5 f n m i)) (k:=k+1) (n:=m.toNat) (by rw[hc];exact W) an;rw[hs,hc];exact⟨_,rfl,(T.exts.trans Nw.2.1).trans H.2.1,λ_=>rfl,λh=>absurd h W⟩
   ·have W:cV (c5 f n m k)=0:=cf W;rw[zF (a:=af (eW f n m k)) (b:=u) rfl H.sl.one,cI,ak];have T2:=T.ext (Nw.2.1.trans H.2.1);refine jC.push (e:=mg) (cs:=[af (eW f n m k),u]) (x:=(eW f n m k,cj (c5 f n m k))) (Y:=blk u) T2 ⟨u,rfl,H.sl⟩ (λb U=>⟨aZ (T.exts.trans Nw.2.1).1 (H.2.2 b U),H.lt U,λhv=>?_⟩) rfl rfl (by simp;omega) (by simp;omega) λs' h' N' _ _=>?_
    ·have b4:=T.lt hv;have b3:=H.2.2 b U;have b2:=Nw.2.1.1;omega
    ·try simp only[go_sem]
     rw[w64 ae ae];refine bo s' h' an ⟨?_,?_⟩
     ·show(if dD (λi=>cV (c5 f n m i)) k≠0 then _ else _)=_;rw[az (by rw[hg];simp)];exact W
     ·rw[qp,jT];exact N'
  ·have:k=m.toNat:=ae;subst this;exact⟨_,by rw[hg],T.exts,λh=>absurd hg h,λ_=>T⟩
 by_cases G:0≤f∧f<3
 ·have q1:(f<0)=False:=fN ae;have q2:(2<f)=False:=fN ae;simp only[go_sem,q1,q2];refine Nm.mono λv1 h2 ⟨e1,w1⟩=>?_
  have w1:=w1.symm;subst e1 w1;by_cases A:bu n
  ·simp only[go_sem,A];refine Nm.mono λv1 h2 ⟨e1,w1⟩=>?_
   have w1:=w1.symm;subst e1 w1;simp only[go_sem];refine L _ ?_ _ rest;rw[dI];constructor
   ·exact λhh=>.inr (.inr hh)
   ·rintro(hh|hh|hh)
    ·exact absurd G hh
    ·exact absurd A hh
    ·exact hh
  ·simp only[go_sem,A];exact(gR _ _).mp (L true ⟨λ_=>.inr (.inl A),λ_=>rfl⟩ True λ_ _ _=>trivial)
 ·have q1:(f<0∨2<f)=True:=jx ae;simp only[go_sem,q1];exact(gR _ _).mp (L true ⟨λ_=>.inl G,λ_=>rfl⟩ True λ_ _ _=>trivial)
theorem No {h:ah}{Z:Nat→Prop}{v:Value}{l:List Int}{n:Int}(H:SlI Z h v l)(U:∀x∈l,I64 x)(hl:l.length<4611686018427387904)(hn:I64 n):ag prog pd #[v,af n] h (Uq h (iJ l n) (jX l n).lines):=by
 apply Ki;unfold Ak;refine Nm.mono λv1 h1 ⟨e1,w1⟩=>?_
 have w1:=w1.symm;subst e1 w1;unfold iJ jX;obtain⟨a,cap,e⟩:=H.isSl;have e2:aD v=some (af (l.length:Int)):=by rw[e];rfl
 by_cases A:¬bu n
 ·rw[aA A];simp only[go_sem,A];exact⟨_,rfl,Ext.refl _,λ_=>rfl,λh=>by cases h⟩
 rw[az A];have A:bu n:=cf A;have W:=A;unfold bu at W;simp only[go_sem,A,e2];rw[dP _ _ _ _ ae,ak,jV ae];simp only[go_sem];refine ao (λh0=>?_) (λh0=>?_)
 ·rw[aA ae];exact⟨_,rfl,Ext.refl _,λ_=>rfl,λh=>by cases h⟩
 rw[az ae];refine(Em H U hl).mono λw h2 ⟨u,e,L⟩=>?_
 subst e;simp only[go_sem];refine ao (λI=>?_) (λI=>?_)
 ·exact⟨_,rfl,L.2.1,λ_=>rfl,λh=>absurd h I⟩
 have I:cV l=0:=cf I;have ad:(cj l).length=l.length:=by unfold cj;rw[aA I,qe]
 have bd:=qC U;refine bI n.toNat 0 (λk v=>[v,af (k:Int)]) (λk v h'=>jC mg h h' v ((List.range k).map λi:Nat=>((i:Int)-(l.length/2:Nat),cj l))∧SlI (blk u) h' u (cj l)∧Ext h2 h'∧(∀b,blk v b→h2.size≤b)∧∀b,blk u b→¬blk v b) (.slice none 0 0) rfl (b9 _)
  ⟨jC.nil L.2.1,L.sl,Ext.refl _,λb F=>F.elim,λb _ F=>F⟩ λk v h5 again ρj _ hk ⟨T,Hu,E,NV,D⟩ ab=>?_
 try simp only[go_sem]
 refine ao (λh6=>?_) (λh6=>?_)
 ·have aa:k<n.toNat:=ae
  try simp only[go_sem,e2]
  rw[mo _ _ _ _ ae,ak,wV ae,w64 (n:=(l.length:Int)/2) ae ae]
  try simp only[go_sem]
  rw[w64 (n:=(k:Int)-(l.length:Int)/2) ae ae,show(k:Int)-(l.length:Int)/2=(k:Int)-(l.length/2:Nat)by omega];rw[zF (a:=af ((k:Int)-(l.length/2:Nat))) (b:=u) rfl Hu.one,cI,ak];refine jC.push (e:=mg) (cs:=[af ((k:Int)-(l.length/2:Nat)),u]) (x:=((k:Int)-(l.length/2:Nat),cj l)) (Y:=blk u) T ⟨u,rfl,Hu⟩ (λb F=>⟨L.2.2 b F,bX (L.lt F) E.1,D b F⟩) rfl rfl (by simp;omega) (by simp;omega) λs' h' N' F' n'=>?_
  try simp only[go_sem]
  rw[w64 ae ae];refine ab s' h' aa ⟨?_,Hu.fr F' λb _ F=>D b F,?_,?_,λb F hs=>?_⟩
  ·rw[qp,jT];exact N'
  ·exact E.then_fr F' NV
  ·intro b F;rcases n' b F with G|G
   ·exact NV b G
   ·exact aZ E.1 G
  ·rcases n' b hs with G|G
   ·exact D b F G
   ·have:=L.lt F;have:=E.1;omega
 ·have:k=n.toNat:=ae;subst this;exact⟨_,by rw[I],T.exts,λh=>absurd I h,λ_=>T⟩
def my (side:Int)(o:OpD):Prop:=40<o.x.length∨40<o.y.length∨(262144<o.sigma∧o.sigma≤4194304)∨(20<o.radius∧o.radius<512)∨(side<o.w∧o.w≤65536)∨(side<o.hh∧o.hh≤65536)
instance (side:Int)(o:OpD):Decidable (my side o):=by unfold my;infer_instance
def nr (side:Int)(l:List OpD):Prop:=∀o∈l,¬my side o
instance (side:Int)(l:List OpD):Decidable (nr side l):=by unfold nr;infer_instance
theorem zae {Z:Nat→Prop}{h:ah}{v:Value}{l:List OpD}{side:Int}(H:Rp.Sl rOp Z h v l)(hl:l.length<4611686018427387904):
  ag prog vU #[v,af side] h λr h'=>r=.bool (decide (nr side l))∧Ext h h':=by
 apply Kq;unfold Ar;obtain⟨a,cap,e⟩:=H.isSl;have e2:aD v=some (af (l.length:Int)):=by rw[e];rfl
 rw[e2,ak];refine bI l.length 0 (λk (_:Unit)=>[af (k:Int)]) (λk _ h'=>Ext h h'∧∀o∈l.take k,¬my side o) () rfl (b9 _) ⟨Ext.refl _,by simp⟩ λk _ h1 again ρj _ hk ⟨F,G⟩ ab=>?_
 simp only[go_sem];refine ao (λh0=>?_) (λh0=>?_)
 ·have A:k<l.length:=ae;obtain⟨p,cs,U,L,Ho⟩:=Rp.Sl.atw (e:=rOp) (H.ext F) (show 0<9 by omega) (k:=.i64) A;have U:bh 9 v (af (k:Int))=some p:=U;have L:aP 9 h1 p=some (.agg cs.toArray):=L;rw[U,ak,L,ak];have ad:=Ho;have I:=rOp.one Ho;obtain⟨s,t,rfl,Hx,Hy⟩:=Ho;refine dh (cs:=[af l[k].kind,af l[k].border,af l[k].sigma,af l[k].radius,s,t,af l[k].filter,af l[k].w,af l[k].hh]) rfl I rfl λb h2 r2 e3 n3=>?_
  obtain⟨ax,cx,ex⟩:=Hx.isSl;have W:aD s=some (af (l[k].x.length:Int)):=by rw[ex];rfl
  obtain⟨ay,cy,ey⟩:=Hy.isSl;have aa:aD t=some (af (l[k].y.length:Int)):=by rw[ey];rfl
  simp only[go_sem,am r2,W,aa];refine ao (λh3=>?_) (λh3=>?_)
  ·refine⟨?_,F.trans e3⟩
   congr 1
   rw[Eq.comm,G0];intro hh;refine hh _ (cO A) ?_;unfold my;omega
  ·rw[w64 ae ae];refine ab () h2 A ⟨F.trans e3,λo D=>?_⟩;rw[jU A]at D;rcases gX.1 D with D|D
   ·exact G o D
   ·rw[iy.1 D];unfold my;omega
 ·rw[eS ae]at G;refine⟨?_,F⟩
  congr 1
  rw[Eq.comm,dI];exact G
theorem ZX {Z:Nat→Prop}{h:ah}{cs:List Value}{o:OpD}(H:rOp.R Z h cs o){w hh:Int}:ag prog Jl #[.agg cs.toArray,af w,af hh] h λr h'=>
  r=.tuple #[af (if o.kind=3 then o.w else w),af (if o.kind=3 then o.hh else hh)]∧Ext h h':=by
 apply UV;unfold Ls;obtain⟨s,t,rfl,G,I⟩:=H;simp only[bP];refine aI λb h1 r1 D F=>?_
 simp only[go_sem,am r1];refine ao (λA=>?_) (λA=>?_)
 ·rw[aA A,aA A];simp only[go_sem,am r1];exact⟨by simp,D⟩
 ·rw[az A,az A];exact⟨rfl,D⟩
def xp:Rp Stg where
 w:=5
 R:=λZ h cs s=>∃x y,cs=[x,y,.int .i64 s.x.n,.int .i64 s.y.n,.int .i64 s.border]∧Rp.Sl mg Z h x s.x.lines∧Rp.Sl mg Z h y s.y.lines
 len:=by rintro _ _ _ _ ⟨x,y,rfl,_⟩;rfl
 one:=by
  rintro _ _ _ _ ⟨x,y,rfl,H,K⟩;exact aq H.one (aq K.one (aq rfl (aq rfl (aq rfl aX))))
 fr:=by rintro _ _ _ _ _ _ ⟨x,y,rfl,H,K⟩ f q;exact⟨x,y,rfl,H.fr f q,K.fr f q⟩
 mono:=by rintro _ _ _ _ _ ⟨x,y,rfl,H,K⟩ q;exact⟨x,y,rfl,H.mono q,K.mono q⟩
abbrev YZ:List Value:=[.slice none 0 0,.slice none 0 0,.int .i64 0,.int .i64 0,.int .i64 0]
def Sn (h:ah)(code:Int)(s:Stg)(r:Value)(h':ah):Prop:=∃cs,r=.tuple #[.agg cs.toArray,.int .i64 code]∧Ext h h'∧(code≠0→cs=YZ)∧(code=0→xp.R (fQ h h') h' cs s)
theorem Db {h:ah}{n:Int}:ag prog lI #[af n] h λr h'=>r=.bool (decide (bu n))∧h'=h:=by
 apply Oi;unfold DF;simp only[go_sem];exact⟨rfl,trivial⟩
theorem ZA {a b c v w x y z:Value}(D:aR a=true)(A:aR b=true)(hc:aR c=true):aM #[v,w,x,y,z] [(2,1,a),(3,1,b),(4,1,c)]=some #[v,w,a,b,c]:=by
 simp only[aM,cB D,cB A,cB hc];rfl
theorem X7 {Z:Nat→Prop}{h:ah}{cs:List Value}{o:OpD}(H:rOp.R Z h cs o)(W:o.Wf)(lx:o.x.length<4611686018427387904)(ly:o.y.length<4611686018427387904){w hh:Int}(hw:I64 w)(bc:I64 hh):
  ag prog zN #[.agg cs.toArray,af w,af hh] h (Sn h (eZ o w hh) (ch o w hh)):=by
 apply Ol;unfold DH;have H0:=H;obtain⟨s,t,rfl,Hx,Hy⟩:=H;simp only[bP];refine aI λb h1 r1 e1 n1=>?_
 have l1:=bC r1;refine aI λb2 h2 r2 e2 n2=>?_
 have r1:=e2.row r1;have a7:=e1.trans e2;have l2:=bC r2;have hb:b≠b2:=ae;have k2:h.size≤b2:=aZ e1.1 n2;have L:∀(code:Int) (I:ah),eZ o w hh=code→code≠0→Ext h2 I→stK 5 (.pointer (some ⟨b2,0,none⟩)) (.agg #[.slice none 0 0,.slice none 0 0,ai,ai,ai]) I λ_ bd=>vK (aP 5 bd (.pointer (some ⟨b2,0,none⟩))) λb6=>Sn h (eZ o w hh) (ch o w hh) (.tuple #[b6,af code]) bd:=by
  intro code I D hc e4;rw[D];refine cT (l:=YZ) (e4.row r2) rfl (aq rfl (aq rfl (aq rfl (aq rfl (aq rfl aX))))) rfl λU r5 u5=>?_
  rw[aU r5 5 rfl,ak];exact⟨YZ,rfl,(a7.trans e4).upd k2 u5,λ_=>rfl,λh=>absurd h hc⟩
 have m6:(¬kG o∨¬bu w∨¬bu hh)→eZ o w hh=6:=λhc=>aA hc
 by_cases hm:((o.kind<0∨3<o.kind)∨o.border<0)∨2<o.border
 ·have D:=m6 (.inl (by unfold kG;omega));simp only[go_sem,am r1,hm];simp only[gC,cI,ak];exact L 6 h2 D ae (Ext.refl _)
 have bk:0≤o.kind∧o.kind<4:=ae;have a8:0≤o.border∧o.border<3:=ae;simp only[go_sem,am r1,hm];refine Db.mono λv I ⟨e,wq⟩=>?_
 have wq:=wq.symm;subst e wq;by_cases ar:¬bu w
 ·have D:=m6 (.inr (.inl ar));simp only[go_sem,ar,gC,cI];exact L 6 _ D ae (Ext.refl _)
 have ar:bu w:=cf ar;simp only[go_sem,ar];refine Db.mono λv U ⟨e,wq⟩=>?_
 have wq:=wq.symm;subst e wq;by_cases ab:¬bu hh
 ·have D:=m6 (.inr (.inr ab));simp only[go_sem,ab,gC,cI];exact L 6 _ D ae (Ext.refl _)
 have ab:bu hh:=cf ab;have mt:kG o→eZ o w hh=iE o w hh:=λhm=>az (by rintro(h|h|h);exact h hm;exact h ar;exact h ab)
 simp only[go_sem,ab,am r1];rw[ZA rfl rfl rfl,cI,ak];refine dh (cs:=[.slice none 0 0,.slice none 0 0,af w,af hh,af o.border]) rfl (aq rfl (aq rfl (aq rfl (aq rfl (aq rfl aX))))) rfl λb3 h3 r3 e3 n3=>?_
 have r1:=e3.row r1;have r2:=e3.row r2;have ad:=a7.trans e3;have l3:=bC r3;have k3:h.size≤b3:=aZ a7.1 n3;have b5:b3≠b:=by have:=e2.1;omega
 have aa:b3≠b2:=ae
 -- a row of lines is stored
 have ax:∀{I:ah} {u:Value} {a c:Value} {K:Value→ah→Prop},aR u=true→I[b3]? =some (.cells #[a,c,af w,af hh,af o.border] 38 (0,0))→
   (∀U,U[b3]? =some (.cells #[u,c,af w,af hh,af o.border] 38 (0,0))→Upd b3 I U→K undef U)→stK 1 (.pointer (some ⟨b3,0,none⟩)) u I K:=by
  intro I u a c K hu r HK;exact bZ r (by simp) hu λU r5 u5=>HK U r5 u5
 have au:∀{I:ah} {u:Value} {a c:Value} {K:Value→ah→Prop},aR u=true→I[b3]? =some (.cells #[a,c,af w,af hh,af o.border] 38 (0,0))→
   (∀U,U[b3]? =some (.cells #[a,u,af w,af hh,af o.border] 38 (0,0))→Upd b3 I U→K undef U)→stK 1 (.pointer (some ⟨b3,1,none⟩)) u I K:=by
  intro I u a c K hu r HK;exact bZ r (by simp) hu λU r5 u5=>HK U r5 u5
 -- the end
 have fin:∀{h6:ah} {x y:Value},Ext h h6→h6[b2]? =some (.cells #[.slice none 0 0,.slice none 0 0,ai,ai,ai] 38 (0,0))→h6[b3]? =some (.cells #[x,y,af w,af hh,af o.border] 38 (0,0))→
   Rp.Sl mg (fQ h3 h6) h6 x (kq o w).lines→Rp.Sl mg (fQ h3 h6) h6 y (fj o hh).lines→(kq o w).n=w→(fj o hh).n=hh→eZ o w hh=0→
   vK (aP 5 h6 (.pointer (some ⟨b3,0,none⟩))) λb0=>stK 5 (.pointer (some ⟨b2,0,none⟩)) b0 h6 λ_ aw=>vK (aP 5 aw (.pointer (some ⟨b2,0,none⟩))) λa9=>Sn h (eZ o w hh) (ch o w hh) (.tuple #[a9,ai]) aw:=by
  intro h6 x y E q2 q3 Hx Hy nx ny D;rw[aU (l:=[x,y,af w,af hh,af o.border]) q3 5 rfl,ak];have bo:∀v∈[x,y,af w,af hh,af o.border],aR v=true:=aq Hx.one (aq Hy.one (aq rfl (aq rfl (aq rfl aX))));refine cT (l:=[x,y,af w,af hh,af o.border]) q2 rfl bo rfl λh7 r7 u7=>?_
  rw[aU r7 5 rfl,ak];have F:∀c,c<h6.size→fQ h3 h6 c→¬c=b2:=λc _ F he=>by
   have:=F.1;have:=bC r2;omega
  refine⟨_,by rw[D],E.upd k2 u7,λh=>absurd D h,λ_=>⟨x,y,?_,?_,?_⟩⟩
  ·show _=[x,y,af (kq o w).n,af (fj o hh).n,af o.border];rw[nx,ny]
  ·exact(Hx.fr u7.fr F).mono λc hc F=>⟨aZ ad.1 F.1,hc⟩
  ·exact(Hy.fr u7.fr F).mono λc hc F=>⟨aZ ad.1 F.1,hc⟩
 have nX:(kq o w).n=w:=by unfold kq;split<;>rfl
 have nY:(fj o hh).n=hh:=by unfold fj;split<;>rfl
 simp only[go_sem,am r1];refine ao (λhk=>?_) (λhk=>?_)
 ·refine Db.mono λv U ⟨e,wq⟩=>?_
  have wq:=wq.symm;subst e wq;by_cases an:¬bu o.w
  ·have D:=m6 (.inl (by unfold kG;rintro⟨_,_,hx⟩;exact an (hx hk).1));simp only[go_sem,an,gC,cI];exact L 6 _ D ae e3
  have an:bu o.w:=cf an;simp only[go_sem,an,am r1];refine Db.mono λv U ⟨e,wq⟩=>?_
  have wq:=wq.symm;subst e wq;by_cases al:¬bu o.hh
  ·have D:=m6 (.inl (by unfold kG;rintro⟨_,_,hx⟩;exact al (hx hk).2.1));simp only[go_sem,al,gC,cI];exact L 6 _ D ae e3
  have al:bu o.hh:=cf al;simp only[go_sem,al,am r1];refine ao (λb4=>?_) (λb4=>?_)
  ·have D:=m6 (.inl (by unfold kG;rintro⟨_,_,hx⟩;have:=(hx hk).2.2;omega));simp only[gC,cI,ak];exact L 6 _ D ae e3
  have ay:kG o:=⟨bk,a8,λ_=>⟨an,al,ae,ae⟩⟩
  have A:=mt ay;unfold iE at A;rw[aA hk]at A;have tX:(kq o w).lines=(fF o.filter w o.w).lines:=by unfold kq;rw[aA hk]
  have tY:(fj o hh).lines=(fF o.filter hh o.hh).lines:=by unfold fj;rw[aA hk]
  refine(Nn W.filter hw W.w).mono λr I ⟨p,e,e4,p0,p1⟩=>?_
  subst e;simp only[go_sem];have po:aR p=true:=by
   by_cases hc:dy o.filter w o.w=0
   ·obtain⟨_,_,e⟩:=(p1 hc).isSl;rw[e];rfl
   ·rw[p0 hc];rfl
  refine ax po (e4.row r3) λU r5 u5=>?_
  have E5:=(ad.trans e4).upd k3 u5;have be:=(e3.trans e4).upd n3 u5;refine ao (λhc=>?_) (λhc=>?_)
  ·rw[aA hc]at A;simp only[gC,cI,ak];exact L _ _ A hc be
  have hc:dy o.filter w o.w=0:=cf hc;rw[az (by simpa using hc)]at A;have b7:=u5.row (gY b5) (e4.row r1);simp only[go_sem,am b7];refine(Nn W.filter bc W.hh).mono λr h6 ⟨q,e,e6,q0,q1⟩=>?_
  subst e;simp only[go_sem];have qo:aR q=true:=by
   by_cases hc:dy o.filter hh o.hh=0
   ·obtain⟨_,_,e⟩:=(q1 hc).isSl;rw[e];rfl
   ·rw[q0 hc];rfl
  refine au qo (e6.row r5) λh7 r7 u7=>?_
  have E7:=(E5.trans e6).upd k3 u7;have bv:=(be.trans e6).upd n3 u7;refine ao (λG=>?_) (λG=>?_)
  ·simp only[gC,cI,ak];exact L _ _ A G bv
  have G:dy o.filter hh o.hh=0:=cf G;have zz:∀{a d:ah},h3.size≤a.size→∀c,c<d.size→fQ a d c→¬c=b3:=λha c _ F he=>by
   have:=F.1;omega
  refine fin E7 (u7.row (gY aa) (e6.row (u5.row (gY aa) (e4.row r2)))) r7 ?_ ?_ nX nY (by rw[A,G])
  ·rw[tX];have a1:=(p1 hc).sl.fr u5.fr (zz (cq _));have a2:=(a1.ext e6).mono (Z':=fQ h3 h6) λc _ F=>⟨F.1,by have:=F.2;have:=u5.1;have:=e6.1;omega⟩
   exact(a2.fr u7.fr (zz (cq _))).mono λc hc F=>⟨F.1,hc⟩
  ·rw[tY];have b1:h3.size≤U.size:=by have:=e4.1;have:=u5.1;omega
   exact((q1 G).sl.fr u7.fr (zz b1)).mono λc hc F=>⟨aZ b1 F.1,hc⟩
 have ay:kG o:=⟨bk,a8,λh=>absurd h hk⟩
 have A:=mt ay;unfold iE at A;rw[az hk]at A;have tX:(kq o w).lines=(jX (ed o) w).lines:=by unfold kq;rw[az hk]
 have tY:(fj o hh).lines=(jX (cK o) hh).lines:=by unfold fj;rw[az hk]
 refine bB (λxs I=>∃u v,xs=[af (gS o),u,v]∧Ext h3 I∧(gS o=0→SlI (fQ h3 I) I u (ed o)∧SlI (fQ h3 I) I v (cK o))) ?_ ?_
 ·refine ao (λk0=>?_) (λk0=>?_)
  ·refine(R8 W.sigma).mono λr I ⟨u,e,N⟩=>?_
   subst e;simp only[go_sem];have c1:gS o=Fi o.sigma:=by unfold gS;rw[aA k0]
   have c2:ed o=oF o.sigma:=by unfold ed;rw[aA k0]
   have c3:cK o=oF o.sigma:=by unfold cK;rw[aA k0]
   rw[c1,c2,c3];exact⟨u,u,rfl,N.2.1,λ_=>⟨N.since (Ext.refl _),N.since (Ext.refl _)⟩⟩
  refine ao (λk1=>?_) (λk1=>?_)
  ·simp only[go_sem,am r1];refine(ZQ W.radius).mono λr I ⟨u,e,N⟩=>?_
   subst e;simp only[go_sem];have c1:gS o=Qd o.radius:=by unfold gS;rw[az k0,aA k1]
   have c2:ed o=yB o.radius:=by unfold ed;rw[az k0,aA k1]
   have c3:cK o=yB o.radius:=by unfold cK;rw[az k0,aA k1]
   rw[c1,c2,c3];exact⟨u,u,rfl,N.2.1,λ_=>⟨N.since (Ext.refl _),N.since (Ext.refl _)⟩⟩
  have k2:(o.kind=2)=True:=jx ae;simp only[go_sem,am r1,k2];have c1:gS o=if AM o.x≠0 then AM o.x else AM o.y:=by unfold gS;rw[az k0,az k1]
  have c2:ed o=rj o.x:=by unfold ed;rw[az k0,az k1]
  have c3:cK o=rj o.y:=by unfold cK;rw[az k0,az k1]
  refine(Np (Hx.ext ad) W.x lx).mono λr I ⟨u,e,N⟩=>?_
  subst e;simp only[go_sem,am (N.2.1.row r1)];refine(Np (Hy.ext (ad.trans N.2.1)) W.y ly).mono λr U ⟨v,e,M⟩=>?_
  subst e;simp only[go_sem];have s1:SlI (fQ h3 U) U u (rj o.x):=((N.since (Ext.refl _)).ext M.2.1).mono λc hc F=>⟨F.1,bX F.2 M.2.1.1⟩
  have s2:SlI (fQ h3 U) U v (rj o.y):=M.since N.2.1;rw[c1,c2,c3];refine ao (λhc=>?_) (λhc=>?_)
  ·rw[az (by simpa using hc)];exact⟨u,v,rfl,N.2.1.trans M.2.1,λ_=>⟨s1,s2⟩⟩
  ·rw[aA hc];exact⟨u,v,rfl,N.2.1.trans M.2.1,λ_=>⟨s1,s2⟩⟩
 rintro xs ρj I ⟨u,v,rfl,e4,hu⟩;have cb:=e4;simp only[go_sem];refine ao (λhc=>?_) (λhc=>?_)
 ·rw[aA hc]at A;simp only[gC,cI,ak];exact L _ _ A hc (e3.trans e4)
 have ca:gS o=0:=cf hc;rw[az hc]at A;obtain⟨Hu,Hv⟩:=hu ca;refine(No Hu (yM o) (FF o) hw).mono λr U ⟨p,e,e5,p0,p1⟩=>?_
 subst e;simp only[go_sem];have po:aR p=true:=by
  by_cases hc:iJ (ed o) w=0
  ·obtain⟨_,_,e⟩:=(p1 hc).isSl;rw[e];rfl
  ·rw[p0 hc];rfl
 refine ax po ((e4.trans e5).row r3) λh6 r6 u6=>?_
 have E6:=(ad.trans (e4.trans e5)).upd k3 u6;have bg:=(e3.trans (e4.trans e5)).upd n3 u6;refine ao (λhc=>?_) (λhc=>?_)
 ·rw[aA hc]at A;simp only[gC,cI,ak];exact L _ _ A hc bg
 have hc:iJ (ed o) w=0:=cf hc;rw[az (by simpa using hc)]at A;have zz:∀{a d:ah},h3.size≤a.size→∀c,c<d.size→fQ a d c→¬c=b3:=λha c _ F he=>by
  have:=F.1;omega
 refine(No ((Hv.ext e5).fr u6.fr λc _ F he=>by have:=F.1;omega) (yL o) (FE o) bc).mono λr h7 ⟨q,e,e7,q0,q1⟩=>?_
 subst e;simp only[go_sem];have qo:aR q=true:=by
  by_cases hc:iJ (cK o) hh=0
  ·obtain⟨_,_,e⟩:=(q1 hc).isSl;rw[e];rfl
  ·rw[q0 hc];rfl
 refine au qo (e7.row r6) λh8 r8 u8=>?_
 have E8:=(E6.trans e7).upd k3 u8;have b8:=(bg.trans e7).upd n3 u8;refine ao (λG=>?_) (λG=>?_)
 ·simp only[gC,cI,ak];exact L _ _ A G b8
 have G:iJ (cK o) hh=0:=cf G;refine fin E8 (u8.row (gY aa) (e7.row (u6.row (gY aa) ((e4.trans e5).row r2)))) r8 ?_ ?_ nX nY (by rw[A,G])
 ·rw[tX];have a1:=(p1 hc).sl.fr u6.fr (zz e4.1);have a2:=(a1.ext e7).mono (Z':=fQ h3 h7) λc _ F=>⟨aZ e4.1 F.1,by have:=F.2;have:=u6.1;have:=e7.1;omega⟩
  exact(a2.fr u8.fr (zz (cq _))).mono λc hc F=>⟨F.1,hc⟩
 ·rw[tY];have b1:h3.size≤h6.size:=by have:=e4.1;have:=e5.1;have:=u6.1;omega
  exact((q1 G).sl.fr u8.fr (zz b1)).mono λc hc F=>⟨aZ b1 F.1,hc⟩
theorem X6 {Z:Nat→Prop}{h:ah}{cs:List Value}{o:OpD}(H:rOp.R Z h cs o){w hh:Int}:ag prog zL #[.agg cs.toArray,af w,af hh] h λr h'=>
  r=.tuple #[af (if o.kind=3 then o.w else w),af (if o.kind=3 then o.hh else hh)]∧Ext h h':=by
 apply Oj;unfold DG;obtain⟨s,t,rfl,G,I⟩:=H;simp only[bP];refine aI λb h1 r1 D F=>?_
 simp only[go_sem,am r1];refine ao (λA=>?_) (λA=>?_)
 ·rw[aA A,aA A];exact⟨rfl,D⟩
 ·rw[az A,az A];exact⟨rfl,D⟩
end Go.Proofs.YtjljhnandbbldaaGreatDoor
namespace Go.Proofs.YtjljhnandbbldaaGreatDoor
open Go Go.Crisp
attribute [local irreducible] ag di aW stK aF vK qK bK gK fo bA mkK dk Fm GM CJ bsK
open _root_.Go.Proofs.Tryz
theorem VW {Z:Nat→Prop}{h:ah}{v:Value}{l:List Int}(H:Rp.Sl rI Z h v l){i:Nat}(hi:i<l.length):
  ∃p,bh 1 v (af (i:Int))=some p∧ldV h p=some (af l[i]):=by
 obtain⟨p,c,D,hc,A⟩:=H.at1 rfl (k:=.i64) hi;have A:[c]=[af l[i]]:=A;obtain rfl:c=af l[i]:=by simpa using A
 exact⟨p,D,hc⟩
theorem Ud {h:ah}{Z Z':Nat→Prop}{v u:Value}{l:List Int}(H:Rp.Sl rI Z h v l)(K:Rp.Sl rI Z' h u l)(U:l.length≤4398046511104):
  ag prog uD #[v,u] h λr h'=>r=.bool true∧h'=h:=by
 apply Ou;unfold DN;have I:=H;have K0:=K;obtain⟨a,c,rfl⟩:=H.isSl;obtain⟨L,c',rfl⟩:=K.isSl;simp only[go_sem];refine Fc l.length (λi F=>i≤l.length∧F=h) ⟨ae,rfl⟩ ?_;rintro i _ again ρj ⟨hi,rfl⟩ D;simp only[go_sem];refine ao (λh1=>?_) (λh1=>?_)
 ·have A:i<l.length:=ae;obtain⟨p,G,hc⟩:=VW I A;obtain⟨q,hq,hd⟩:=VW K0 A;simp only[go_sem,G,hc,hq,hd];rw[w64 ae ae];exact D _ A ⟨ae,rfl⟩
 ·exact⟨trivial,trivial⟩
theorem c_Ref {h:ah}{Z:Nat→Prop}{cs:List Value}{o:OpD}(H:rOp.R Z h cs o):
  ag prog Cx #[.agg cs.toArray] h λr h'=>r=.agg cs.toArray∧rOp.R Z h' cs o∧Ext h h':=by
 apply QZ;unfold Gf;have G:=H;obtain⟨s,t,rfl,L,Hy⟩:=H;have os:=L.one;have W:=Hy.one;simp only[bP];refine aI λb1 h1 r1 D n1=>aI λb2 h2 r2 F n2=>?_
 have r1:=F.row r1;have e:=D.trans F;have s1:=D.1;simp only[go_sem,am r1];have I:aM #[ai,ai,ai,ai,(.slice none 0 0),(.slice none 0 0),ai,ai,ai]
   [(0,1,(af o.kind)),(1,1,(af o.border)),(2,1,(af o.sigma)),(3,1,(af o.radius)),(4,1,s),(5,1,t),(6,1,(af o.filter)),(7,1,(af o.w)),(8,1,(af o.hh))]=
   some #[af o.kind,af o.border,af o.sigma,af o.radius,s,t,af o.filter,af o.w,af o.hh]:=by
  simp[aM,cB os,cB W,cB (show aR (.int _ _)=true from rfl)]
 rw[I,cI,ak];refine cT (l:=[af o.kind,af o.border,af o.sigma,af o.radius,s,t,af o.filter,af o.w,af o.hh]) r2 rfl (rOp.one G) rfl λh3 U A=>?_
 rw[aU U 9 rfl,ak];exact⟨rfl,rOp.ext G (e.upd ae A),e.upd ae A⟩
end Go.Proofs.YtjljhnandbbldaaGreatDoor
namespace Go.Proofs.YtjljhnandbbldaaGreatDoor
open Go Go.Crisp
attribute [local irreducible] ag di aW stK aF vK qK bK gK fo bA mkK dk Fm GM CJ bsK clK
open _root_.Go.Proofs.Tryz
def jA (w h c:Int):Prop:=1≤w∧w≤65536∧1≤h∧h≤65536∧(c=1∨c=3)∧w*h*c≤268435456
instance (w h c:Int):Decidable (jA w h c):=by unfold jA;infer_instance
theorem VC {h:ah}{x y c:Int}:ag prog mu #[af x,af y,af c] h λr h'=>r=.bool (decide (jA x y c))∧h'=h:=by
 apply Ma;unfold A2;simp only[go_sem];refine⟨?_,trivial⟩
 congr 1
 rw[gL];unfold jA;by_cases h1:1≤x∧x≤65536∧1≤y∧y≤65536∧(c=1∨c=3)
 ·have D:=mS (a:=x) (A:=65536) (b:=y) (B:=65536) ae ae ae ae;rw[w64 (n:=x*y) ae ae,w64 (n:=x*y*c) (by rcases h1.2.2.2.2 with h|h<;>subst h<;>omega) (by rcases h1.2.2.2.2 with h|h<;>subst h<;>omega)];omega
 ·omega
theorem T0 {h:ah}{x y c:Int}:ag prog uA #[af x,af y,af c] h λr h'=>r=.bool (decide (jA x y c))∧h'=h:=by
 apply Om;unfold DI;simp only[go_sem];refine ao (λh0=>?_) (λh0=>?_)
 ·refine⟨?_,trivial⟩;rw[cG];unfold jA;omega
 refine ao (λh1=>?_) (λh1=>?_)
 ·refine⟨?_,trivial⟩;rw[cG];unfold jA;omega
 have D:=mS (a:=x) (A:=65536) (b:=y) (B:=65536) ae ae ae ae;rw[w64 (n:=x*y) ae ae,mo _ _ _ _ ae,ak];simp only[go_sem];refine⟨?_,trivial⟩
 congr 1
 rw[gL];unfold jA;have hc:c=1∨c=3:=ae;rcases hc with hc|hc<;>subst hc
 ·rw[show Int.tdiv 268435456 1=268435456 from by decide,w64 ae ae];omega
 ·rw[show Int.tdiv 268435456 3=89478485 from by decide,w64 ae ae];omega
def pI (o:OpD)(w:Int):Int:=if o.kind=3 then o.w else w
def te (o:OpD)(h:Int):Int:=if o.kind=3 then o.hh else h
def Fx (c:Int):List OpD→Int→Int→Int
 | [],_,_=>0
 |o::l,w,h=>if eZ o w h≠0 then eZ o w h else if¬jA (pI o w) (te o h) c then 5 else Fx c l (pI o w) (te o h)
def xE:List OpD→Int→Int→List Stg
 | [],_,_=>[]
 |o::l,w,h=>ch o w h::xE l (pI o w) (te o h)
def AB (l:List OpD)(w h c:Int):Int:=if 16<l.length then 6 else if¬jA w h c then 5 else Fx c l w h
def Ee:Rp Stg where
 w:=3
 R:=λZ h cs s=>∃p q,cs=[p,q,.int .i64 s.border]∧fJ Z h p s.x∧fJ Z h q s.y
 len:=by rintro _ _ _ _ ⟨x,y,rfl,_⟩;rfl
 one:=by
  rintro _ _ _ _ ⟨x,y,rfl,H,K⟩;exact aq (mE H) (aq (mE K) (aq rfl aX))
 fr:=by rintro _ _ _ _ _ _ ⟨x,y,rfl,H,K⟩ f q;exact⟨x,y,rfl,Rp.Pt.fr H f q,Rp.Pt.fr K f q⟩
 mono:=by rintro _ _ _ _ _ ⟨x,y,rfl,H,K⟩ q;exact⟨x,y,rfl,Rp.Pt.mono H q,Rp.Pt.mono K q⟩
def zat (e:Rp Stg)(h:ah)(code:Int)(l:List Stg)(r:Value)(h':ah):Prop:=∃v,r=.tuple #[v,.int .i64 code]∧Ext h h'∧(code≠0→v=.slice none 0 0)∧(code=0→jC e h h' v l)
structure Eo (l:List OpD):Prop where
 wf:∀o∈l,o.Wf
 len:∀o∈l,o.x.length≤17592186044416∧o.y.length≤17592186044416
 few:l.length≤4398046511104
theorem SH {o:OpD}(W:o.Wf){w h:Int}(A:I64 w)(hh:I64 h):I64 (pI o w)∧I64 (te o h):=by
 unfold pI te;constructor
 ·split;exact W.w;exact A
 ·split;exact W.hh;exact hh
theorem PM {α:Type}{l:List α}{k:Nat}(h:k<l.length):l.drop k=l[k]::l.drop (k+1):=zn h
theorem zby {Z:Nat→Prop}{h:ah}(G:eF h){v:Value}{l:List OpD}(H:Rp.Sl rOp Z h v l)(W:Eo l){w hh c:Int}(hw:I64 w)(ar:I64 hh):
  ag prog NX #[v,af w,af hh,af c] h (zat Ee h (AB l w hh c) (xE l w hh)):=by
 apply XB;unfold Ph;obtain⟨a,cap,e⟩:=H.isSl;have e2:aD v=some (af (l.length:Int)):=by rw[e];rfl
 rw[e2,ak];have few:=W.few;have U:AB l w hh c=if 16<l.length then 6 else if¬jA w hh c then 5 else Fx c l w hh:=rfl
 simp only[go_sem];refine ao (λh0=>?_) (λh0=>?_)
 ·rw[aA ae]at U;rw[U];exact⟨_,rfl,Ext.refl _,λ_=>rfl,λh=>by cases h⟩
 rw[az ae]at U;refine VC.mono λr h1 ⟨e,wq⟩=>?_
 have wq:=wq.symm;subst e wq;simp only[go_sem];refine ao (λh1=>?_) (λh1=>?_)
 ·rw[aA h1]at U;rw[U];exact⟨_,rfl,Ext.refl _,λ_=>rfl,λh=>by cases h⟩
 rw[az h1]at U
 try rw[e2,ak]
 refine bI (α:=Int×Int×Value) l.length 0 (λk a=>[af a.1,af a.2.1,a.2.2,af (k:Int)])
  (λk a h'=>I64 a.1∧I64 a.2.1∧AB l w hh c=Fx c (l.drop k) a.1 a.2.1∧∃done,done.length=k∧xE l w hh=done++xE (l.drop k) a.1 a.2.1∧jC Ee h h' a.2.2 done) (w,hh,.slice none 0 0) rfl (b9 _)
  ⟨hw,ar,U,[],rfl,rfl,jC.nil (Ext.refl _)⟩ λk a h2 again ρj _ hk ⟨iw,ih,hc,done,dl,hd,N⟩ aw=>?_
 obtain⟨w1,A,out⟩:=a;simp only[go_sem];have N:jC Ee h h2 out done:=N;have iw:I64 w1:=iw;have ih:I64 A:=ih;refine ao (λh3=>?_) (λh3=>?_)
 ·have I:k<l.length:=ae;have hc:AB l w hh c=Fx c (l.drop k) w1 A:=hc;have hd:xE l w hh=done++xE (l.drop k) w1 A:=hd;rw[PM I]at hc hd;have hm:=cO I;have Wo:=W.wf _ hm;have Lo:=W.len _ hm;obtain⟨p,cs,q1,q2,Ho⟩:=Rp.Sl.atw (e:=rOp) (H.ext N.exts) (show 0<9 by omega) (k:=.i64) I;have q1:bh 9 v (af (k:Int))=some p:=q1;have q2:aP 9 h2 p=some (.agg cs.toArray):=q2;rw[q1,ak,q2,ak];have F:cs.length=9:=rOp.len Ho;refine dh (cs:=cs) F (rOp.one Ho) F λb h4 r4 e4 n4=>?_
  rw[aU r4 9 F,ak];have G4:=G.ext (N.exts.trans e4);have ad:=rOp.ext Ho e4;generalize l[k]=o at*;refine(Jc G4 ad Wo ae ae iw ih).mono λr h5 ⟨sv,e,e5,s0,s1⟩=>?_
  subst e;simp only[go_sem];have so:∃ds:List Value,sv=.agg ds.toArray∧ds.length=3∧(∀x∈ds,aR x=true)∧(eZ o w1 A=0→Ee.R (fQ h4 h5) h5 ds (ch o w1 A)):=by
   by_cases hm:eZ o w1 A=0
   ·obtain⟨p,q,e,t1,t2⟩:=s1 hm;exact⟨[p,q,af (ch o w1 A).border],e,rfl,aq (mE t1) (aq (mE t2) (aq rfl aX)),λ_=>⟨p,q,rfl,t1,t2⟩⟩
   ·exact⟨[.pointer none,.pointer none,ai],s0 hm,rfl,aq rfl (aq rfl (aq rfl aX)),λh=>absurd h hm⟩
  obtain⟨ds,rfl,aa,d1,dR⟩:=so;refine dh (cs:=ds) aa d1 aa λb2 h6 r6 e6 n6=>?_
  have ab:Ext h2 h6:=e4.trans (e5.trans e6);refine ao (λD=>?_) (λD=>?_)
  ·unfold Fx at hc;rw[aA D]at hc;rw[hc];exact⟨_,rfl,N.exts.trans ab,λ_=>rfl,λh=>absurd h D⟩
  have D:eZ o w1 A=0:=cf D;unfold Fx at hc;rw[az (by simpa using D)]at hc;have al:=(e5.trans e6).row r4;rw[aU al 9 F,ak];refine(ZX (rOp.ext ad (e5.trans e6))).mono λr h7 ⟨e,e7⟩=>?_
  subst e;simp only[go_sem];refine VC.mono λr L ⟨e,wq⟩=>?_
  have wq:=wq.symm;subst e wq;simp only[go_sem];refine ao (λL=>?_) (λL=>?_)
  ·have L:¬jA (pI o w1) (te o A) c:=L;rw[aA L]at hc;rw[hc];exact⟨_,rfl,N.exts.trans (ab.trans e7),λ_=>rfl,λh=>by cases h⟩
  have L:¬ ¬jA (pI o w1) (te o A) c:=L;rw[az L]at hc;rw[aU (e7.row r6) 3 aa,ak];have an:=ab.trans e7;have N7:=N.ext an;have R7:=Ee.ext (dR D) (e6.trans e7);refine jC.push (e:=Ee) (Y:=fQ h4 h5) N7 R7 (λb hb=>⟨aZ (N.exts.trans e4).1 hb.1,?_,λhv=>?_⟩) rfl rfl (by rw[dl];omega) (by rw[dl];omega) λs' h' N' _ _=>?_
  ·have:=hb.2;have:=e6.1;have:=e7.1;omega
  ·have h9:=N.lt hv;have ay:=hb.1;have ax:=e4.1;omega
  ·try simp only[go_sem]
   rw[w64 ae ae];have hs:=SH Wo iw ih;refine aw (pI o w1,te o A,s') h' I ⟨hs.1,hs.2,hc,done++[ch o w1 A],by simp[dl],?_,N'⟩;rw[cg];exact hd
 ·have au:k=l.length:=ae;subst au;have hc:AB l w hh c=Fx c (l.drop l.length) w1 A:=hc;have hd:xE l w hh=done++xE (l.drop l.length) w1 A:=hd;rw[List.drop_length]at hc hd;have hc:AB l w hh c=0:=hc;rw[hc,hd];refine⟨_,rfl,N.exts,λh=>absurd rfl h,λ_=>?_⟩;rw[show xE [] w1 A=[]from rfl,gM];exact N
theorem ZV {Z:Nat→Prop}{h:ah}{v:Value}{l:List OpD}(H:Rp.Sl rOp Z h v l)(W:Eo l){w hh c:Int}(hw:I64 w)(an:I64 hh):
  ag prog Cq #[v,af w,af hh,af c] h (zat xp h (AB l w hh c) (xE l w hh)):=by
 apply QL;unfold FT;obtain⟨a,cap,e⟩:=H.isSl;have e2:aD v=some (af (l.length:Int)):=by rw[e];rfl
 rw[e2,ak];have few:=W.few;have L:AB l w hh c=if 16<l.length then 6 else if¬jA w hh c then 5 else Fx c l w hh:=rfl
 simp only[go_sem];refine ao (λh0=>?_) (λh0=>?_)
 ·rw[aA ae]at L;rw[L];exact⟨_,rfl,Ext.refl _,λ_=>rfl,λh=>by cases h⟩
 rw[az ae]at L;refine T0.mono λr h1 ⟨e,wq⟩=>?_
 have wq:=wq.symm;subst e wq;simp only[go_sem];refine ao (λh1=>?_) (λh1=>?_)
 ·rw[aA h1]at L;rw[L];exact⟨_,rfl,Ext.refl _,λ_=>rfl,λh=>by cases h⟩
 rw[az h1]at L
 try rw[e2,ak]
 refine bI (α:=Int×Int×Value) l.length 0 (λk a=>[af a.1,af a.2.1,a.2.2,af (k:Int)])
  (λk a h'=>I64 a.1∧I64 a.2.1∧AB l w hh c=Fx c (l.drop k) a.1 a.2.1∧∃done,done.length=k∧xE l w hh=done++xE (l.drop k) a.1 a.2.1∧jC xp h h' a.2.2 done) (w,hh,.slice none 0 0) rfl (b9 _)
  ⟨hw,an,L,[],rfl,rfl,jC.nil (Ext.refl _)⟩ λk a h2 again ρj _ hk ⟨iw,ih,hc,done,dl,hd,N⟩ au=>?_
 obtain⟨w1,A,out⟩:=a;simp only[go_sem];have N:jC xp h h2 out done:=N;have iw:I64 w1:=iw;have ih:I64 A:=ih;refine ao (λh3=>?_) (λh3=>?_)
 ·have G:k<l.length:=ae;have hc:AB l w hh c=Fx c (l.drop k) w1 A:=hc;have hd:xE l w hh=done++xE (l.drop k) w1 A:=hd;rw[PM G]at hc hd;have hm:=cO G;have Wo:=W.wf _ hm;have Lo:=W.len _ hm;obtain⟨p,cs,q1,q2,Ho⟩:=Rp.Sl.atw (e:=rOp) (H.ext N.exts) (show 0<9 by omega) (k:=.i64) G;have q1:bh 9 v (af (k:Int))=some p:=q1;have q2:aP 9 h2 p=some (.agg cs.toArray):=q2;rw[q1,ak,q2,ak];have F:cs.length=9:=rOp.len Ho;refine dh (cs:=cs) F (rOp.one Ho) F λb h4 r4 e4 n4=>?_
  rw[aU r4 9 F,ak];have ab:=rOp.ext Ho e4;generalize l[k]=o at*;refine(X7 ab Wo ae ae iw ih).mono λr h5 ⟨ds,e,e5,s0,dR⟩=>?_
  subst e;simp only[go_sem];have so:ds.length=5∧(∀x∈ds,aR x=true):=by
   by_cases hm:eZ o w1 A=0
   ·exact⟨xp.len (dR hm),xp.one (dR hm)⟩
   ·rw[s0 hm];exact⟨rfl,aq rfl (aq rfl (aq rfl (aq rfl (aq rfl aX))))⟩
  obtain⟨U,d1⟩:=so;refine dh (cs:=ds) U d1 U λb2 h6 r6 e6 n6=>?_
  have aa:Ext h2 h6:=e4.trans (e5.trans e6);refine ao (λD=>?_) (λD=>?_)
  ·unfold Fx at hc;rw[aA D]at hc;rw[hc];exact⟨_,rfl,N.exts.trans aa,λ_=>rfl,λh=>absurd h D⟩
  have D:eZ o w1 A=0:=cf D;unfold Fx at hc;rw[az (by simpa using D)]at hc;have ad:=(e5.trans e6).row r4;rw[aU ad 9 F,ak];refine(X6 (rOp.ext ab (e5.trans e6))).mono λr h7 ⟨e,e7⟩=>?_
  subst e;simp only[go_sem];refine T0.mono λr I ⟨e,wq⟩=>?_
  have wq:=wq.symm;subst e wq;simp only[go_sem];refine ao (λI=>?_) (λI=>?_)
  ·have I:¬jA (pI o w1) (te o A) c:=I;rw[aA I]at hc;rw[hc];exact⟨_,rfl,N.exts.trans (aa.trans e7),λ_=>rfl,λh=>by cases h⟩
  have I:¬ ¬jA (pI o w1) (te o A) c:=I;rw[az I]at hc;rw[aU (e7.row r6) 5 U,ak];have al:=aa.trans e7;have N7:=N.ext al;have R7:=xp.ext (dR D) (e6.trans e7);refine jC.push (e:=xp) (Y:=fQ h4 h5) N7 R7 (λb hb=>⟨aZ (N.exts.trans e4).1 hb.1,?_,λhv=>?_⟩) rfl rfl (by rw[dl];omega) (by rw[dl];omega) λs' h' N' _ _=>?_
  ·have:=hb.2;have:=e6.1;have:=e7.1;omega
  ·have h9:=N.lt hv;have ax:=hb.1;have aw:=e4.1;omega
  ·try simp only[go_sem]
   rw[w64 ae ae];have hs:=SH Wo iw ih;refine au (pI o w1,te o A,s') h' G ⟨hs.1,hs.2,hc,done++[ch o w1 A],by simp[dl],?_,N'⟩;rw[cg];exact hd
 ·have ar:k=l.length:=ae;subst ar;have hc:AB l w hh c=Fx c (l.drop l.length) w1 A:=hc;have hd:xE l w hh=done++xE (l.drop l.length) w1 A:=hd;rw[List.drop_length]at hc hd;have hc:AB l w hh c=0:=hc;rw[hc,hd];refine⟨_,rfl,N.exts,λh=>absurd rfl h,λ_=>?_⟩;rw[show xE [] w1 A=[]from rfl,gM];exact N
theorem zcY {Z:Nat→Prop}{h:ah}{v:Value}{l:List OpD}(H:Rp.Sl rOp Z h v l)(few:l.length≤4398046):
  ag prog zX #[v] h λr h'=>Rp.Sl rOp (λ_=>True) h' r l∧Ext h h':=by
 apply OI;unfold D3;obtain⟨a,cap,e⟩:=H.isSl;have e2:aD v=some (af (l.length:Int)):=by rw[e];rfl
 rw[e2,ak];have H:=H.mono (Z':=λc=>c<h.size) λc hc _=>hc
 refine bI (α:=Value) l.length 0 (λk a=>[a,af (k:Int)])
  (λk a h'=>Rp.Ow rOp (λc=>c<h.size) h' a (l.take k)∧Ext h h'∧∀b,blk a b→h.size≤b) (.slice none 0 0) rfl (b9 _)
  ⟨Rp.Ow.nil,Ext.refl _,λb hb=>hb.elim⟩ λk out h2 again ρj _ hk ⟨N,E,nb⟩ W=>?_
 simp only[go_sem];refine ao (λh3=>?_) (λh3=>?_)
 ·have D:k<l.length:=ae;obtain⟨p,cs,L,I,Ho⟩:=Rp.Sl.atw (e:=rOp) (H.ext E) (show 0<9 by omega) (k:=.i64) D;have L:bh 9 v (af (k:Int))=some p:=L;have I:aP 9 h2 p=some (.agg cs.toArray):=I;rw[L,ak,I,ak];have A:cs.length=9:=rOp.len Ho;refine dh (cs:=cs) A (rOp.one Ho) A λb h4 r4 G n4=>?_
  rw[aU r4 9 A,ak];refine(c_Ref (rOp.ext Ho G)).mono λr h5 ⟨e,aa,e5⟩=>?_
  subst e;have U:=(E.trans G).trans e5;have F:(l.take k).length=k:=by rw[db];omega
  refine Rp.push_ow (e:=rOp) (N.ext (G.trans e5)) aa rfl rfl (by rw[F];omega) (by rw[F];omega) (λc hc=>bX hc U.1) λs' h' o' f' n'=>?_
  try simp only[go_sem]
  rw[w64 ae ae];rw[←jU D]at o';refine W s' h' D ⟨o',U.then_fr f' nb,λc hc=>?_⟩;rcases n' c hc with h6|h6
  ·exact nb c h6
  ·exact aZ U.1 h6
 ·rw[eS ae]at N;exact⟨N.sl.mono λ_ _ _=>trivial,E⟩
abbrev rU:Rp Int:=Rp.int .u16
abbrev JX (l:List Int):List Value:=l.map λn=>Value.int .u16 n
structure Pic where
 w:Int
 h:Int
 c:Int
 most:Int
 l:List Int
structure Pic.Wf (m:Pic):Prop where
 fits:jA m.w m.h m.c
 m1:1≤m.most
 m2:m.most≤65535
 len:(m.l.length:Int)=m.w*m.h*m.c
 smp:∀x∈m.l,0≤x∧x≤m.most
def inP (m:Pic)(x y c:Int):Prop:=0≤x∧x<m.w∧0≤y∧y<m.h∧0≤c∧c<m.c
instance (m:Pic)(x y c:Int):Decidable (inP m x y c):=by unfold inP;infer_instance
def pD (m:Pic)(x y c:Int):Int:=(y*m.w+x)*m.c+c
def atP (m:Pic)(x y c:Int):Int:=if inP m x y c then m.l.getD (pD m x y c).toNat 0 else 0
def SI (m:Pic)(x y c v:Int):Pic:={m with l:=m.l.set (pD m x y c).toNat v}
theorem du {w h c:Int}(f:jA w h c):1≤w∧w≤65536∧1≤h∧h≤65536∧1≤c∧c≤3∧0≤w*h∧w*h≤4294967296∧0≤w*h*c∧w*h*c≤268435456:=by
 obtain⟨h1,G,F,H,L,I⟩:=f;have D:=mS (a:=w) (A:=65536) (b:=h) (B:=65536) ae ae ae ae;refine⟨h1,G,F,H,ae,ae,D.1,D.2,ku D.1 ae,I⟩
theorem LP {m:Pic}(W:m.Wf){x y c:Int}(h:inP m x y c):0≤y*m.w∧y*m.w+x≤4294967296∧0≤pD m x y c∧pD m x y c<m.l.length:=by
 obtain⟨h1,F,U,L,h5,h6,I,h8,h9,A⟩:=du W.fits;obtain⟨x0,H,y0,y1,c0,c1⟩:=h;have a0:0≤y*m.w:=ku y0 ae;have a1:y*m.w≤(m.h-1)*m.w:=oB ae ae;rw[RA,kr,fU m.h]at a1;have G:0≤(y*m.w+x)*m.c:=ku ae ae;have D:(y*m.w+x)*m.c≤(m.w*m.h-1)*m.c:=oB ae ae;rw[RA,kr]at D;have:=W.len;unfold pD;refine⟨a0,ae,ae,ae⟩
structure dd (h:ah)(b:Nat)(v:Value)(m:Pic):Prop where
 row:h[b]? =some (.cells #[.int .i64 m.w,.int .i64 m.h,.int .i64 m.c,.int .i64 m.most,v] 110 (0,0))
 own:Own 1 h v m.l.length (JX m.l)
 ap:¬blk v b
abbrev ptr (b:Nat):Value:=.pointer (some ⟨b,0,none⟩)
theorem dd.fr {M:Nat→Prop}{h h':ah}{b:Nat}{v:Value}{m:Pic}(H:dd h b v m)(f:Fr M h h')(A:¬M b)(q:∀c,blk v c→¬M c):dd h' b v m:=⟨f.row H.row A,H.own.fr f q,H.ap⟩
theorem dd.ext {h h':ah}{b:Nat}{v:Value}{m:Pic}(H:dd h b v m)(e:Ext h h'):dd h' b v m:=H.fr (M:=λ_=>False) e.fr id λ_ _=>id
theorem dd.lt {h:ah}{b:Nat}{v:Value}{m:Pic}(H:dd h b v m):b<h.size:=bC H.row
theorem dd.ltv {h:ah}{b:Nat}{v:Value}{m:Pic}(H:dd h b v m){c:Nat}(hc:blk v c):c<h.size:=H.own.lt hc
theorem ur {h:ah}{b:Nat}{v:Value}{m:Pic}(H:dd h b v m):ag prog bM #[ptr b] h λr h'=>r=af m.w∧h'=h:=by
 apply AF;unfold pM;simp only[go_sem,am H.row];exact⟨by simp,by simp⟩
theorem sh {h:ah}{b:Nat}{v:Value}{m:Pic}(H:dd h b v m):ag prog bO #[ptr b] h λr h'=>r=af m.h∧h'=h:=by
 apply yW;unfold nO;simp only[go_sem,am H.row];exact⟨by simp,by simp⟩
theorem eU {h:ah}{b:Nat}{v:Value}{m:Pic}(H:dd h b v m):ag prog aV #[ptr b] h λr h'=>r=af m.c∧h'=h:=by
 apply xu;unfold mf;simp only[go_sem,am H.row];exact⟨by simp,by simp⟩
theorem uH {h:ah}{b:Nat}{v:Value}{m:Pic}(H:dd h b v m):ag prog dr #[ptr b] h λr h'=>r=af m.most∧h'=h:=by
 apply BD;unfold ry;simp only[go_sem,am H.row];exact⟨by simp,by simp⟩
theorem WY {h:ah}{b:Nat}{v:Value}{m:Pic}(H:dd h b v m)(W:m.Wf){x y c:Int}:ag prog iP #[ptr b,af x,af y,af c] h λr h'=>
  r=af (if inP m x y c then pD m x y c else-1)∧h'=h:=by
 apply AE;unfold pL;have G:aG h ⟨b,0,none⟩=some (af m.w):=am H.row;have F:aG h ⟨b,1,none⟩=some (af m.h):=am H.row;have D:aG h ⟨b,2,none⟩=some (af m.c):=am H.row;simp only[go_sem,aK,G,F,D];refine ao (λh0=>?_) (λh0=>?_)
 ·rw[az (by unfold inP;omega)];exact⟨rfl,trivial⟩
 ·have hi:inP m x y c:=by unfold inP;omega
  have L:=LP W hi;have I:=du W.fits;have U:=W.len;rw[aA hi];have e:(y*m.w+x)*m.c+c=pD m x y c:=rfl;have A:=hi;unfold inP at A;rw[w64 (n:=y*m.w) ae ae,w64 (n:=y*m.w+x) ae ae,w64 (n:=(y*m.w+x)*m.c) ae ae,w64 ae ae];exact⟨rfl,trivial⟩
theorem zbR {h:ah}{b:Nat}{v:Value}{m:Pic}(H:dd h b v m)(W:m.Wf){x y c:Int}:ag prog gx #[ptr b,af x,af y,af c] h λr h'=>
  r=.int .u16 (atP m x y c)∧h'=h:=by
 apply EP;unfold uW;refine(WY H W).mono λr h1 ⟨e,F⟩=>?_
 have F:=F.symm;subst e F;unfold atP;have L:aG h ⟨b,4,none⟩=some v:=am H.row;by_cases hi:inP m x y c
 ·have G:=LP W hi;rw[aA hi,aA hi];simp only[go_sem,aK,L];rw[da G.2.2.1,gR];obtain⟨i,D⟩:∃i:Nat,pD m x y c=(i:Int):=⟨(pD m x y c).toNat,ae⟩
  rw[D,eo];have A:i<m.l.length:=ae;obtain⟨p,U,I,_⟩:=H.own.at1 (k:=.i64) A;rw[U,ak,I,ak];refine⟨?_,trivial⟩;rw[eT];simp[dS,A]
 ·rw[az hi,az hi];simp only[go_sem];rw[show decide ((0:Int)≤ -1)=false from rfl,cR];exact⟨by simp,by simp⟩
theorem W1 {h:ah}{b:Nat}{v:Value}{m:Pic}(H:dd h b v m)(W:m.Wf){x y c n:Int}(n0:0≤n)(n1:n≤65535):ag prog fZ #[ptr b,af x,af y,af c,.int .u16 n] h λr h'=>
  r=.bool (decide (inP m x y c∧n≤m.most))∧dd h' b v (if inP m x y c∧n≤m.most then SI m x y c n else m)∧Fr (blk v) h h'∧h'.size=h.size:=by
 apply Do;unfold tu;refine(WY H W).mono λr h1 ⟨e,G⟩=>?_
 have G:=G.symm;subst e G;have q3:aG h ⟨b,3,none⟩=some (af m.most):=am H.row;have q4:aG h ⟨b,4,none⟩=some v:=am H.row;simp only[go_sem,aK,q3,q4];rw[w64 ae ae];by_cases hi:inP m x y c
 ·have hp:=LP W hi;rw[aA hi];refine ao (λh0=>?_) (λh0=>?_)
  ·have A:¬(inP m x y c∧n≤m.most):=by rintro⟨_,_⟩;omega
   rw[az A,cG A];exact⟨rfl,H,Fr.refl _ _,trivial⟩
  ·have I:inP m x y c∧n≤m.most:=⟨hi,ae⟩
   rw[aA I,da I];obtain⟨i,D⟩:∃i:Nat,pD m x y c=(i:Int):=⟨(pD m x y c).toNat,ae⟩
   have hs:SI m x y c n={m with l:=m.l.set i n}:=by unfold SI;rw[D,eo]
   rw[D,hs];have F:i<m.l.length:=ae;obtain⟨p,p1,p2,U⟩:=H.own.at1 (k:=.i64) F;rw[p1,ak];refine U _ _ rfl λL o2 f2 s2=>⟨rfl,⟨f2.row H.row H.ap,?_,H.ap⟩,f2,s2⟩
   show Own 1 L v (m.l.set i n).length (JX (m.l.set i n));rw[GU,JX,KM];exact o2
 ·have A:¬(inP m x y c∧n≤m.most):=λhh=>hi hh.1
  rw[az hi,az A,cG A];rw[show decide ((-1:Int)<0∨m.most<n)=true from da ae,gR];exact⟨rfl,H,Fr.refl _ _,trivial⟩
theorem VT {m:Pic}(W:m.Wf){x y c n:Int}(F:0≤n)(A:n≤m.most):(SI m x y c n).Wf:=by
 refine⟨W.fits,W.m1,W.m2,?_,λz D=>?_⟩
 ·show((m.l.set _ n).length:Int)=_;rw[GU];exact W.len
 ·rcases List.mem_or_eq_of_mem_set D with h|h
  ·exact W.smp z h
  ·rw[h];exact⟨F,A⟩
theorem EA {k:IntKind}{h:ah}{v:Value}{l:List Int}(H:Own 1 h v l.length (l.map λn=>Value.int k n)):Rp.Sl (Rp.int k) (blk v) h v l:=
 (VZ H).sl.mono λb _ A=>A.elim False.elim id
theorem Uh {h:ah}{Z:Nat→Prop}{v:Value}{l:List Int}(H:Rp.Sl rU Z h v l)(hl:l.length≤1000000000):
  ag prog dA #[v] h λr h'=>New rU h h' r l:=by
 apply oe;unfold iF;obtain⟨ds,⟨A,a,cap,rfl,D⟩,hz,he⟩:=H;rw[Jf,ak];cases a with
 | none=>
  have:l=[]:=by
   rcases D with D|⟨b,o,h0,_⟩
   ·subst D;have U:([]:List Value).length=l.length*1:=A;exact mW (by simpa using U.symm)
   ·cases h0
  subst this;simp only[Rs,go_sem];exact New.nil (Ext.refl _)
 |some a=>
  simp only[Rq,go_sem];refine dc (c':=#[]) rfl λb h1 r1 L n1=>?_
  have O:Rp.Ow rU (λ_=>False) h1 (.slice (some ⟨b,0,none⟩) 0 0) []:=⟨[],.inr ⟨b,0,[],_,rfl,cq _,rfl,rfl,r1⟩,λb W F=>F,λi hi=>absurd hi (by simp)⟩
  have S1:SlC 1 h1 (.slice (some a) l.length cap) l.length ds:=SlC.ext ⟨A,some a,cap,rfl,D⟩ L;refine Rp.app_ow (e:=rU) (l:=[]) (l2:=l) O S1 (λi hi=>he i hi) rfl (by simp;omega) (by simp;omega) (λb W=>W.elim) λv2 U O2 f2 n2=>?_
  rw[fG]at O2;have nb:∀k,blk (.slice (some ⟨b,0,none⟩) 0 0) k→h.size≤k:=λk G=>by have:k=b:=G;omega
  refine⟨O2,L.then_fr f2 nb,λk G=>?_⟩;rcases n2 k G with I|I
  ·exact nb k I
  ·exact aZ L.1 I
theorem Yi {h:ah}{b:Nat}{v:Value}{m:Pic}(H:dd h b v m)(W:m.Wf):ag prog kb #[ptr b] h λr h'=>New rU h h' r m.l:=by
 apply yt;unfold nj;have A:aG h ⟨b,4,none⟩=some v:=am H.row;simp only[go_sem,aK,A];have D:=du W.fits;have:=W.len;exact Uh (EA H.own) ae
theorem Zz {a b c d e v w x y z:Value}(F:aR a=true)(D:aR b=true)(hc:aR c=true)(hd:aR d=true)(A:aR e=true):aM #[v,w,x,y,z] [(0,1,a),(1,1,b),(2,1,c),(3,1,d),(4,1,e)]=some #[a,b,c,d,e]:=by
 simp only[aM,cB F,cB D,cB hc,cB hd,cB A];rfl
def BT (w h c most:Int):Int:=if most<1∨65535<most∨(c≠1∧c≠3)then 2 else if¬jA w h c then 5 else 0
def uq (w h c most:Int):Pic:=⟨w,h,c,most,List.replicate (w*h*c).toNat 0⟩
def sQ (h h':ah)(p:Value)(m:Pic):Prop:=∃b v,p=ptr b∧dd h' b v m∧h.size≤b∧(∀c,blk v c→h.size≤c)∧Ext h h'
theorem yz {w h c most:Int}:BT w h c most=0↔jA w h c∧1≤most∧most≤65535:=by
 unfold BT;split
 ·constructor
  ·intro h;cases h
  ·rintro⟨⟨_,_,_,_,_,_⟩,_,_⟩;omega
 ·split
  ·constructor
   ·intro h;cases h
   ·rintro⟨h,_⟩;contradiction
  ·rename_i h1 A;exact⟨λ_=>⟨cf A,ae,ae⟩,λ_=>rfl⟩
theorem C7 {w h c most:Int}(H:BT w h c most=0):(uq w h c most).Wf:=by
 obtain⟨h1,F,A⟩:=yz.1 H;have G:=du h1;refine⟨h1,F,A,?_,λx D=>?_⟩
 ·show((List.replicate (w*h*c).toNat (0:Int)).length:Int)=w*h*c;rw[vx];omega
 ·have:x=0:=(KH.1 D).2;subst this;show 0≤(0:Int)∧(0:Int)≤most;omega
theorem yA {h:ah}{w hh c most:Int}:ag prog iO #[af w,af hh,af c,af most] h λr h'=>
  ∃p,r=.tuple #[p,af (BT w hh c most)]∧Ext h h'∧(BT w hh c most≠0→p=.pointer none)∧(BT w hh c most=0→sQ h h' p (uq w hh c most)):=by
 apply OE;unfold DX;simp only[go_sem];have A:BT w hh c most=if most<1∨65535<most∨(c≠1∧c≠3)then 2 else if¬jA w hh c then 5 else 0:=rfl
 refine ao (λh0=>?_) (λh0=>?_)
 ·rw[aA ae]at A;rw[A];exact⟨_,rfl,Ext.refl _,λ_=>rfl,λh=>by cases h⟩
 rw[az ae]at A;refine VC.mono λr h1 ⟨e,G⟩=>?_
 have G:=G.symm;subst e G;simp only[go_sem];refine ao (λh1=>?_) (λh1=>?_)
 ·rw[aA h1]at A;rw[A];exact⟨_,rfl,Ext.refl _,λ_=>rfl,λh=>by cases h⟩
 rw[az h1]at A;have hf:=du (cf h1);rw[w64 (n:=w*hh) ae ae,w64 (n:=w*hh*c) ae ae];obtain⟨n,H⟩:∃n:Nat,w*hh*c=(n:Int):=⟨(w*hh*c).toNat,ae⟩
 rw[H];refine og rfl ae ae λv h2 o2 F n2=>?_
 obtain⟨av,cv,ev⟩:=o2.isSl;rw[Zz rfl rfl rfl rfl (by rw[ev];rfl),cI,ak];refine aI (c:=#[af w,af hh,af c,af most,v]) λb W U D I=>?_
 rw[A];refine⟨_,rfl,F.trans D,λh=>absurd rfl h,λ_=>⟨b,v,rfl,⟨U,?_,λL=>?_⟩,aZ F.1 I,n2,F.trans D⟩⟩
 ·show Own 1 W v (List.replicate (w*hh*c).toNat (0:Int)).length (JX (List.replicate (w*hh*c).toNat 0));rw[H,eo,vx,JX,Ro];exact o2.fr (M:=λ_=>False) D.fr λ_ _=>id
 ·have:=o2.lt L;omega
theorem Rf {l m:List Int}(h:l.length=m.length)(H:∀i (h1:i<l.length) (A:i<m.length),l[i]=m[i]):l=m:=qw h λi h1 A=>H i h1 A
theorem New.img {h h0:ah}{u:Value}{m:Pic}{b:Nat}{h':ah}(N:New rU h h0 u m.l)(r:h'[b]? =some (.cells #[af m.w,af m.h,af m.c,af m.most,u] 110 (0,0)))(e:Ext h0 h')(n:h0.size≤b):sQ h h' (ptr b) m:=
 ⟨b,u,rfl,⟨r,(Qz N.1).fr (M:=λ_=>False) e.fr λ_ _=>id,λA=>by have:=N.1.lt A;omega⟩,aZ N.2.1.1 n,N.2.2,N.2.1.trans e⟩
theorem zc6 {h:ah}{b:Nat}{v:Value}{m:Pic}(H:dd h b v m)(W:m.Wf):ag prog lZ #[ptr b] h λr h'=>sQ h h' r m:=by
 apply BE;unfold rz;simp only[go_sem,aK];have q:∀h',Ext h h'→_:=λh' e=>e.row H.row
 refine aQ (Ext h) (Ext.refl _) ?_;refine aC (af m.w) (λh' e=>am (q h' e)) ?_;refine aC (af m.h) (λh' e=>am (q h' e)) ?_;refine aC (af m.c) (λh' e=>am (q h' e)) ?_;refine aC (af m.most) (λh' e=>am (q h' e)) ?_;refine aC v (λh' e=>am (q h' e)) ?_;have I:=du W.fits;have:=W.len;refine(Uh (EA H.own) ae).mono λu h1 N=>⟨N.2.1,?_⟩
 obtain⟨av,cv,ev⟩:=N.isSl;rw[Zz rfl rfl rfl rfl (by rw[ev];rfl),cI,ak];refine aI (c:=#[af m.w,af m.h,af m.c,af m.most,u]) λG L F D A=>?_
 exact New.img N F D A
theorem zc4 {h:ah}{Z:Nat→Prop}{v:Value}{l:List Int}(H:Rp.Sl rU Z h v l)(h0:0<l.length)(hl:l.length≤1000000000):
  ag prog gq #[v] h λr h'=>(∃x∈l,r=.int .u16 x)∧h'=h:=by
 apply qh;unfold jn;obtain⟨a,c,e⟩:=H.isSl;have U:aD v=some (af (l.length:Int)):=by rw[e];rfl
 refine bB (λxs h'=>h'=h) ?_ ?_
 ·simp only[go_sem,U];rw[cG ae,cR];trivial
 rintro xs ρj h1 hh;have hh:=hh.symm;subst hh;obtain⟨p,I,p2⟩:=H.int_at (k':=.i64) h0;have I:bh 1 v ai=some p:=I;rw[I,ak,p2,ak];refine bI (α:=Int) l.length 1 (λi x=>[.int .u16 x,af (i:Int)]) (λi x h'=>x∈l∧h'=h) l[0] rfl ae ⟨cO _,rfl⟩ λi x h1 again ρj W hi ⟨L,D⟩ G=>?_
 have D:=D.symm;subst D;simp only[go_sem,U];refine ao (λh2=>?_) (λh2=>?_)
 ·have A:i<l.length:=ae;obtain⟨q,q1,q2⟩:=H.int_at (k':=.i64) A;simp only[go_sem,q1,q2];rw[w64 ae ae];refine G _ h A ⟨?_,rfl⟩;rcases CR x l[i]with F|F
  ·rw[Int.max_eq_right F];exact cO _
  ·rw[Int.max_eq_left F];exact L
 ·exact⟨⟨x,L,rfl⟩,trivial⟩
theorem Sb {h:ah}{Z:Nat→Prop}{v:Value}{l:List Int}{w hh c most:Int}(H:Rp.Sl rU Z h v l)(hc:BT w hh c most=0)(hl:(l.length:Int)=w*hh*c)(hs:∀x∈l,0≤x∧x≤most):
  ag prog sw #[af w,af hh,af c,af most,v] h λr h'=>∃p,r=.tuple #[p,ai]∧sQ h h' p ⟨w,hh,c,most,l⟩:=by
 apply QT;unfold F9;refine yA.mono λr h1 ⟨p,e,L,_,s1⟩=>?_
 subst e;obtain⟨b,u,rfl,I,nb,nu,_⟩:=s1 hc;obtain⟨f1,f2,f3⟩:=yz.1 hc;have hf:=du f1;have W:=C7 hc;obtain⟨a,ca,e⟩:=H.isSl;have e2:aD v=some (af (l.length:Int)):=by rw[e];rfl
 obtain⟨au,cu,eu⟩:=I.own.isSl;have il:((uq w hh c most).l.length:Int)=w*hh*c:=W.len;have D:aD u=some (af (l.length:Int)):=by rw[eu,hl,←il];rfl
 have q4:aG h1 ⟨b,4,none⟩=some u:=am I.row;simp only[go_sem,hc,e2,aK,q4,D];have h0:0<l.length:=by
  have a1:1≤w*hh:=by
   have:=ks (show(1:Int)≤w by omega) (show(1:Int)≤hh by omega) ae ae;omega
  have:=ks a1 (show(1:Int)≤c by omega) ae ae;omega
 refine(zc4 (H.ext L) h0 ae).mono λr h2 ⟨⟨x,hx,e⟩,U⟩=>?_
 have U:=U.symm;subst e U;have aa:=hs x hx;simp only[go_sem];rw[w64 ae ae,cG ae,cR];simp only[go_sem,aK,q4];have hn:(uq w hh c most).l.length=l.length:=ae;have A:=I.own;rw[hn]at A;obtain⟨ds,S,_,he⟩:=H.ext L;have G:ds=JX l:=by
  have ab:ds.length=l.length*1:=S.1;apply qw
  ·simp;omega
  ·intro i F h4;have h5:=he i (by simpa using h4);have h6:Rp.el 1 ds i=[Value.int .u16 (l[i]'(by simpa using h4))]:=h5;rw[Rp.el_one F]at h6;simpa using h6
 subst G;refine HZ A S (λy hy=>by obtain⟨z,_,rfl⟩:=gO.1 hy;rfl) λF o3 f3 s3=>?_
 refine⟨_,rfl,b,u,rfl,⟨f3.row I.row I.ap,?_,I.ap⟩,nb,nu,L.then_fr f3 nu⟩;show Own 1 F u l.length (JX l);have e5:(JX l).take l.length++(JX (uq w hh c most).l).drop l.length=JX l:=by
  rw[eS (by simp),qs (by simp;omega),gM]
 rw[←e5];exact o3
def B5 (w h c most:Int)(l:List Int):Pic:=
 ⟨1+w%20,1+h%20,1+2*(c%2),1+most%65535,(List.range ((1+w%20)*(1+h%20)*(1+2*(c%2))).toNat).map λi=>if 0<l.length then(l.getD (i%l.length) 0+((i/l.length:Nat):Int))%(1+most%65535+1)else 0⟩
theorem TO (w h c:Int):1≤(1+w%20)*(1+h%20)*(1+2*(c%2))∧(1+w%20)*(1+h%20)*(1+2*(c%2))≤1200:=by
 have h1:=mS (a:=1+w%20) (A:=20) (b:=1+h%20) (B:=20) ae ae ae ae;have D:=ks (show(1:Int)≤1+w%20 by omega) (show(1:Int)≤1+h%20 by omega) ae ae;generalize(1+w%20)*(1+h%20)=a at*;have:c%2=0∨c%2=1:=ae;rcases this with h|h<;>rw[h]<;>omega
theorem TP (w h c most:Int)(l:List Int):(B5 w h c most l).Wf:=by
 have D:=TO w h c;refine⟨⟨?_,?_,?_,?_,?_,?_⟩,?_,?_,?_,λx A=>?_⟩
 ·show 1≤1+w%20;omega
 ·show 1+w%20≤65536;omega
 ·show 1≤1+h%20;omega
 ·show 1+h%20≤65536;omega
 ·show 1+2*(c%2)=1∨1+2*(c%2)=3;omega
 ·show(1+w%20)*(1+h%20)*(1+2*(c%2))≤268435456;omega
 ·show 1≤1+most%65535;omega
 ·show 1+most%65535≤65535;omega
 ·show((List.map _ (List.range _)).length:Int)=(1+w%20)*(1+h%20)*(1+2*(c%2));rw[cQ,eN];omega
 ·obtain⟨i,_,rfl⟩:=gO.1 A;show 0≤_∧_≤1+most%65535;split
  ·have:=kz (l.getD (i%l.length) 0+((i/l.length:Nat):Int)) (show 1+most%65535+1≠0 by omega);have:=iB (l.getD (i%l.length) 0+((i/l.length:Nat):Int)) (show 0<1+most%65535+1 by omega);omega
  ·omega
theorem Own.at_mapU {h:ah}{v:Value}{n:Nat}{g:Nat→Int}(H:Own 1 h v n ((List.range n).map λi=>Value.int .u16 (g i))){k:IntKind}{i:Nat}(hi:i<n):
  ∃p,bh 1 v (.int k (i:Int))=some p∧∀(x:Int) (K:Value→ah→Prop),
   (∀h',Own 1 h' v n ((List.range n).map λj=>Value.int .u16 (if j=i then x else g j))→Fr (blk v) h h'→K undef h')→stK 1 p (.int .u16 x) h K:=by
 obtain⟨p,h1,F,A⟩:=Own.at1 H (k:=k) hi;refine⟨p,h1,λx K D=>A _ _ rfl λh' o f _=>D h' ?_ f⟩;rw[Ec _ _ _ _ hi]at o;have e:(λj=>if j=i then Value.int .u16 x else Value.int .u16 (g j))=λj=>Value.int .u16 (if j=i then x else g j):=by
  funext j;split<;>rfl
 rw[e]at o;exact o
abbrev U16 (n:Int):Prop:=0≤n∧n≤65535
theorem ZY {h:ah}{Z:Nat→Prop}{v:Value}{l:List Int}{w hh c most:Int}(H:Rp.Sl rU Z h v l)(hw:U16 w)(bc:U16 hh)(hc:U16 c)(hm:U16 most)(bk:∀x∈l,U16 x)(hl:l.length≤4611686018427387904):
  ag prog zY #[.int .u16 w,.int .u16 hh,.int .u16 c,.int .u16 most,v] h λr h'=>sQ h h' r (B5 w hh c most l):=by
 apply OJ;unfold D4;rw[dP _ _ _ _ ae,ak,dP _ _ _ _ ae];simp only[go_sem];rw[dP _ _ _ _ ae];simp only[go_sem];rw[jV hw.1,jV bc.1,jV hc.1];rw[w64 (n:=w%20) ae ae,w64 (n:=hh%20) ae ae,w64 (n:=c%2) ae ae,w64 (n:=2*(c%2)) ae ae,w64 (n:=1+2*(c%2)) ae ae,w64 (n:=most) ae ae,
  w64 (n:=1+w%20) ae ae,w64 (n:=1+hh%20) ae ae]
 rw[dP _ _ _ _ ae,ak,jV hm.1];simp only[go_sem];have hb:=TO w hh c;have h1:=mS (a:=1+w%20) (A:=20) (b:=1+hh%20) (B:=20) ae ae ae ae;rw[w64 (n:=1+most%65535) ae ae,w64 (n:=(1+w%20)*(1+hh%20)) ae ae,w64 (n:=(1+w%20)*(1+hh%20)*(1+2*(c%2))) ae ae];have PW:=TP w hh c most l;obtain⟨n,hn⟩:∃n:Nat,(1+w%20)*(1+hh%20)*(1+2*(c%2))=(n:Int):=⟨((1+w%20)*(1+hh%20)*(1+2*(c%2))).toNat,ae⟩
 have ab:(B5 w hh c most l).l=(List.range n).map λi=>if 0<l.length then(l.getD (i%l.length) 0+((i/l.length:Nat):Int))%(1+most%65535+1)else 0:=by unfold B5;rw[hn];rfl
 rw[hn];obtain⟨D,F⟩:∃D,1+most%65535=D:=⟨_,rfl⟩
 rw[F]at ab ⊢;have ax:1≤D∧D≤65535:=ae;refine og rfl ae ae λu h2 o2 e2 n2=>?_
 obtain⟨au,cu,eu⟩:=o2.isSl;have ay:aD u=some (af (n:Int)):=by rw[eu];rfl
 obtain⟨al,cl,el⟩:=H.isSl;have L:aD v=some (af (l.length:Int)):=by rw[el];rfl
 rw[ay,ak];have H:=H.mono (Z':=λc=>c<h.size) λc hc _=>hc
 generalize hg:(λi:Nat=>if 0<l.length then(l.getD (i%l.length) 0+((i/l.length:Nat):Int))%(D+1)else 0)=g at*;have aa:∀i,g i=if 0<l.length then(l.getD (i%l.length) 0+((i/l.length:Nat):Int))%(D+1)else 0:=λi=>by rw[←hg]
 refine bI (α:=Unit) n 0 (λi _=>[af (i:Int)]) (λi _ h'=>Ext h h'∧Own 1 h' u n ((List.range n).map λj=>Value.int .u16 (if j<i then g j else 0))) () rfl (b9 _)
  ⟨e2,by
   have e:List.replicate n (Value.int .u16 0)=(List.range n).map λj=>Value.int .u16 (if j<0 then g j else 0):=by apply qw<;>simp
   rw[←e];exact o2⟩ λi _ h3 again ρj _ hi ⟨E3,o3⟩ aw=>?_
 simp only[go_sem];have ar:∀j,(if j=i then g i else if j<i then g j else 0)=if j<i+1 then g j else 0:=λj=>by
  by_cases h1:j=i
  ·subst h1;simp
  ·rw[az h1];by_cases h2:j<i
   ·rw[aA h2,aA ae]
   ·rw[az h2,az ae]
 refine ao (λh4=>?_) (λh4=>?_)
 ·have I:i<n:=ae;rw[L,ak];simp only[go_sem];refine ao (λh5=>?_) (λh5=>?_)
  ·have ad:0<l.length:=ae;refine aQ (λh'=>h'=h3) rfl ?_;refine aC (af (l.length:Int)) (λh' e=>by first|exact L|rfl) ?_;rw[dP _ _ _ _ ae,ak,jV ae,show(i:Int)%(l.length:Int)=((i%l.length:Nat):Int)by omega];have W:i%l.length<l.length:=gN _ ad;obtain⟨p,p1,p2⟩:=(H.ext E3).int_at (k':=.i64) W;rw[p1,ak];refine aC _ (λh' e=>by rw[e];exact p2) ?_;have hx:=bk _ (cO W);simp only[go_sem];refine aC (af (l.length:Int)) (λh' e=>by first|exact L|rfl) ?_;have a7:i/l.length≤i:=jy _ _;have G:=aa i;rw[mo _ _ _ _ ae,ak,wV ae,show(i:Int)/(l.length:Int)=((i/l.length:Nat):Int)by omega];generalize i/l.length=dq at a7 G ⊢;rw[w64 (n:=(dq:Int)) ae ae];simp only[go_sem];rw[w64 (n:=l[i%l.length]) ae ae,w64 (n:=l[i%l.length]+(dq:Int)) ae ae,w64 (n:=D+1) ae ae];rw[dP _ _ _ _ ae,ak,jV ae];simp only[go_sem];have m1:=kz (l[i%l.length]+(dq:Int)) (show D+1≠0 by omega);have m2:=iB (l[i%l.length]+(dq:Int)) (show 0<D+1 by omega);rw[wu16 m1 ae];have bd:(l[i%l.length]+(dq:Int))%(D+1)=g i:=by
    rw[G,aA ad];simp[dS,W]
   rw[bd];obtain⟨q,q1,q2⟩:=Own.at_mapU o3 (k:=.i64) I;rw[q1,ak];refine q2 _ _ λh6 o6 f6=>?_
   rw[w64 ae ae];refine aw () h6 I ⟨E3.then_fr f6 n2,?_⟩;simp only[ar]at o6;exact o6
  ·rw[w64 ae ae];refine aw () h3 I ⟨E3,?_⟩;have bv:g i=0:=by rw[aa,az ae]
   rw[←bN (g:=λj=>Value.int .u16 (if j<i then g j else 0)) λj _=>by
    congr 1
    rw[←ar j,bv];by_cases h1:j=i
    ·rw[aA h1,az ae]
    ·rw[az h1]]
   exact o3
 ·have be:i=n:=ae;subst be;have o4:Own 1 h3 u (B5 w hh c most l).l.length (JX (B5 w hh c most l).l):=by
   rw[ab,cQ,eN,JX,C6];rw[←bN (g:=λj=>Value.int .u16 (if j<i then g j else 0)) λj hj=>by rw[aA hj];rfl];exact o3
  have U:BT (1+w%20) (1+hh%20) (1+2*(c%2)) D=0:=yz.2 ⟨PW.fits,ax.1,ax.2⟩;have an:=PW.len;refine(Sb (EA o4) U an λx hx=>by have:=PW.smp x hx;rw[show(B5 w hh c most l).most=D from F]at this;exact this).mono λr h5 ⟨p,e,N⟩=>?_
  subst e;simp only[go_sem];have N2:sQ h3 h5 p (B5 w hh c most l):=by
   have:B5 w hh c most l=⟨1+w%20,1+hh%20,1+2*(c%2),D,(B5 w hh c most l).l⟩:=by rw[←F];rfl
   rw[this];exact N
  obtain⟨b,x,e1,a9,bg,a8,bo⟩:=N2;exact⟨b,x,e1,a9,aZ E3.1 bg,λc hc=>aZ E3.1 (a8 c hc),E3.trans bo⟩
theorem CI {k:IntKind}{h:ah}{b:Nat}{t:TypeId}{l:List Int}{n:Nat}(F:l.length=n)(G:h[b]? =some (.cells (l.map λn=>Value.int k n).toArray t (0,0))):Rp.Sl (Rp.int k) (λk=>k=b) h (.slice (some ⟨b,0,none⟩) n n) l:=by
 subst F;refine⟨l.map (Value.int k),⟨by simp[Rp.int],_,_,rfl,.inr ⟨b,0,rfl,λj A=>?_⟩⟩,λ_ k D=>D,λi hi=>?_⟩
 ·rw[aK,am G];simp at A;simp[A]
 ·show Rp.el 1 _ i=[.int k l[i]];rw[Rp.el_one (by simpa using hi),eT]
theorem Yc {h:ah}(G:eF h):ag prog xS #[] h λr h'=>r=.bool true∧Ext h h':=by
 apply Mq;unfold Bi;refine(TZ G).mono λw h1 ⟨u,e,N⟩=>?_
 subst e;have e1:eW 0 4 2 1=2:=by decide+kernel
 have e2:c5 0 4 2 1=[536870912,536870912]:=by decide+kernel
 rw[e1];rw[e2]at N;obtain⟨a,c,L⟩:=N.isSl;have W:aD u=some (af 2):=by rw[L];rfl
 obtain⟨p,I,D⟩:=N.sl.int_at (k':=.i64) (i:=0) (by simp);obtain⟨q,H,F⟩:=N.sl.int_at (k':=.i64) (i:=1) (by simp);have I:bh 1 u ai=some p:=I;have H:bh 1 u aH=some q:=H;have D:ldV h1 p=some (af 536870912):=D;have F:ldV h1 q=some (af 536870912):=F;simp only[go_sem,W,I,D,H,F,kR,gn];refine(VB ae (by unfold I64;omega)).mono λw U ⟨e,A⟩=>?_
 have A:=A.symm;subst e A;have k1:HC 0 1=1073741824:=by decide+kernel
 have k2:HC 1 2=603979776:=by decide+kernel
 rw[k1];simp only[go_sem,kR,gn];refine(VB ae (by unfold I64;omega)).mono λw U ⟨e,A⟩=>?_
 have A:=A.symm;subst e A;rw[k2];simp only[go_sem,kR,gn];exact⟨by simp,N.2.1⟩
theorem Yb {h:ah}:ag prog xR #[] h λr h'=>r=.bool true∧Ext h h':=by
 apply Mp;unfold Bh;refine dc (c':=#[af 536870912,af 536870912,af 536870912]) rfl λb1 h1 r1 W n1=>?_
 have L:=CI (k:=.i64) (l:=[536870912,536870912,536870912]) (n:=3) rfl r1;have w1:∀x∈[(536870912:Int),536870912,536870912],I64 x:=by simp[I64]
 refine(Cg L w1 (by simp)).mono λw h2 ⟨u,e,N⟩=>?_
 subst e;have a1:cV [536870912,536870912,536870912]=0:=by decide+kernel
 have a2:cj [536870912,536870912,536870912]=[5462,5461,5461]:=by decide+kernel
 rw[a1];rw[a2]at N;simp only[go_sem];refine(NC (by unfold I64;omega)).mono λw h3 ⟨x,e,M⟩=>?_
 subst e;have A:Fi 65536=0:=by decide+kernel
 have F:(oF 65536).length=7:=by decide+kernel
 rw[A];obtain⟨ax,cx,ex⟩:=M.isSl;have D:aD x=some (af 7):=by rw[ex,F];rfl
 simp only[go_sem,kR,gn];refine dc (c':=#[af 5462,af 5461,af 5461]) rfl λb4 h4 U H n4=>?_
 have I:=CI (k:=.i64) (l:=[5462,5461,5461]) (n:=3) rfl U;refine(Ud (N.sl.ext (M.2.1.trans H)) I (by simp)).mono λw h5 ⟨e,G⟩=>?_
 have G:=G.symm;subst e G;simp only[go_sem,kR,gn,D];exact⟨by simp,W.trans (N.2.1.trans (M.2.1.trans H))⟩
theorem Pv:fF 0 4 2=⟨4,[(0,[8192,8192]),(2,[8192,8192])]⟩:=by
 have e:(fF 0 4 2).lines=[(0,[8192,8192]),(2,[8192,8192])]:=by decide+kernel
 show(⟨4,(fF 0 4 2).lines⟩:Tbl)=_;rw[e]
theorem IN:(⟨4,[(0,[8192,8192]),(2,[8192,8192])]⟩:Tbl).Wf:=by
 constructor<;>simp
theorem Ya {h:ah}(G:eF h):ag prog xQ #[] h λr h'=>r=.bool true∧Ext h h':=by
 apply Mo;unfold Bg;refine(Yc G).mono λw h1 ⟨e,e1⟩=>?_
 subst e;simp only[go_sem];refine Yb.mono λw h2 ⟨e,e2⟩=>?_
 subst e;simp only[go_sem];refine(NB (G.ext (e1.trans e2)) (by unfold I64;omega) (by unfold I64;omega) (by unfold I64;omega)).mono λw h3 ⟨p,e,e3,_,s1⟩=>?_
 subst e;have a1:dy 0 4 2=0:=by decide+kernel
 have T:=s1 a1;rw[Pv]at T;rw[a1];obtain⟨pb,_,_,hp,_⟩:=T;have T:=s1 a1;rw[Pv]at T;have np:aj .p .eql p (.pointer none)=some (.bool false):=by rw[hp];rfl
 simp only[go_sem,kR,gn,np];refine(Cf T IN).mono λw h4 ⟨u,e,U,F⟩=>?_
 subst e;have l1:bE ⟨4,[(0,[8192,8192]),(2,[8192,8192])]⟩ 1=(2,[8192,8192]):=by rfl
 rw[l1]at U ⊢;refine dh (cs:=[af 2,u]) rfl (aq rfl (aq U.one aX)) rfl λb5 h5 r5 D n5=>?_
 refine(Sf (T.ext (F.trans D)) IN (by unfold I64;omega) (by unfold I64;omega)).mono λw h6 ⟨e,A⟩=>?_
 subst e;have l2:xn ⟨4,[(0,[8192,8192]),(2,[8192,8192])]⟩ 0 2=(0,4):=by decide+kernel
 rw[l2];simp only[go_sem];refine(Cf (T.ext (F.trans (D.trans A))) IN).mono λw h7 ⟨u2,e,U2,H⟩=>?_
 subst e;have l0:bE ⟨4,[(0,[8192,8192]),(2,[8192,8192])]⟩ 0=(0,[8192,8192]):=by rfl
 rw[l0];have pv:pV false 1 0 (.agg #[ai,u2])=some ai:=rfl;have I:=(A.trans H).row r5;simp only[go_sem,pv,kR,gn,am I];refine dc (c':=#[af 8192,af 8192]) rfl λb8 h8 r8 W n8=>?_
 have S8:=CI (k:=.i64) (l:=[8192,8192]) (n:=2) rfl r8;refine(Ud (U.ext (D.trans (A.trans (H.trans W)))) S8 (by simp)).mono λw h9 ⟨e,L⟩=>?_
 have L:=L.symm;subst e L;simp only[go_sem,kR,gn];exact⟨by simp,e1.trans (e2.trans (e3.trans (F.trans (D.trans (A.trans (H.trans W))))))⟩
theorem Bx {Z:Nat→Prop}{h:ah}{k b s r f w hh:Int}:rOp.R Z h [af k,af b,af s,af r,.slice none 0 0,.slice none 0 0,af f,af w,af hh] ⟨k,b,s,r,[],[],f,w,hh⟩:=⟨_,_,rfl,Rp.Sl.nil,Rp.Sl.nil⟩
theorem Bw {k b s r f w hh:Int}(h:∀x∈[k,b,s,r,f,w,hh],I64 x):OpD.Wf ⟨k,b,s,r,[],[],f,w,hh⟩:=by
 constructor<;>first|exact h _ (by simp)|simp
theorem Nv {h:ah}(G:eF h):ag prog q8 #[] h λr h'=>r=.bool true∧Ext h h':=by
 apply Mm;unfold Be;have hf:(aM #[ai,ai,ai,ai,(.slice none 0 0),(.slice none 0 0),ai,ai,ai] [(0,1,(af 3)),(7,1,(af 2)),(8,1,aH),(6,1,ai)])=some #[af 3,ai,ai,ai,.slice none 0 0,.slice none 0 0,ai,af 2,aH]:=rfl;rw[hf,bG,ak];have wf:OpD.Wf ⟨3,0,0,0,[],[],0,2,1⟩:=Bw (by simp[I64]);refine(Jc (Z:=λ_=>True) G Bx wf (by simp) (by simp) (by unfold I64;omega) (by unfold I64;omega)).mono λw h1 ⟨sv,e,e1,_,s1⟩=>?_
 subst e;have a1:eZ ⟨3,0,0,0,[],[],0,2,1⟩ 4 3=0:=by decide+kernel
 obtain⟨p,q,rfl,tp,tq⟩:=s1 a1;rw[a1];simp only[go_sem];refine dh (cs:=[p,q,af _]) rfl (aq (mE tp) (aq (mE tq) (aq rfl aX))) rfl λb2 h2 r2 W n2=>?_
 refine(Ya (G.ext (e1.trans W))).mono λw h3 ⟨e,I⟩=>?_
 subst e;have D:=I.row r2;have F:=tp.ext (W.trans I);have H:=tq.ext (W.trans I);have U:aj .p .neq p (.pointer none)=some (.bool true):=by obtain⟨_,_,_,hp,_⟩:=tp;rw[hp];rfl
 have L:aj .p .neq q (.pointer none)=some (.bool true):=by obtain⟨_,_,_,hp,_⟩:=tq;rw[hp];rfl
 simp only[go_sem,kR,gn,am D,U,L];refine(Si F).mono λw h4 ⟨e,A⟩=>?_
 have A:=A.symm;subst e A;have t1:(ch ⟨3,0,0,0,[],[],0,2,1⟩ 4 3).x.n=4:=rfl;have t2:((ch ⟨3,0,0,0,[],[],0,2,1⟩ 4 3).x.lines.length:Int)=2:=by decide+kernel
 have t3:(ch ⟨3,0,0,0,[],[],0,2,1⟩ 4 3).y.n=3:=rfl;have t4:((ch ⟨3,0,0,0,[],[],0,2,1⟩ 4 3).y.lines.length:Int)=1:=by decide+kernel
 rw[t1];simp only[go_sem,kR,gn,am D,U,L];refine(Dv F).mono λw h4 ⟨e,A⟩=>?_
 have A:=A.symm;subst e A;rw[t2];simp only[go_sem,kR,gn,am D,U,L];refine(Si H).mono λw h4 ⟨e,A⟩=>?_
 have A:=A.symm;subst e A;rw[t3];simp only[go_sem,kR,gn,am D,U,L];refine(Dv H).mono λw h4 ⟨e,A⟩=>?_
 have A:=A.symm;subst e A;rw[t4];simp only[go_sem,kR,gn];exact⟨by simp,e1.trans (W.trans I)⟩
theorem X9 {h:ah}:ag prog xP #[] h λr h'=>r=.bool true∧Ext h h':=by
 apply Mn;unfold Bf;refine yA.mono λw h1 ⟨p,e,L,_,G⟩=>?_
 subst e;have a1:BT 2 1 3 255=0:=by decide+kernel
 obtain⟨b,v,rfl,I,nb,nv,_⟩:=G a1;have W:=C7 a1;rw[a1];have H:aj .p .neq (ptr b) (.pointer none)=some (.bool true):=rfl;simp only[go_sem,kR,gn,H];refine(Yi I W).mono λu U N=>?_
 obtain⟨au,cu,F⟩:=N.isSl;have A:aD u=some (af 6):=by rw[F];rfl
 simp only[go_sem,kR,gn,A];refine(W1 (I.ext N.2.1) W ae ae).mono λr h3 ⟨e,D,f3,s3⟩=>?_
 subst e;have a2:¬(inP (uq 2 1 3 255) 1 0 2∧(256:Int)≤(uq 2 1 3 255).most):=by decide+kernel
 rw[az a2]at D;rw[cG a2];simp only[go_sem];refine(W1 D W ae ae).mono λr h4 ⟨e,I4,f4,s4⟩=>?_
 subst e;have a3:inP (uq 2 1 3 255) 1 0 2∧(255:Int)≤(uq 2 1 3 255).most:=by decide+kernel
 rw[da a3];simp only[go_sem];exact⟨by simp,((L.trans N.2.1).then_fr f3 nv).then_fr f4 nv⟩
def atZ (p j n:Int):Int:=if n<1∨65536<n then 0 else if p=0 then max 0 (min j (n-1))else if p=1 then min (j%(2*n)) (2*n-1-j%(2*n))else if p=2 then j%n else 0
theorem zdb {p j n:Int}(h1:1≤n)(A:n≤65536):0≤atZ p j n∧atZ p j n<n:=by
 unfold atZ;rw[az ae];have a1:=kz j (show 2*n≠0 by omega);have a2:=iB j (show 0<2*n by omega);have a3:=kz j (show n≠0 by omega);have a4:=iB j (show 0<n by omega);split
 ·omega
 ·split
  ·omega
  ·split<;>omega
theorem vI {h:ah}{p j n:Int}(F:I64 j):ag prog lz #[.int .i64 p,.int .i64 j,.int .i64 n] h λr h'=>r=.int .i64 (atZ p j n)∧h'=h:=by
 apply Rb;unfold Gk atZ;simp only[go_sem];refine ao (λh0=>?_) (λh0=>?_)
 ·rw[if_pos h0];exact⟨rfl,trivial⟩
 rw[if_neg h0];have a1:=Int.emod_nonneg j (show 2*n≠0 by omega);have a2:=Int.emod_lt_of_pos j (show 0<2*n by omega);refine ao (λh1=>?_) (λh1=>?_)
 ·rw[if_pos h1,w64 (by omega) (by omega)];exact Xa
 rw[if_neg h1];refine ao (λD=>?_) (λD=>?_)
 ·rw[if_pos D,w64 (n:=2*n) (by omega) (by omega)];refine(zad F (by unfold I64;omega) (by omega)).mono λv h' ⟨e,w⟩=>?_
  subst e;simp only[go_sem];rw[w64 (n:=2*n-1) (by omega) (by omega),w64 (by omega) (by omega)];exact⟨rfl,w⟩
 rw[if_neg D];refine ao (λA=>?_) (λA=>?_)
 ·rw[if_pos A];exact zad F (by unfold I64;omega) (by omega)
 ·rw[if_neg A];exact⟨rfl,trivial⟩
end Go.Proofs.YtjljhnandbbldaaGreatDoor
namespace Go.Crisp
open Go
def yO (f:Nat→Int):Nat→Int
 |0=>0
 |n+1=>yO f n+f n
theorem Pa (A a v:Int):IntKind.i64.wrap (IntKind.i64.wrap A+IntKind.i64.wrap (a*v))=IntKind.i64.wrap (A+a*v):=by rw[uJ,p8]
theorem Us (A a b v:Int):IntKind.i64.wrap (IntKind.i64.wrap A+IntKind.i64.wrap (IntKind.i64.wrap (a*b)*v))=IntKind.i64.wrap (A+b*(a*v)):=by
 rw[yJ,uJ,p8]
 congr 1
 rw[fU a b,mU]
def yT (s most:Int):Int:=max 0 (min (nK s 28) (max 0 (min most 65535)))
theorem Pk (s:Int){most:Int}(h:0≤most):0≤yT s most∧yT s most≤65535∧yT s most≤most:=by unfold yT;omega
end Go.Crisp
