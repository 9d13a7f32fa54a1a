/- Several texts of this session, one behind the other, without what this claim does not need (put together by its program pack.py). Conditions: none. -/
import Derived.Test.YtjljhnandbbldaaGreatDoorMz1
set_option linter.unusedVariables false
set_option linter.unusedSimpArgs false
set_option maxRecDepth 100000
namespace Go.Proofs.YtjljhnandbbldaaGreatDoor
open Go Go.Crisp
attribute [local irreducible] ag du bh stK aE vK qK bO gK fR bA mkK dy GQ IQ DT bsK
open _root_.Go.Proofs.Tryz
theorem Rl {m n:Nat}{b:Bool}(F:9223372036854775808≤m)(A:9223372036854775808≤n):ko m b=ko n b:=by
 unfold ko;cases b
 ·simp only[gO,cH];rw[aA ae,aA ae]
 ·simp only[cN];rw[aA ae,aA ae]
theorem Sf {a b:Int}(A:I64 a)(F:I64 b):a.natAbs*b.natAbs≤85070591730234615865843651857942052864:=by
 have h1:=ry A;have G:=ry F;exact bB (vu h1 G) (by decide)
theorem OW {m n:Nat}(h:m≤85070591730234615865843651857942052864):m/n≤85070591730234615865843651857942052864:=bB (jX _ _) h
theorem pU {h:ah}{a b d:Int}(ha:I64 a)(hb:I64 b)(hd:I64 d):ag prog fh #[af a,af b,af d] h λr h'=>r=af (cZ a b d)∧h'=h:=by
 apply Nm;unfold BO;simp only[go_sem];unfold cZ;refine ao (λh0=>?_) (λh0=>?_)
 ·rw[aA h0];exact⟨rfl,trivial⟩
 rw[aq h0];have hm:=Sf ha hb;refine(RE ha hb).mono λv1 h1 ⟨e1,w1⟩=>?_
 subst e1 w1;simp only[go_sem];refine(GS hd).mono λv2 U ⟨e2,w2⟩=>?_
 subst e2 w2;have al:=ry hd;have A:0<d.natAbs:=ae;obtain⟨m,ar⟩:∃m,m=a.natAbs*b.natAbs:=⟨_,rfl⟩
 obtain⟨bl,L⟩:∃bl,bl=(lC a b != decide (d<0)):=⟨_,rfl⟩
 obtain⟨D,hD⟩:∃D,D=d.natAbs:=⟨_,rfl⟩
 have H:(!(lC a b==decide (d<0)))=bl:=L.symm;rw[←ar]at hm ⊢;rw[←L,H,←hD];rw[←hD]at A al;have hq:m/D≤85070591730234615865843651857942052864:=OW hm;simp only[go_sem];refine ao (λh1=>?_) (λh1=>?_)
 ·have a7:18446744073709551616≤m/D:=by
   rw[Mj A];have U:D≤m/18446744073709551616:=ae;have:=(Mj (show 0<18446744073709551616 by omega)).1 U;rw[fu];exact this
  refine(Dn (m:=18446744073709551616) (b:=bl) ae).mono λv h' ⟨e,w⟩=>⟨?_,w⟩
  rw[e,Rl ae (n:=xQ m D bl)];unfold xQ;omega
 ·have G:m/18446744073709551616<D:=ae;have ax:m/D<18446744073709551616:=by
   rw[wQ A,fu];exact(wQ ae).1 G
  refine(zd5 G (iy _ ae) ae).mono λv U ⟨e,w⟩=>?_
  subst e w;have aa:m/18446744073709551616*18446744073709551616+m%18446744073709551616=m:=by
   rw[fu];exact nV _ _
  rw[aa];simp only[go_sem];have hr:m%D<D:=iy _ A;rw[show(D:Int)-((m%D:Nat):Int)=((D-m%D:Nat):Int)by omega,gF (m:=D-m%D) ae];have fin:∀up:Nat,up≤1→xQ m D bl=m/D+up→ag prog gX #[.int .u64 ((m/D:Nat):Int),.int .u64 (up:Int),.int .u64 0] U λF ab=>
    vK (aP F 0) λW=>vK (aP F 1) λan=>ag prog fb #[an,W,.bool bl] ab λad au=>ad=af (ko (xQ m D bl) bl)∧au=U:=by
   intro up ay hn;refine(Zg (x:=m/D) (y:=up) (c:=0) ae).mono λv h3 ⟨e,w⟩=>?_
   subst e w;simp only[go_sem];refine(Dn (m:=m/D+up+0) (b:=bl) ae).mono λv h' ⟨e,w⟩=>⟨?_,w⟩
   rw[e,hn];rfl
  cases I:bl
  ·rw[I]at fin;simp only[go_sem];refine ao (λh3=>?_) (λh3=>?_)
   ·refine fin 1 ae ?_;unfold xQ;simp only[gO,cH];rw[aA ae]
   ·refine fin 0 ae ?_;unfold xQ;simp only[gO,cH];rw[aq ae]
  ·rw[I]at fin;simp only[go_sem];by_cases h3:D-m%D<m%D
   ·have e3:(((D-m%D:Nat):Int)<((m%D:Nat):Int))=True:=jW ae;simp only[go_sem,e3];refine fin 1 ae ?_;unfold xQ;simp only[cN];rw[aA ae]
   ·have e3:(((D-m%D:Nat):Int)<((m%D:Nat):Int))=False:=gm ae;simp only[go_sem,e3];refine fin 0 ae ?_;unfold xQ;simp only[cN];rw[aq ae]
theorem Ll {h:ah}{m n:Nat}(hm:m<340282366920938463463374607431768211456)(hn:n<128):
  ag prog vG #[.int .u64 ((m/18446744073709551616:Nat):Int),.int .u64 ((m%18446744073709551616:Nat):Int),af (n:Int)] h λr h'=>
   r=.tuple #[.int .u64 ((m/2^n/18446744073709551616:Nat):Int),.int .u64 ((m/2^n%18446744073709551616:Nat):Int)]∧h'=h:=by
 apply PS;unfold ER;simp only[go_sem];have U:m/18446744073709551616<18446744073709551616:=ae;refine ao (λh0=>?_) (λh0=>?_)
 ·rw[w64 (n:=(n:Int)-64) ae ae,show(n:Int)-64=((n-64:Nat):Int)by omega,nr _ ae,aj];refine⟨?_,trivial⟩;have e:m/2^n=m/18446744073709551616/2^(n-64):=by
   rw[Jk,show(18446744073709551616:Nat)=2^64 from rfl,←wM,show 64+(n-64)=n by omega]
  have I:m/18446744073709551616/2^(n-64)<18446744073709551616:=um (jX _ _) U;rw[e,ul I,wO I];rfl
 ·have aa:n<64:=ae;rw[nr _ ae,aj,nr _ ae,aj];rw[w64 (n:=64-(n:Int)) ae ae,show(64:Int)-(n:Int)=((64-n:Nat):Int)by omega,xt _ ae,aj];have G:m%18446744073709551616<18446744073709551616:=iy _ ae;have h2:m%18446744073709551616/2^n<18446744073709551616:=um (jX _ _) G;rw[zbl h2 (iy _ ae),aj];refine⟨?_,trivial⟩;have L:(0:Nat)<2^n:=xX ae;have A:(18446744073709551616:Nat)=2^n*2^(64-n):=by rw[←wM,show n+(64-n)=64 by omega]
  have F:m%18446744073709551616/2^n<2^(64-n):=by
   rw[wQ L,fu,←A];exact G
  -- the low half of what is above
  have e1:m/2^n=m/18446744073709551616*2^(64-n)+m%18446744073709551616/2^n:=by
   have e:=nV m 18446744073709551616;have e2:m=m%18446744073709551616+2^n*(m/18446744073709551616*2^(64-n)):=by
    have:2^n*(m/18446744073709551616*2^(64-n))=18446744073709551616*(m/18446744073709551616):=by
     rw[A,Ea,fu]
    rw[this];omega
   conv=>lhs;rw[e2]
   rw[Ji _ _ L,Ec]
  have e3:m/18446744073709551616*2^(64-n)%18446744073709551616=m/18446744073709551616%2^n*2^(64-n):=by
   have:(18446744073709551616:Nat)=2^n*2^(64-n):=A
   conv=>lhs;rhs;rw[this]
   exact Tx _ _ _
  rw[e3,Nat.or_comm,UX F];generalize W:m/18446744073709551616=H at*;have e4:m/2^n/18446744073709551616=H/2^n:=by
   rw[Jk,fu,←Jk,W]
  have e5:m/2^n%18446744073709551616=H%2^n*2^(64-n)+m%18446744073709551616/2^n:=by
   rw[e1];have hd:=nV H (2^n);have:H*2^(64-n)=H%2^n*2^(64-n)+18446744073709551616*(H/2^n):=by
    conv=>lhs;rw[←hd]
    rw[eO,Ec,Ty,←A]
   rw[this,Nat.add_right_comm,Mk,wO];have h6:H%2^n+1≤2^n:=iy _ L;have h7:(H%2^n+1)*2^(64-n)≤2^n*2^(64-n):=ja _ h6;rw[←A,eO,uj]at h7;exact ce (Nat.add_lt_add_left F _) h7
  rw[e4,e5]
theorem zdR {h:ah}{m n:Nat}(I:m<340282366920938463463374607431768211456)(U:n<128):
  ag prog AG #[.int .u64 ((m/18446744073709551616:Nat):Int),.int .u64 ((m%18446744073709551616:Nat):Int),af (n:Int)] h λr h'=>r=.bool (decide (m%2^n=0))∧h'=h:=by
 apply PU;unfold ES;simp only[go_sem];have F:∀(a k:Nat),k≤64→(a*2^(64-k)%18446744073709551616=0↔a%2^k=0):=by
  intro a k L;have A:(18446744073709551616:Nat)=2^k*2^(64-k):=by rw[←wM,show k+(64-k)=64 by omega]
  rw[A,Tx];have:0<2^(64-k):=xX ae;constructor
  ·intro h;rcases Nat.mul_eq_zero.1 h with h|h<;>omega
  ·intro h;rw[h,Ar]
 refine ao (λh0=>?_) (λh0=>?_)
 ·-- n ≥ 64
  have e:(2:Nat)^n=18446744073709551616*2^(n-64):=by rw[show(18446744073709551616:Nat)=2^64 from rfl,←wM,show 64+(n-64)=n by omega]
  have key:m%2^n=0↔m%18446744073709551616=0∧m/18446744073709551616%2^(n-64)=0:=by
   rw[e,Nat.mod_mul];constructor
   ·intro h;have h1:m%18446744073709551616=0:=ae;refine⟨h1,?_⟩;rw[h1,aO]at h;rcases Nat.mul_eq_zero.1 h with h|h
    ·omega
    ·exact h
   ·rintro⟨h1,H⟩;rw[h1,H]
  by_cases G:m%18446744073709551616=0
  ·have q:(((m%18446744073709551616:Nat):Int)=0)=True:=jW ae;simp only[go_sem,q];rw[w64 (n:=128-(n:Int)) ae ae,show(128:Int)-(n:Int)=((64-(n-64):Nat):Int)by omega,xt _ ae,aj];simp only[go_sem];refine⟨?_,trivial⟩
   congr 1
   rw[ir];have:=F (m/18446744073709551616) (n-64) ae;constructor
   ·intro h;exact key.2 ⟨G,this.1 ae⟩
   ·intro h;have:=this.2 (key.1 h).2;omega
  ·have q:(((m%18446744073709551616:Nat):Int)=0)=False:=gm ae;simp only[go_sem,q];refine⟨?_,trivial⟩
   congr 1
   rw[Eq.comm,D7];exact λh=>G (key.1 h).1
 ·rw[w64 (n:=64-(n:Int)) ae ae,show(64:Int)-(n:Int)=((64-n:Nat):Int)by omega,xt _ ae,aj];simp only[go_sem];refine⟨?_,trivial⟩
  congr 1
  rw[ir];have:=F (m%18446744073709551616) n ae;have e:m%18446744073709551616%2^n=m%2^n:=by
   have A:(18446744073709551616:Nat)=2^n*2^(64-n):=by rw[←wM,show n+(64-n)=64 by omega]
   rw[A,Nat.mod_mul_right_mod]
  rw[e]at this;constructor
  ·intro h;exact this.1 ae
  ·intro h;have:=this.2 h;omega
theorem XO {h:ah} {a b n:Int} (ha:I64 a) (hb:I64 b) (hn:I64 n):ag prog uA #[af a,af b,af n] h λr h'=>r=af (rz a b n)∧h'=h:=by
  apply Kg;unfold y6;simp only[go_sem];have hm:=Sf ha hb;unfold rz;refine ao (λh0=>?_) (λh0=>?_)
  · rw[aA ae];exact⟨rfl,trivial⟩
  rw[aq ae];have ab:max 0 n=((n.toNat:Nat):Int):=ae;rw[ab]at h0 ⊢;obtain⟨k,hk⟩:∃k,k=n.toNat:=⟨_,rfl⟩
  rw[←hk]at h0 ⊢;refine(RE ha hb).mono λv1 h1 ⟨e1,w1⟩=>?_
  subst e1 w1;obtain⟨m,au⟩:∃m,m=a.natAbs*b.natAbs:=⟨_,rfl⟩
  obtain⟨bl,an⟩:∃bl,bl=lC a b:=⟨_,rfl⟩
  rw[←au]at hm ⊢;rw[←an];simp only[go_sem];unfold MN;refine ao (λh1=>?_) (λh1=>?_)
  · rw[aA ae]
    exact Dn ae
  rw[aq ae];refine(Ll (m:=m) (n:=k) ae ae).mono λv h2 ⟨e,w⟩=>?_
  subst e w;simp only[go_sem];rw[w64 (n:=(k:Int)-1) ae ae,show(k:Int)-1=((k-1:Nat):Int)by omega];refine(Ll (m:=m) (n:=k-1) ae ae).mono λv W ⟨e,w⟩=>?_
  subst e w;simp only[go_sem];have ax:m/2^k≤85070591730234615865843651857942052864:=OW hm;rw[Wc (iy _ ae),aj,show m/2^(k-1)%18446744073709551616%2=m/2^(k-1)%2 by omega];have F:ag prog fb #[.int .u64 ((m/2^k/18446744073709551616:Nat):Int),.int .u64 ((m/2^k%18446744073709551616:Nat):Int),.bool bl] W λG H=>G=af (ko (m/2^k+0) bl)∧H=W:=Dn ae
  have A:ag prog gX #[.int .u64 ((m/2^k%18446744073709551616:Nat):Int),.int .u64 1,.int .u64 0] W λI al=>
        vK (aP I 0) λaa=>vK (aP I 1) λar=>vK (ak .i .add (.int .u64 ((m/2^k/18446744073709551616:Nat):Int)) ar) λad=>
        ag prog fb #[ad,aa,.bool bl] al λG H=>G=af (ko (m/2^k+1) bl)∧H=W:=by
    refine(Zg (x:=m/2^k%18446744073709551616) (y:=1) (c:=0) ae).mono λv h4 ⟨e,w⟩=>?_
    subst e w;simp only[go_sem];generalize m/2^k=M at*;have e1:(M%18446744073709551616+1+0)%18446744073709551616=(M+1)%18446744073709551616:=ae;have e2:((M/18446744073709551616:Nat):Int)+(((M%18446744073709551616+1+0)/18446744073709551616:Nat):Int)=(((M+1)/18446744073709551616:Nat):Int):=ae;rw[e1,e2,gF ae];exact Dn ae
  by_cases hh:m/2^(k-1)%2=0
  · have q:(((m/2^(k-1)%2:Nat):Int)=0)=True:=jW ae
    simp only[go_sem,q];rw[aq (λh=>ae)];exact F
  · have q:(((m/2^(k-1)%2:Nat):Int)=0)=False:=gm ae
    simp only[go_sem,q];have U:m/2^(k-1)%2=1:=ae;cases L:bl
    · rw[L]at A
      simp only[go_sem];rw[aA ⟨U,by simp⟩];exact A
    · rw[L]at F A
      simp only[go_sem];rw[w64 (n:=(k:Int)-1) ae ae,show(k:Int)-1=((k-1:Nat):Int)by omega];refine(zdR (m:=m) (n:=k-1) ae ae).mono λv h4 ⟨e,w⟩=>?_
      subst e w
      try simp only[go_sem]
      refine ao (λh5=>?_) (λh5=>?_)
      · rw[aq (λh=>h.2 ⟨trivial,h5⟩)]
        exact F
      · rw[aA ⟨U,λh=>h5 h.2⟩]
        exact A
theorem X8 {a:Int}{n:Nat}(k':IntKind)(A:n≤64):ak .i .shl (af a) (.int k' (n:Int))=some (af (IntKind.i64.wrap (a*2^n))):=by
 show(if(n:Int)<0 then none else some (af (IntKind.i64.wrap (a*(2^(min (n:Int).toNat 64))))))=_;rw[aq ae,dW,vx A]
theorem za3 {a:Int}(k':IntKind):ak .i .shl (af a) (.int k' 40)=some (af (IntKind.i64.wrap (a*1099511627776))):=X8 (n:=40) k' ae
theorem zez {a:Int}(k':IntKind):ak .i .shl (af a) (.int k' 31)=some (af (IntKind.i64.wrap (a*2147483648))):=X8 (n:=31) k' ae
theorem zcu {h:ah}{a b:Int}(F:I64 a)(U:I64 b)(h0:0<b):ag prog ud #[af a,af b] h λr h'=>r=af (a%b)∧h'=h:=by
 apply SP;unfold Ij;have G:(b=0)=False:=gm ae;have L:(b= -1)=False:=gm ae;have I:(b<0)=False:=gm ae;simp only[go_sem,G,L];rw[em _ _ _ _ ae,aj];simp only[go_sem,I];have e:= @Int.emod_eq_tmod a b;have hl:=kA a (show b≠0 by omega);have W:=iJ a h0;unfold I64 at F U;by_cases hc:a.tmod b=0
 ·simp only[go_sem,hc];refine⟨?_,trivial⟩;rw[hc]at e;split at e
  ·rw[e];rfl
  ·rename_i H;exact absurd (Or.inr (Int.dvd_of_tmod_eq_zero hc)) H
 ·simp only[go_sem,hc];by_cases A:a.tmod b<0
  ·simp only[go_sem,A];split at e
   ·omega
   ·rw[w64 ae ae];refine⟨?_,trivial⟩
    congr 1;omega
  ·simp only[go_sem,A];refine⟨?_,trivial⟩
   congr 1
   split at e<;>omega
theorem Ze {h:ah}{x l u:Int}:ag prog sK #[af x,af l,af u] h λr h'=>r=af (max l (min x u))∧h'=h:=by
 apply NY;unfold Cu;simp only[go_sem];exact⟨by simp,by simp⟩
theorem Pm {h:ah}{a b:Int}(A:I64 a)(F:I64 b):ag prog yr #[af a,af b] h λr h'=>r=af (EO a b)∧h'=h:=by
 apply SQ;unfold Ik;simp only[go_sem,jw];unfold EO I64 at*;refine ao (λh0=>?_) (λh0=>?_)
 ·exact⟨by congr 1;omega,trivial⟩
 refine ao (λh1=>?_) (λh1=>?_)
 ·exact⟨by congr 1;omega,trivial⟩
 ·exact⟨by congr 1;omega,trivial⟩
theorem XK {h:ah}{a b:Int}(A:I64 a)(F:I64 b):ag prog DJ #[af a,af b] h λr h'=>r=af (zdc a b)∧h'=h:=by
 apply SO;unfold Ii;refine(oK A).mono λv1 h1 ⟨G,w1⟩=>?_
 subst G w1;refine(oK F).mono λv2 h2 ⟨I,L⟩=>?_
 subst I L;refine(Uc (jV A) (jV F)).mono λW h3 ⟨U,H⟩=>?_
 subst U H;simp only[go_sem];unfold zdc;have hm:=Sf A F;generalize a.natAbs*b.natAbs=m at*;refine ao (λh0=>?_) (λh0=>?_)
 ·refine(tS (m:=18446744073709551615) (b:=lC a b) ae).mono λv h' ⟨e,w⟩=>⟨?_,w⟩
  rw[e,Rl (n:=m) ae ae]
 ·rw[show m%18446744073709551616=m by omega];exact tS ae
theorem c_Exp {h:ah}{t:Int}(F:I64 t):ag prog Ha #[af t] h λr h'=>r=af (zah t)∧h'=h:=by
 apply Vc;unfold K7;simp only[go_sem];unfold zah;have A:0≤max 0 t∧max 0 t≤9223372036854775807:=by unfold I64 at F;omega
 generalize max 0 t=T at*;rw[mU _ _ _ _ ae,aj,em _ _ _ _ ae,aj,xW A.1,kz A.1,w64 ae ae];have hr:0≤T%762123384786∧T%762123384786<762123384786:=ae;generalize I:T%762123384786=r at*;refine me (λi=>[af (fY r i).1,af (fY r i).2,af (i:Int)]) 16 0 rfl ae λi again ρj _ hi H=>?_
 simp only[go_sem];obtain⟨U,L⟩:=Dg r i;refine ao (λh0=>?_) (λh0=>?_)
 ·have H:=H ae;simp only[fY]at H;rw[w64 (n:=(i:Int)+1) ae ae,za3,aj,w64 ae ae];refine(pU L (by unfold I64;omega) (by unfold I64;omega)).mono λv1 h1 ⟨G,w1⟩=>?_
  subst G w1;rw[em _ _ _ _ ae,aj,kz ae];simp only[go_sem];refine ao (λW=>?_) (λW=>?_)
  ·rw[aA ae]at H;rw[show((i+1:Nat):Int)=(i:Int)+1 by omega]at H;exact H
  ·rw[aq ae]at H;rw[show((i+1:Nat):Int)=(i:Int)+1 by omega]at H;exact H
 ·have:i=16:=ae;subst this;exact MA U (by unfold I64;omega)
theorem zdY {h:ah}{d s:Int}(hd:I64 d)(A:I64 s):ag prog AY #[af d,af s] h λr h'=>r=af (F9 d s)∧h'=h:=by
 apply Qx;unfold FB;simp only[go_sem];unfold F9;refine ao (λh0=>?_) (λh0=>?_)
 ·rw[aA ae];exact⟨rfl,trivial⟩
 ·rw[aq ae,zez,aj];have h1:=QP (d:=d) (B:=16384) ae ae;have F:=QP (d:=s) (B:=4194304) ae ae;rw[w64 (n:=d*d) ae ae,w64 (n:=d*d*2147483648) ae ae,w64 (n:=s*s) ae ae];exact pU (by unfold I64;omega) (by unfold I64;omega) (by unfold I64;omega)
theorem zd3 {h:ah}{d s:Int}(hd:I64 d)(F:I64 s):ag prog AZ #[af d,af s] h λr h'=>r=af (Dd d s)∧h'=h:=by
 apply Qy;unfold FC;refine(zdY hd F).mono λG h1 ⟨A,w1⟩=>?_
 subst A w1;refine(c_Exp (Nc _ _)).mono λG h1 ⟨A,w1⟩=>?_
 subst A w1;exact MA (OQ _) (by unfold I64;omega)
theorem GU {h:ah}{p:Int}(A:I64 p)(h0:p≠ -9223372036854775808):ag prog ym #[af p] h λr h'=>r=af (max p (-p))∧h'=h:=by
 apply Sp;unfold Hz;unfold I64 at A;simp only[go_sem];rw[w64 ae ae];exact⟨by rw[Tw],trivial⟩
theorem c_May {h:ah}{p q:Int}(A:I64 p)(hq:I64 q):ag prog G7 #[af p,af q] h λr h'=>r=.bool (decide (LY p q))∧h'=h:=by
 apply U3;unfold KV;simp only[go_sem];refine⟨?_,trivial⟩
 congr 1
 rw[ir];unfold LY I64 at*;by_cases h1:1≤q∧q≤1048576
 ·rw[w64 (n:= -4*q) ae ae,w64 (n:=4*q) ae ae];omega
 ·omega
theorem Um (x:Int):2*x*(2*x+1)=4*(x*x)+2*x:=by
 have e:2*x*(2*x)=4*(x*x):=by rw[pI 2 x (2*x),D6 x 2 x];omega
 rw[Jb,Int.mul_one,e]
theorem VL {h:ah}{p q:Int}(U:I64 p)(h0:p≠ -9223372036854775808)(hq:I64 q):ag prog sC #[af p,af q] h λr h'=>r=af (Ab p q)∧h'=h:=by
 apply Nn;unfold BP;unfold Ab;refine(GU U h0).mono λG h1 ⟨A,w1⟩=>?_
 subst A w1;have I:I64 (max p (-p)):=by unfold I64 at*;omega
 refine(pU (by unfold I64;omega) I hq).mono λG h1 ⟨A,w1⟩=>?_
 subst A w1;refine(pU (gL _ _ _) I hq).mono λG h1 ⟨A,w1⟩=>?_
 subst A w1;have hu:=gL (cZ 10851744800547 (max p (-p)) q) (max p (-p)) q;generalize cZ (cZ 10851744800547 (max p (-p)) q) (max p (-p)) q=u at*;refine me (λi=>[af (cF u i).1,af (cF u i).2,af (if i%2=0 then 1 else-1),af ((i:Int)+1)]) 30 0 rfl ae λi again ρj _ hi H=>?_
 simp only[go_sem];obtain⟨s1,W⟩:=Aa u i;refine ao (λh0=>?_) (λh0=>?_)
 ·have H:=H ae;simp only[cF]at H;have L:=QP (d:=(i:Int)+1) (B:=30) ae ae;have he:=Um ((i:Int)+1);rw[w64 (n:=2*((i:Int)+1)) ae ae,w64 (n:=2*((i:Int)+1)+1) ae ae,w64 (n:=2*((i:Int)+1)*(2*((i:Int)+1)+1)) ae ae,za3,aj,w64 ae ae];refine(pU W hu (by unfold I64;omega)).mono λG h1 ⟨A,w1⟩=>?_
  subst A w1;rw[w64 (n:=(i:Int)+1+1) ae ae];have ht:=gL (cF u i).2 u (2*((i:Int)+1)*(2*((i:Int)+1)+1)*1099511627776);simp only[go_sem];by_cases F:i%2=0
  ·rw[aA F,aq ae]at H;rw[aA F];have A:IntKind.i64.wrap ((cF u i).1+IntKind.i64.wrap (IntKind.i64.wrap (0-1)*cZ (cF u i).2 u (2*((i:Int)+1)*(2*((i:Int)+1)+1)*1099511627776)))=IntKind.i64.wrap ((cF u i).1-cZ (cF u i).2 u (2*((i:Int)+1)*(2*((i:Int)+1)+1)*1099511627776)):=by
    rw[q8,w64 (n:=0-1) ae ae];congr 1;omega
   rw[A];exact H
  ·rw[aq F,aA ae]at H;rw[aq F];have A:IntKind.i64.wrap ((cF u i).1+IntKind.i64.wrap (IntKind.i64.wrap (0- -1)*cZ (cF u i).2 u (2*((i:Int)+1)*(2*((i:Int)+1)+1)*1099511627776)))=IntKind.i64.wrap ((cF u i).1+cZ (cF u i).2 u (2*((i:Int)+1)*(2*((i:Int)+1)+1)*1099511627776)):=by
    rw[q8,w64 (n:=0- -1) ae ae];congr 1;omega
   rw[A];exact H
 ·have:i=30:=ae;subst this;exact⟨rfl,trivial⟩
theorem zaG {h:ah}{p q:Int}(G:I64 p)(hq:I64 q):ag prog xb #[af p,af q] h λr h'=>r=af (wT p q)∧h'=h:=by
 apply LH;unfold Bd;unfold wT;refine(c_May G hq).mono λH h1 ⟨A,w1⟩=>?_
 subst A w1;by_cases F:LY p q
 ·have I:=F;unfold LY at I;by_cases h0:3*q≤max p (-p)
  ·rw[aA (.inr h0)];simp only[go_sem,F];refine(GU G ae).mono λH h1 ⟨A,w1⟩=>?_
   subst A w1;rw[w64 (n:=3*q) ae ae];simp only[go_sem,h0];exact⟨by simp,by simp⟩
  ·rw[aq (by rintro(L|L);exact L F;omega)];simp only[go_sem,F];refine(GU G ae).mono λH h1 ⟨A,w1⟩=>?_
   subst A w1;rw[w64 (n:=3*q) ae ae];simp only[go_sem,h0];refine(VL G ae hq).mono λH h1 ⟨A,w1⟩=>?_
   subst A w1;refine(VL G ae (by unfold I64;omega)).mono λH h1 ⟨A,w1⟩=>?_
   subst A w1;refine(XO (xM _ _) (xM _ _) (by unfold I64;omega)).mono λH h1 ⟨A,w1⟩=>?_
   subst A w1;exact MA (yC _ _ _) (by unfold I64;omega)
 ·rw[aA (.inl F)];simp only[go_sem,F];exact⟨by simp,by simp⟩
end Go.Proofs.YtjljhnandbbldaaGreatDoor
namespace Go.Crisp
open Go
theorem zU (a b:Int):IntKind.i64.wrap (IntKind.i64.wrap a*b)=IntKind.i64.wrap (a*b):=by
 obtain⟨k,A⟩:∃k,IntKind.i64.wrap a=a+18446744073709551616*k:=⟨(IntKind.i64.wrap a-a)/18446744073709551616,by rw[jw];omega⟩
 rw[A,iZ,pI,jw,jw];generalize k*b=c;omega
theorem FT (a b:Int):IntKind.i64.wrap (a*IntKind.i64.wrap b)=IntKind.i64.wrap (a*b):=by
 rw[fM,zU,fM]
theorem rH {a b:Int}(U:I64 a)(hb:0<b):KC a b=a/b:=by
 unfold KC GM lC ko;rw[aq ae];unfold I64 at U;have e1:(b<0)=False:=gm ae;simp only[e1,Mh];obtain⟨B,rfl⟩:∃B:Nat,b=(B:Int):=⟨b.toNat,ae⟩
 simp only[Int.natAbs_natCast];by_cases h:a<0
 ·simp only[h,gM];obtain⟨A,rfl⟩:∃A:Nat,a= -(A:Int):=⟨(-a).toNat,ae⟩
  have e2:(-(A:Int)).natAbs=A:=ae;rw[e2];have W:0<B:=ae;have hd:=nV A B;have hm:=iy A W;have G:A/B≤A:=jX _ _;simp only[Jt,beq_eq_false_iff_ne,ne_eq,Bool.true_eq_false,not_false_eq_true,Av,cN];by_cases L:A%B=0
  ·rw[aq (show¬ ¬A%B=0 from λh=>h L),gN];have H: -(A:Int)=(B:Int)* -((A/B:Nat):Int):=by
    have:(A:Int)=(B:Int)*((A/B:Nat):Int):=by exact_mod_cast (by omega:A=B*(A/B))
    rw[Aq,←this]
   rw[H,Int.mul_ediv_cancel_left _ ae];split<;>omega
  ·rw[aA L];have I:2≤B:=ae;have h2:=ja (A/B) I;have H: -(A:Int)=((B:Int)-((A%B:Nat):Int))+(B:Int)* -((A/B+1:Nat):Int):=by
    have h3:(A:Int)=(B:Int)*((A/B:Nat):Int)+((A%B:Nat):Int):=by exact_mod_cast hd.symm
    rw[Aq,show((A/B+1:Nat):Int)=((A/B:Nat):Int)+1 from rfl,Jb,Int.mul_one];omega
   rw[H,vq _ _ ae,rZ ae ae];split<;>omega
 ·simp only[h,Mh];obtain⟨A,rfl⟩:∃A:Nat,a=(A:Int):=⟨a.toNat,ae⟩
  simp only[Int.natAbs_natCast];have F:(!(false==false))=false:=rfl;rw[F];simp only[gO,false_and,cH,gN];have G:A/B≤A:=jX _ _;rw[aq ae];rfl
def wK (f n m i:Int):Prop:=0≤f∧f<3∧1≤n∧n≤65536∧1≤m∧m≤65536∧0≤i∧i<m
instance (f n m i:Int):Decidable (wK f n m i):=by unfold wK;infer_instance
def OY (a b:Int):Int:= -(-a/b)
def db (f:Int):Int:=if f=0 then 0 else if f=1 then 2 else 3
def rA (f n m i:Int):Int:=if f=0 then i*n/m else((2*i+1)*n-m-db f*2*max n m)/(2*m)+1
def oH (f n m i:Int):Int:=if f=0 then OY ((i+1)*n) m else OY ((2*i+1)*n-m+db f*2*max n m) (2*m)
def Xu (p q:Int):Int:=if p≥q then 4*(q*q*q)+5*(p*p*q)-p*p*p-8*(p*q*q)else 3*(p*p*p)-5*(p*p*q)+2*(q*q*q)
def Jz (p q:Int):Int:=if q<1∨262144<q∨2*q≤p∨p≤ -2*q then 0 else cZ (IntKind.i64.wrap (Xu (max p (-p)) q)) 1073741824 (IntKind.i64.wrap (2*(q*q*q)))
theorem zac (p q:Int):I64 (Jz p q):=by
 unfold Jz;split
 ·unfold I64;omega
 ·exact gL _ _ _
def zY (f n m i j:Int):Int:=
 if f=0 then cZ (min ((i+1)*n) ((j+1)*m)-max (i*n) (j*m)) 1073741824 n
 else if f=1 then Jz (2*m*j-(2*i+1)*n+m) (2*max n m)
 else wT (2*m*j-(2*i+1)*n+m) (2*max n m)
theorem Wr (f n m i j:Int):I64 (zY f n m i j):=by
 unfold zY;split
 ·exact gL _ _ _
 split
 ·exact zac _ _
 ·exact TP _ _
def Ev (f n m i:Int):List Int:=(List.range (oH f n m i-rA f n m i).toNat).map λk:Nat=>zY f n m i (rA f n m i+k)
theorem nR {a A b B:Int}(h0:0≤a)(h1:a≤A)(F:0≤b)(G:b≤B):0≤a*b∧a*b≤A*B:=
 ⟨nU h0 F,rB h1 G F ae⟩
theorem L5 {a A b B:Int}(h0: -A≤a)(h1:a≤A)(H:0≤b)(F:b≤B): -(A*B)≤a*b∧a*b≤A*B:=by
 have G:0≤A:=ae;rcases D8 0 a with h|h
 ·have:=nR h h1 H F;have I:0≤A*B:=nU G ae;omega
 ·have:=nR (a:= -a) (A:=A) ae ae H F;rw[Tu]at this;have I:0≤A*B:=nU G ae;omega
theorem tP {a b L U:Int}(A:1≤b)(h1: -L≤a)(G:a≤U)(hL:0≤L)(F:0≤U): -L≤a/b∧a/b≤U:=by
 constructor
 ·rw[wN ae];have: -L*b≤ -L*1:=TC ae A;omega
 ·apply Jf;rw[uk ae];have:(U+1)*1≤(U+1)*b:=sf A ae;omega
structure MayB (f n m i:Int):Prop where
 inb:0≤i*n∧i*n≤4294967296
 in1:(i+1)*n=i*n+n
 tin:(2*i+1)*n=2*(i*n)+n
 rr:db f*2*max n m=2*(db f*max n m)
 rb:0≤db f*max n m∧db f*max n m≤196608
theorem W1 {f n m i:Int}(h:wK f n m i):MayB f n m i:=by
 obtain⟨f0,f1,L,I,H,m1,U,G⟩:=h;have:=nR (a:=i) (A:=65536) (b:=n) (B:=65536) ae ae ae ae;have F:0≤db f∧db f≤3:=by unfold db;split;omega;split<;>omega
 have:=nR (a:=db f) (A:=3) (b:=max n m) (B:=65536) F.1 F.2 ae ae;exact⟨ae,by rw[iZ,kR],by rw[iZ,kR,pI],by rw[Int.mul_right_comm,fM],ae⟩
theorem Om {f n m i:Int}(h:wK f n m i): -1048576*65536≤rA f n m i∧rA f n m i≤1048576*65536∧ -1048576*65536≤oH f n m i∧oH f n m i≤1048576*65536:=by
 have F:=W1 h;obtain⟨b1,b2,H,A,I⟩:=F;obtain⟨f0,f1,W,n1,m0,m1,i0,i1⟩:=h;unfold rA oH OY;split
 ·have h1:=tP (a:=i*n) (b:=m) (L:=0) (U:=4294967296) ae ae ae ae ae;have G:=tP (a:= -((i+1)*n)) (b:=m) (L:=4295032832) (U:=0) ae ae ae ae ae;omega
 ·rw[H,A];have h1:=tP (a:=2*(i*n)+n-m-2*(db f*max n m)) (b:=2*m) (L:=8591000000) (U:=8591000000) ae ae ae ae ae;have G:=tP (a:= -(2*(i*n)+n-m+2*(db f*max n m))) (b:=2*m) (L:=8591000000) (U:=8591000000) ae ae ae ae ae;omega
def New {α:Type}(e:Rp α)(h h':ah)(v:Value)(l:List α):Prop:=Rp.Ow e (λ_=>False) h' v l∧Ext h h'∧∀b,blk v b→h.size≤b
theorem New.nil {α:Type}{e:Rp α}{h h':ah}(k:Ext h h'):New e h h' (.slice none 0 0) []:=⟨Rp.Ow.nil,k,λb A=>A.elim⟩
theorem New.ext {α:Type}{e:Rp α}{h h' A:ah}{v:Value}{l:List α}(H:New e h h' v l)(k:Ext h' A):New e h A v l:=⟨H.1.ext k,H.2.1.trans k,H.2.2⟩
theorem New.before {α:Type}{e:Rp α}{h0 h h':ah}{v:Value}{l:List α}(H:New e h h' v l)(k:Ext h0 h):New e h0 h' v l:=⟨H.1,k.trans H.2.1,λb A=>bB k.1 (H.2.2 b A)⟩
theorem New.sl {α:Type}{e:Rp α}{h h':ah}{v:Value}{l:List α}(H:New e h h' v l):Rp.Sl e (blk v) h' v l:=H.1.sl.mono λb _ A=>A.elim False.elim id
theorem New.isSl {α:Type}{e:Rp α}{h h':ah}{v:Value}{l:List α}(H:New e h h' v l):∃a cap,v=.slice a l.length cap:=H.1.isSl
theorem New.push {α:Type}{e:Rp α}{z L c:Value}{t I:TypeId}{bytes:Nat}{h h1:ah}{v:Value}{l:List α}{x:α}{K:Value→ah→Prop}(hw:e.w=1)(H:New e h h1 v l)
  (hx:e.R (λ_=>False) h1 [c] x) (G:z.cells.size=1) (A:(l.length+1)*bytes≤140737488355328) (hn:l.length+1≤9223372036854775807)
  (U:∀F h',New e h h' F (l++[x])→K F h'):du #[L] t 1 [(0,1,c)] h1 λv2 h3=>dy z I 1 bytes v v2 h3 K:=by
 refine Rp.push_ow1 hw H.1 hx G A hn (λb A=>A.elim) λF h' o' W n'=>U F h' ⟨o',H.2.1.then_fr W H.2.2,λb A=>?_⟩
 rcases n' b A with h1|h1
 ·exact H.2.2 b h1
 ·exact bB H.2.1.1 h1
theorem New.push_int {k:IntKind}{z I:Value}{t G:TypeId}{bytes:Nat}{h h1:ah}{v:Value}{l:List Int}{x:Int}{K:Value→ah→Prop}(H:New (Rp.int k) h h1 v l)
  (F:z.cells.size=1) (U:(l.length+1)*bytes≤140737488355328) (W:l.length+1≤9223372036854775807)
  (L:∀A h',New (Rp.int k) h h' A (l++[x])→K A h'):du #[I] t 1 [(0,1,.int k x)] h1 λv2 h3=>dy z G 1 bytes v v2 h3 K:=
 H.push rfl rfl F U W L
theorem Rp.Sl.int_at {k:IntKind}{Z:Nat→Prop}{h:ah}{v:Value}{l:List Int}(H:Rp.Sl (Rp.int k) Z h v l){k':IntKind}{i:Nat}(hi:i<l.length):∃p,bu 1 v (.int k' (i:Int))=some p∧ldV h p=some (.int k l[i]):=by
 obtain⟨p,c,h1,F,A⟩:=H.at1 rfl (k:=k') hi;have A:[c]=[Value.int k l[i]]:=A;cases A;exact⟨p,h1,F⟩
theorem Er (k:IntKind)(i d most:Nat)(h:i≤most):bdV (some (.int k (i:Int))) d most=some i:=by
 show(if 0≤(i:Int)∧(i:Int)≤(most:Int)then some (i:Int).toNat else none)=_;rw[aA ae,dW]
theorem SlC.part {w:Nat}{h:ah}{v:Value}{n:Nat}{cs:List Value}(H:SlC w h v n cs){lo hi:Nat}(h1:lo≤hi)(W:hi≤n){a:Option Addr}{cap:Nat}(U:v=.slice a n cap)(hc:n≤cap):
  SlC w h (.slice (if cap=lo then a else a.map (·.add (lo*w))) (hi-lo) (cap-lo)) (hi-lo) ((cs.drop (lo*w)).take ((hi-lo)*w)):=by
 subst U;obtain⟨hl,a',G,e,H⟩:=H;cases e;have hm:lo*w+(hi-lo)*w=hi*w:=by rw[←eO];congr 1;omega
 have L:hi*w≤n*w:=ja w W;refine⟨by rw[de,jC];omega,_,_,rfl,?_⟩;by_cases A:(cs.drop (lo*w)).take ((hi-lo)*w)=[]
 ·exact .inl A
 ·refine .inr ?_;rcases H with rfl|⟨b,o,rfl,H⟩
  ·exact absurd (by simp) A
  ·have F:cap≠lo:=by
    intro e;have h0:(hi-lo)*w=0:=by rw[show hi-lo=0 by omega,Ar]
    exact A (by rw[h0];rfl)
   rw[aq F];refine⟨b,o+lo*w,by rw[cR,nD],λj I=>?_⟩;rw[de,jC]at I;have:=H (lo*w+j) ae;rw[←vz]at this;rw[this,yE,ye]
theorem QQ {h:ah}{v:Value}{n:Nat}{cs:List Value}(w:Nat)(H:Own w h v n cs){k:IntKind}{hi:Nat}(G:hi≤n):∃F,yu w v none (some (.int k (hi:Int)))=some F∧SlC w h F hi (cs.take (hi*w))∧∀b,blk F b→blk v b:=by
 have hc:∃a cap,v=.slice a n cap∧n≤cap:=by
  rcases H with⟨rfl,rfl,_⟩|⟨b,cap,r,e,rfl,hc,_⟩
  ·exact⟨none,0,rfl,cf _⟩
  ·exact⟨_,cap,rfl,hc⟩
 obtain⟨a,cap,e,hc⟩:=hc;have:=H.sl.part (b9 hi) G e hc;subst e;refine⟨_,?_,by simpa using this,λb A=>?_⟩
 ·simp only[yu,Er k hi n cap (show hi≤cap by omega)];simp only[bdV,Ar,Ap]
 ·cases a with
  |none=>simp at A;exact A
  | some a=>
   split at A
   ·exact A
   ·simp only[cR]at A;have e:(a.add 0).block=a.block:=by unfold Addr.add;split<;>rfl
    rw[show b=(a.add 0).block from A,e];rfl
theorem zbZ {h:ah}{v s:Value}{n m k:Nat}{cs ds:List Value}(H:Own 1 h v n cs)(hm:m<n)(U:SlC 1 h s k ds)(ho:∀x∈ds,aV x=true){kk:IntKind}:
  ∃d,yu 1 v (some (.int kk (m:Int))) none=some d∧∀K:Value→ah→Prop,(∀h',Own 1 h' v n (cs.take m++ds.take (n-m)++cs.drop (m+k))→Fr (blk v) h h'→K (af (Nat.min k (n-m):Nat)) h')→GQ 1 d s h K:=by
 have L:=U.load_some (k:=Nat.min k (n-m)) (Nat.min_le_left ..);obtain⟨ab,a',aa,rfl,ad⟩:=U;rcases H with⟨rfl,rfl,rfl⟩|⟨b,cap,r,e,rfl,hc,hl,hr,W⟩
 ·omega
 ·refine⟨.slice (some ⟨b,m,none⟩) (n-m) (cap-m),?_,λK HK=>?_⟩
  ·simp only[yu,Er kk m 0 cap (show m≤cap by omega)];have A:¬cap=m:=ae;have e0:bdV (some (Value.int kk (m:Int))) 0 n=some m:=Er kk m 0 n ae;simp only[bdV,e0,aq A,cR,nD,aO,lN];rw[aA ae];simp;exact λhh=>absurd hh A
  ·unfold GQ;simp only[QH];rw[L];have F:ds.take (Nat.min k (n-m)*1)=ds.take (n-m):=by
    rw[lN];rcases Mn k (n-m)with h1|h1
    ·rw[show Nat.min k (n-m)=k from vx h1,fB ae,fB ae]
    ·rw[show Nat.min k (n-m)=n-m from Nat.min_eq_right h1]
   rw[F];have al:(ds.take (n-m)).length≤n-m:=by rw[de];omega
   have G:=nM (o:=m) (ds.take (n-m)) 0 h _ W (by simp;omega) (λv hv=>ho v (Eb hv));simp only[G];have I:cs++r=cs.take m++(cs.drop m++r):=by rw[←cj,mC]
   have lt:(cs.take m).length=m:=by rw[de];omega
   have hw:=Hd (ds.take (n-m)) (cs.take m) (cs.drop m++r) (by rw[co,jC];omega);rw[←I,lt]at hw;rw[gN,hw];refine HK _ (.inr ⟨b,cap,r,e,rfl,hc,?_,?_,?_⟩) Upd.set.fr
   ·simp only[co,de,jC];omega
   ·simp only[co,de,jC]at hr ⊢;omega
   ·rw[ns W]
    congr 3
    rw[cj,cj,cj]
    congr 2
    rw[de,TE];rcases Mn k (n-m)with h1|h1
    ·rw[Jp,show min (n-m) ds.length=k by omega,jC,show k-(cs.length-m)=0 by omega,Mm]
    ·rw[Jp,show min (n-m) ds.length=n-m by omega,jC,show n-m-(cs.length-m)=0 by omega,Mm,rC (show cs.length≤m+(n-m)by omega),rC (show cs.length≤m+k by omega)]
theorem Rp.Sl.part {α:Type}{e:Rp α}{Z:Nat→Prop}{h:ah}{v:Value}{l:List α}(H:Rp.Sl e Z h v l){lo hi:Nat}(h1:lo≤hi)(h2:hi≤l.length){a:Option Addr}{n cap:Nat}(hv:v=.slice a n cap)(hc:n≤cap){k k':IntKind}:
  ∃v',yu e.w v (some (.int k (lo:Int))) (some (.int k' (hi:Int)))=some v'∧Rp.Sl e Z h v' ((l.drop lo).take (hi-lo)):=by
 obtain⟨ds,hs,hz,he⟩:=H;obtain⟨a',aa,L⟩:=hs.isSl;rw[L]at hv;cases hv;have hP:=hs.part h1 h2 L hc;subst L;have A:((l.drop lo).take (hi-lo)).length=hi-lo:=by rw[de,jC];omega
 refine⟨_,?_,(ds.drop (lo*e.w)).take ((hi-lo)*e.w),by rw[A];exact hP,λU b G=>?_,λi F=>?_⟩
 ·simp only[yu,Er k' hi _ cap (show hi≤cap by omega),Er k lo 0 hi h1]
 ·have W:ds≠[]:=λh0=>U (by rw[h0];simp)
  refine hz W b ?_;cases a with
  |none=>simp only[Mr,ite_self]at G;exact G
  | some a=>
   split at G
   ·exact G
   ·simp only[cR]at G;have ea:(a.add (lo*e.w)).block=a.block:=by unfold Addr.add;split<;>rfl
    rw[show b=(a.add (lo*e.w)).block from G,ea];rfl
 ·have I:lo+i<l.length:=by rw[A]at F;omega
  have:=he (lo+i) I;rw[yE,ye];have e2:Rp.el e.w ((ds.drop (lo*e.w)).take ((hi-lo)*e.w)) i=Rp.el e.w ds (lo+i):=by
   show(((ds.drop (lo*e.w)).take ((hi-lo)*e.w)).drop (i*e.w)).take e.w=(ds.drop ((lo+i)*e.w)).take e.w;have hm:i*e.w+e.w≤(hi-lo)*e.w:=by rw[←Au];exact ja _ (by rw[A]at F;exact F)
   rw[List.drop_take,Jp,List.take_take,vx ae,←eO]
  rw[e2];exact this
def S (l:List UInt8):Value:=.string ⟨⟨l⟩⟩
theorem S_lit (l:List UInt8):Value.string ⟨l.toArray⟩=S l:=rfl
theorem Zo:Value.string ⟨#[]⟩=S []:=rfl
theorem one_S (l:List UInt8):aV (S l)=true:=rfl
theorem Pz (a b:List UInt8):ak .s .eql (S a) (S b)=some (.bool (decide (a=b))):=by
 show some (Value.bool ((ByteArray.mk (Array.mk a)).toList==(ByteArray.mk (Array.mk b)).toList))=_;rw[Mg,Mg]
 congr 2
 by_cases h:a=b
 ·subst h;simp
 ·rw[cE h];simpa using h
theorem Py (a b:List UInt8):ak .s .neq (S a) (S b)=some (.bool (!decide (a=b))):=by
 show some (Value.bool (!((ByteArray.mk (Array.mk a)).toList==(ByteArray.mk (Array.mk b)).toList)))=_;rw[Mg,Mg]
 congr 3
 by_cases h:a=b
 ·subst h;simp
 ·rw[cE h];simpa using h
theorem lenS (l:List UInt8):Ky (S l)=some (af l.length):=rfl
namespace Rp
def bs:Rp (List UInt8) where
 w:=1
 R:=λ_ _ cs n=>cs=[S n]
 len:=by rintro _ _ _ _ rfl;rfl
 one:=by rintro _ _ _ _ rfl;simp[one_S]
 fr:=λH _ _=>H
 mono:=λH _=>H
end Rp
attribute [go_sem] S_lit Pz Py lenS
end Go.Crisp
namespace Go.Proofs.YtjljhnandbbldaaGreatDoor
open Go Go.Crisp
attribute [local irreducible] ag du bh stK aE vK qK bO gK fR bA mkK dy GQ
open _root_.Go.Proofs.Tryz
def PA (b:Int):List UInt8:=if b=0 then[99,108,97,109,112]else if b=1 then[109,105,114,114,111,114]else if b=2 then[119,114,97,112]else[]
def VA (b:Int):List UInt8:=if b=0 then[98,111,120]else if b=1 then[99,117,98,105,99]else if b=2 then[108,97,110,99,122,111,115]else[]
theorem JO {h:ah}(G:eW h){b:Int}:
  ag prog sO #[af b] h λr h'=>r=S (PA b)∧h'=h:=by
 apply N9;unfold Cy;obtain⟨v,I,H⟩:=G.names;obtain⟨a,cap,rfl⟩:=H.isSl;simp only[go_sem,I];refine ao (λh1=>?_) (λh1=>?_)
 ·refine⟨?_,trivial⟩;unfold PA;rw[aq ae,aq ae,aq ae]
 ·obtain⟨n,rfl⟩:∃n:Nat,b=(n:Int):=⟨b.toNat,ae⟩
  obtain⟨p,A,F⟩:=H.at1 (k:=.i64) (i:=n) ae;simp only[go_sem,A,F];refine⟨?_,trivial⟩;have L:n<3:=ae;have key:∀(i:Nat) (hi:i< [Value.string (kB 0),Value.string (kB 1),Value.string (kB 2)].length),[Value.string (kB 0),Value.string (kB 1),Value.string (kB 2)][i]=S (PA (i:Int)):=λi hi=>by
   match i,hi with
   |0,_=>rfl
   |1,_=>rfl
   |2,_=>rfl
  exact key n _
theorem Ry {h:ah}(G:eW h){b:Int}:
  ag prog AQ #[af b] h λr h'=>r=S (VA b)∧h'=h:=by
 apply U8;unfold K2;simp only[go_sem];refine ao (λh1=>?_) (λh1=>?_)
 ·refine⟨?_,trivial⟩;unfold VA;rw[aq ae,aq ae,aq ae]
 ·obtain⟨n,rfl⟩:∃n:Nat,b=(n:Int):=⟨b.toNat,ae⟩
  have A:n<3:=ae;have F:=(G.kinds n A).1;have e:OG 3 2 (.pointer (some ⟨gj,0,none⟩)) (af (n:Int))=some (.pointer (some ⟨gj,2*n,none⟩)):=by
   show(if 0≤(n:Int)∧(n:Int)<((3:Nat):Int)then some (Value.pointer (some ((⟨gj,0,none⟩:Addr).add ((n:Int).toNat*2))))else none)=_;rw[aA ae,nD,dW,aO,fu]
  simp only[go_sem,e,gN,F];refine⟨?_,trivial⟩
  clear h1 F e
  match n,A with
  |0,_=>rfl
  |1,_=>rfl
  |2,_=>rfl
end Go.Proofs.YtjljhnandbbldaaGreatDoor
namespace Go.Proofs.YtjljhnandbbldaaGreatDoor
open Go Go.Crisp
attribute [local irreducible] ag du bh stK aE vK qK bO gK fR bA mkK dy GQ IQ DT bsK
open _root_.Go.Proofs.Tryz
theorem zcb {h:ah}{f n m i:Int}:ag prog KQ #[af f,af n,af m,af i] h λr h'=>r=.bool (decide (wK f n m i))∧h'=h:=by
 apply WV;unfold MO
 try simp only[go_sem]
 refine⟨?_,trivial⟩
 congr 1
 rw[ir];unfold wK;omega
theorem zcn {h:ah}{a b:Int}(H: -9223372036854775807≤a∧a≤9223372036854775807)(F:0<b)(A:I64 b):ag prog AO #[af a,af b] h λr h'=>r=af (OY a b)∧h'=h:=by
 apply U7;unfold KZ
 try simp only[go_sem]
 rw[w64 ae ae,Tw];have hi:I64 (-a):=by unfold I64;omega
 refine(MB hi A).mono λI h1 ⟨G,w1⟩=>?_
 subst G w1
 try simp only[go_sem]
 rw[rH hi F];have:=tP (a:= -a) (b:=b) (L:=9223372036854775807) (U:=9223372036854775807) ae ae ae ae ae;rw[w64 ae ae,Tw];exact⟨rfl,trivial⟩
theorem WH {h:ah}(G:eW h){f:Int}(f0:0≤f)(f1:f<3):∃p,OG 3 2 (.pointer (some ⟨gj,0,none⟩)) (af f)=some (.pointer (some ⟨gj,p,none⟩))∧aH h ⟨gj,p+1,none⟩=some (af (db f)):=by
 obtain⟨n,rfl⟩:∃n:Nat,f=(n:Int):=⟨f.toNat,ae⟩
 have A:n<3:=ae;refine⟨2*n,?_,?_⟩
 ·show(if 0≤(n:Int)∧(n:Int)<((3:Nat):Int)then some (Value.pointer (some ((⟨gj,0,none⟩:Addr).add ((n:Int).toNat*2))))else none)=_;rw[aA ae,nD,dW,aO,fu]
 ·rw[(G.kinds n A).2]
  match n,A with
  |0,_=>rfl
  |1,_=>rfl
  |2,_=>rfl
def zew (f n m i:Int):Value:=if wK f n m i then .tuple #[.int .i64 (rA f n m i),.int .i64 (oH f n m i-rA f n m i)]else .tuple #[.int .i64 0,.int .i64 0]
theorem zcp {h:ah}(G:eW h){f n m i:Int}:ag prog AP #[af f,af n,af m,af i] h λr h'=>r=zew f n m i∧h'=h:=by
 apply Qm;unfold Fq zew;refine zcb.mono λL h1 ⟨A,w1⟩=>?_
 subst A w1
 try simp only[go_sem]
 refine ao (λh0=>?_) (λh0=>?_)
 ·rw[aq h0];exact⟨rfl,trivial⟩
 have I:wK f n m i:=cq h0;rw[aA I];have W:=Om I;have hb:=W1 I;obtain⟨b1,b2,b3,b4,b5⟩:=hb;obtain⟨f0,f1,n0,n1,m0,m1,i0,i1⟩:=I;have H:I64 m:=by unfold I64;omega
 rw[w64 (n:=i*n) ae ae];refine(MB (by unfold I64;omega) H).mono λL h1 ⟨A,w1⟩=>?_
 subst A w1;rw[rH (by unfold I64;omega) ae]
 try simp only[go_sem]
 rw[w64 (n:=i+1) ae ae,w64 (n:=(i+1)*n) ae ae];refine(zcn ae ae H).mono λL h1 ⟨A,w1⟩=>?_
 subst A w1
 try simp only[go_sem]
 unfold rA oH at W ⊢;refine ao (λF=>?_) (λF=>?_)
 ·have F:f≠0:=F;rw[aq F,aq F]at*;obtain⟨p,U,aa⟩:=WH G f0 f1;simp only[go_sem,U,aa];have hr:0≤db f∧db f≤3:=by unfold db;split;omega;split<;>omega
  rw[w64 (n:=2*i) ae ae,w64 (n:=2*i+1) ae ae,w64 (n:=(2*i+1)*n) ae ae,w64 (n:=(2*i+1)*n-m) ae ae,w64 (n:=db f*2) ae ae,
   w64 (n:=db f*2*max n m) ae ae,w64 (n:=(2*i+1)*n-m-db f*2*max n m) ae ae,w64 (n:=2*m) ae ae]
  refine(MB (by unfold I64;omega) (by unfold I64;omega)).mono λL h1 ⟨A,w1⟩=>?_
  subst A w1;rw[rH (by unfold I64;omega) ae]
  try simp only[go_sem]
  rw[w64 (n:=((2*i+1)*n-m-db f*2*max n m)/(2*m)+1) ae ae,w64 (n:=(2*i+1)*n-m+db f*2*max n m) ae ae];refine(zcn ae ae (by unfold I64;omega)).mono λL h1 ⟨A,w1⟩=>?_
  subst A w1
  try simp only[go_sem]
  rw[w64 ae ae];exact⟨rfl,trivial⟩
 ·have F:f=0:=cq F;rw[aA F,aA F]at*;rw[w64 ae ae];exact⟨rfl,trivial⟩
theorem XP {h:ah}{p q:Int}(I: -4611686018427387904≤p∧p≤4611686018427387904)(hq:I64 q):ag prog xd #[af p,af q] h λr h'=>r=af (Jz p q)∧h'=h:=by
 apply U9;unfold K3
 try simp only[go_sem]
 unfold Jz;have F:(((q<1∨262144<q)∨IntKind.i64.wrap (2*q)≤p)∨p≤IntKind.i64.wrap (-2*q))↔(q<1∨262144<q∨2*q≤p∨p≤ -2*q):=by
  unfold I64 at hq;by_cases hc:q<1∨262144<q
  ·omega
  ·rw[w64 (n:=2*q) ae ae,w64 (n:= -2*q) ae ae];omega
 refine ao (λh0=>?_) (λh0=>?_)
 ·rw[aA (F.1 h0)];exact⟨rfl,trivial⟩
 rw[aq λhh=>h0 (F.2 hh)];have G:IntKind.i64.wrap (0-p)= -p:=by rw[w64 ae ae];omega
 rw[G];generalize max p (-p)=a;simp only[zU,FT,vR,q8,zT,FS];have H:2*q*q*q=2*(q*q*q):=by grind
 rw[H];unfold Xu;refine ao (λh1=>?_) (λh1=>?_)
 ·rw[aA h1];have A:(0-a)*a*a+5*a*a*q-8*a*q*q+4*q*q*q=4*(q*q*q)+5*(a*a*q)-a*a*a-8*(a*q*q):=by grind
  rw[A];exact pU (kF _) (by unfold I64;omega) (kF _)
 ·rw[aq h1];have A:3*a*a*a-5*a*a*q+2*(q*q*q)=3*(a*a*a)-5*(a*a*q)+2*(q*q*q):=by grind
  rw[A];exact pU (kF _) (by unfold I64;omega) (kF _)
theorem zdC {h:ah}{f n m i j:Int}(H:wK f n m i)(hj: -1048576*65536≤j∧j≤1048576*65536):ag prog DG #[af f,af n,af m,af i,af j] h λr h'=>r=af (zY f n m i j)∧h'=h:=by
 apply SG;unfold HZ
 try simp only[go_sem]
 have U:=W1 H;obtain⟨b1,b2,b3,b4,b5⟩:=U;obtain⟨f0,f1,n0,n1,m0,m1,i0,i1⟩:=H;unfold zY;have L:=L5 (a:=j) (A:=1048576*65536) (b:=m) (B:=65536) ae ae ae ae;have W:(j+1)*m=j*m+m:=by rw[iZ,kR]
 have I:2*m*j=2*(j*m):=by rw[pI,fM m j]
 refine ao (λG=>?_) (λG=>?_)
 ·rw[aA G];rw[w64 (n:=i+1) ae ae,w64 (n:=(i+1)*n) ae ae,w64 (n:=j+1) ae ae,w64 (n:=(j+1)*m) ae ae,w64 (n:=i*n) ae ae,w64 (n:=j*m) ae ae,w64 ae ae];exact pU (by unfold I64;omega) (by unfold I64;omega) (by unfold I64;omega)
 rw[aq G,w64 (n:=2*m) ae ae,w64 (n:=2*m*j) ae ae,w64 (n:=2*i) ae ae,w64 (n:=2*i+1) ae ae,w64 (n:=(2*i+1)*n) ae ae,
  w64 (n:=2*m*j-(2*i+1)*n) ae ae,w64 (n:=2*m*j-(2*i+1)*n+m) ae ae,w64 (n:=2*max n m) ae ae]
 refine ao (λF=>?_) (λF=>?_)
 ·rw[aA F];exact XP ae (by unfold I64;omega)
 ·rw[aq F];exact zaG (by unfold I64;omega) (by unfold I64;omega)
def fW (f n m i:Int):Int:=if wK f n m i then rA f n m i else 0
def dw (f n m i:Int):List Int:=if wK f n m i then Ev f n m i else[]
theorem oR {β:Type}(g:Nat→β)(n k:Nat)(h:k<n):((List.range n).map g).take (k+1)=((List.range n).map g).take k++[g k]:=by
 rw[iY (by simpa using h)];simp
theorem VM {h:ah}(G:eW h){f n m i:Int}:ag prog Et #[af f,af n,af m,af i] h λr h'=>
  ∃v,r=.tuple #[af (fW f n m i),v]∧New (Rp.int .i64) h h' v (dw f n m i):=by
 apply WW;unfold MP;refine(zcp G).mono λv1 h1 ⟨U,w1⟩=>?_
 subst U w1;unfold fW dw zew;by_cases F:wK f n m i
 ·rw[aA F,aA F,aA F]
  try simp only[go_sem]
  have aa:=Om F;obtain⟨N,hN⟩:∃N,N=(oH f n m i-rA f n m i).toNat:=⟨_,rfl⟩
  refine bK N 0 (λk v=>[v,af (k:Int)]) (λk v h'=>New (Rp.int .i64) h1 h' v ((Ev f n m i).take k)) (.slice none 0 0) rfl (b9 _) (New.nil (Ext.refl _)) λk v h2 again ρj _ hk I H=>?_
  try simp only[go_sem]
  have hl:(Ev f n m i).length=N:=by unfold Ev;rw[cS,ft,hN]
  refine ao (λh0=>?_) (λh0=>?_)
  ·rw[w64 (n:=rA f n m i+(k:Int)) ae ae];refine(zdC F ae).mono λv2 h3 ⟨e2,w2⟩=>?_
   subst e2 w2;have A:((Ev f n m i).take k).length=k:=by rw[de];omega
   refine I.push_int rfl (by rw[A];omega) (by rw[A];omega) λW h' L=>?_
   try simp only[go_sem]
   rw[w64 ae ae];have:=H W h' ae (by
    have e:=oR (λk:Nat=>zY f n m i (rA f n m i+k)) (oH f n m i-rA f n m i).toNat k ae;unfold Ev at L ⊢;rw[e];exact L)
   exact this
  ·rw[fB ae]at I;exact⟨v,rfl,I⟩
 ·rw[aq F,aq F,aq F]
  try simp only[go_sem]
  refine me (λk=>[.slice none 0 0,af (k:Int)]) 0 0 rfl (cf _) λk again ρj _ hk _=>?_
  have:k=0:=ae;subst this
  try simp only[go_sem]
  refine ao (λh0=>absurd h0 ae) (λh0=>?_);exact⟨_,rfl,New.nil (Ext.refl _)⟩
end Go.Proofs.YtjljhnandbbldaaGreatDoor
namespace Go.Crisp
def dG (r:Nat→Int)(i j:Nat):Prop:=r j<r i∨(r i=r j∧i<j)
instance (r:Nat→Int)(i j:Nat):Decidable (dG r i j):=by unfold dG;exact inferInstance
theorem Lf (r:Nat→Int)(i:Nat):¬dG r i i:=by unfold dG;omega
theorem lO {r:Nat→Int}{i j k:Nat}(h1:dG r i j)(A:dG r j k):dG r i k:=by unfold dG at*;omega
theorem lP (r:Nat→Int){i j:Nat}(h:i≠j):dG r i j∨dG r j i:=by unfold dG;omega
theorem Ov {r:Nat→Int}{i j:Nat}(h1:dG r i j):¬dG r j i:=by unfold dG at*;omega
def my (r:Nat→Int)(n i:Nat):Nat:=(List.range n).countP λj=>decide (dG r j i)
theorem Xz {l:List Nat}{p:Nat→Bool}(h:∀x∈l,p x=true):l.countP p=l.length:=by
 rw[List.countP_eq_length];exact h
theorem VH {l:List Nat}{p:Nat→Bool}(h:∀x∈l,p x=false):l.countP p=0:=by
 rw[YA];intro x A;rw[h x A];simp
theorem K9 {r:Nat→Int}{n:Nat}{l:List Nat}(H:l.Perm (List.range n))(G:l.Pairwise (dG r)){k:Nat}(F:k<l.length):my r n l[k]=k:=by
 unfold my;rw[←H.countP_eq];have A:∀(x:Nat),x=l[k]→((l.take k).countP λj=>decide (dG r j x))+((l.drop k).countP λj=>decide (dG r j x))=k:=by
  rintro x rfl;have h1:((l.take k).countP λj=>decide (dG r j l[k]))=(l.take k).length:=Xz λx A=>by
   obtain⟨i,hi,rfl⟩:=nW.1 A;rw[yE];rw[de]at hi;exact cL (wL.1 G i k ae F ae)
  have I:((l.drop k).countP λj=>decide (dG r j l[k]))=0:=VH λx A=>by
   obtain⟨i,hi,rfl⟩:=nW.1 A;rw[ye];rw[jC]at hi;rcases yd i with h0|h0
   ·subst h0;exact cE (Lf _ _)
   ·exact cE (Ov (wL.1 G k (k+i) F ae ae))
  rw[h1,I,de];omega
 have e:∀p:Nat→Bool,l.countP p=(l.take k).countP p+(l.drop k).countP p:=λp=>by rw[←vl,mC]
 rw[e];exact A _ rfl
theorem Sa {r:Nat→Int}{n i j:Nat}(hi:i<n)(h:dG r i j):my r n i<my r n j:=by
 unfold my;have A:∀l:List Nat,(l.countP λk=>decide (dG r k i))≤l.countP λk=>decide (dG r k j):=λl=>
  List.countP_mono_left λx _ G=>cL (lO (Aw G) h)
 obtain⟨a,b,F⟩:=List.append_of_mem (mE.2 hi);rw[F,vl,vl,pQ,pQ];have h1:=A a;have H:=A b;rw[aq (by simpa using Lf r i),aA (cL h)];omega
theorem Ix {r:Nat→Int}{n i j:Nat}(hi:i<n)(F:j<n)(h:my r n i=my r n j):i=j:=by
 by_cases A:i=j
 ·exact A
 ·rcases lP r A with h1|h1
  ·have:=Sa hi h1;omega
  ·have:=Sa F h1;omega
theorem TO {r:Nat→Int}{n i j:Nat}(hi:i<n)(F:j<n)(h:my r n i<my r n j):dG r i j:=by
 have A:i≠j:=λe=>by rw[e]at h;omega
 rcases lP r A with h1|h1
 ·exact h1
 ·have:=Sa F h1;omega
theorem ZJ (r:Nat→Int)(n:Nat):∀k,k<n→∃i,i<n∧my r n i=k:=by
 let le:Nat→Nat→Bool:=λi j=>decide (dG r i j)||decide (i=j)
 have U:∀a b c:Nat,le a b=true→le b c=true→le a c=true:=λa b c h1 A=>by
  simp only[le,wR,dd]at*;rcases h1 with h1|rfl
  ·rcases A with A|rfl
   ·exact .inl (lO h1 A)
   ·exact .inl h1
  ·exact A
 have F:∀a b:Nat,(le a b||le b a)=true:=λa b=>by
  simp only[le,wR,dd];by_cases I:a=b
  ·exact .inl (.inr I)
  ·rcases lP r I with h|h
   ·exact .inl (.inl h)
   ·exact .inr (.inl h)
 let l:=(List.range n).mergeSort le
 have G:l.Perm (List.range n):=Tt _ _;have W:l.Pairwise (λa b=>le a b=true):=Yz (le:=le) U F _;have L:l.Nodup:=G.nodup_iff.2 List.nodup_range;have H:l.Pairwise (dG r):=by
  unfold List.Nodup at L;refine(W.and L).imp λ{a b} ⟨h1,A⟩=>?_
  simp only[le,wR,dd]at h1;rcases h1 with h1|h1
  ·exact h1
  ·exact absurd h1 A
 intro k hk;have hl:l.length=n:=by rw[G.length_eq];simp
 refine⟨l[k]'ae,?_,K9 G H _⟩;have:=G.mem_iff.1 (cG (l:=l) (n:=k) ae);simpa using this
def ku (r:Nat→Int)(n k:Nat)(i:Nat):Int:=if my r n i<k then-1 else r i
theorem UR (r:Nat→Int)(n:Nat):ku r n 0=r:=by funext i;unfold ku;rw[aq ae]
theorem zaL {r:Nat→Int}{n k:Nat}(hr:∀i,i<n→0≤r i)(hk:k<n){b:Nat}(U:b<n)
  (h1:∀i,i<n→ku r n k i≤ku r n k b) (h2:∀i,i<b→ku r n k i<ku r n k b):my r n b=k:=by
 obtain⟨m,H,G⟩:=ZJ r n k hk;have pm:ku r n k m=r m:=by unfold ku;rw[aq ae]
 have W:=hr m H;have A:=h1 m H;rw[pm]at A;have I:ku r n k b=r b∧¬my r n b<k:=by
  unfold ku at A ⊢;split at A
  ·omega
  ·rename_i h;rw[aq h];exact⟨rfl,h⟩
 rw[I.1]at A;by_cases L:b=m
 ·rw[L];exact G
 ·have aa:my r n b≠k:=λe=>L (Ix U H (e.trans G.symm))
  have F:dG r m b:=TO H U (by have:=I.2;omega);unfold dG at F;rcases F with F|⟨e,F⟩
  ·omega
  ·have:=h2 m F;rw[pm,I.1]at this;omega
theorem US {r:Nat→Int}{n k b:Nat}(F:b<n)(G:my r n b=k){i:Nat}(hi:i<n):ku r n (k+1) i=if i=b then-1 else ku r n k i:=by
 unfold ku;by_cases A:i=b
 ·subst A;rw[aA ae,aA rfl]
 ·have:my r n i≠k:=λe=>A (Ix hi F (e.trans G.symm))
  rw[aq A];by_cases h:my r n i<k
  ·rw[aA h,aA ae]
  ·rw[aq h,aq ae]
end Go.Crisp
namespace Go.Crisp
open Go
def nK (l:List Int):Int:=l.foldl EO 0
def oC (x:Int):Int:=max x (zdc x (-1))
def nN (l:List Int):Int:=l.foldl (λs x=>EO s (oC x)) 0
theorem Hm {x:Int}(h:I64 x):oC x=min (x.natAbs:Int) 9223372036854775807:=by
 unfold oC zdc ko lC;unfold I64 at h;have e:(-1:Int).natAbs=1:=rfl;rw[e,lN];have F:decide ((-1:Int)<0)=true:=rfl;rw[F];by_cases A:x<0
 ·rw[cL A];have:(!(true==true))=false:=rfl;rw[this];simp only[gO,cH];split<;>omega
 ·rw[cE A];have:(!(false==true))=true:=rfl;rw[this];simp only[cN];split<;>omega
theorem rG {f:Int→Int→Int}(A:∀a b,I64 (f a b)):∀(l:List Int) (s:Int),I64 s→I64 (l.foldl f s)
 | [],s,h=>h
 |x::l,s,_=>rG A l _ (A _ _)
theorem zR:I64 0:=by unfold I64;omega
theorem Uv (l:List Int):I64 (nK l):=rG zP l 0 zR
theorem ML (l:List Int):I64 (nN l):=rG (λa b=>zP a (oC b)) l 0 zR
theorem QR {x:Int}(h:I64 x):I64 (oC x):=by rw[Hm h];unfold I64;omega
def GZ (l:List Int):Prop:=l.length=0∨1048576<l.length∨∃x∈l,1099511627776<oC x
instance (l:List Int):Decidable (GZ l):=by unfold GZ;infer_instance
def df (l:List Int):Int:=if GZ l then 7 else if nK l<268435456 then 8 else 0
def gT (l:List Int)(i:Nat):Int:=l.getD i 0*16384/nK l
def eG (l:List Int)(i:Nat):Int:=l.getD i 0*16384%nK l
def wS (l:List Int):Nat→Int
 |0=>16384
 |k+1=>wS l k-gT l k
def zG (l:List Int):Int:=wS l l.length
def nJ (l:List Int):List Int:=(List.range l.length).map λi=>gT l i+(if(my (eG l) l.length i:Int)<zG l then 1 else 0)
def cD (l:List Int):List Int:=if df l=0 then nJ l else[]
structure Dy (l:List Int):Prop where
 pos:0<l.length
 len:l.length≤1048576
 small:∀i, -1099511627776≤l.getD i 0∧l.getD i 0≤1099511627776
 sum:268435456≤nK l
theorem Lj {l:List Int}:df l=0↔ ¬GZ l∧268435456≤nK l:=by
 unfold df;split
 ·rename_i h;simp[h]
 ·rename_i h;split
  ·rename_i A;simp[h];omega
  ·rename_i A;simp[h];omega
theorem zbE {l:List Int}(A:∀x∈l,I64 x)(h:df l=0):Dy l:=by
 obtain⟨h1,H⟩:=Lj.1 h;unfold GZ at h1;refine⟨ae,ae,λi=>?_,H⟩;by_cases hi:i<l.length
 ·have e:l.getD i 0=l[i]:=by simp[dA,hi]
  rw[e];have G:=cG hi;have F:¬1099511627776<oC l[i]:=λF=>h1 (.inr (.inr ⟨_,G,F⟩))
  rw[Hm (A _ G)]at F;omega
 ·have e:l.getD i 0=0:=by simp[dA,Jm hi]
  rw[e];omega
def LA (l:List Int):Nat→Int
 |0=>0
 |k+1=>LA l k+l.getD k 0
theorem Se {l:List Int}(G:Dy l):∀k:Nat, -(k*1099511627776:Int)≤LA l k∧LA l k≤k*1099511627776
 |0=>by simp[LA]
 |k+1=>by
  have:=Se G k;have A:=G.small k;simp only[LA];omega
theorem Us {l:List Int}(G:Dy l):∀k,k≤l.length→nK (l.take k)=LA l k
 |0,_=>by simp[nK,LA]
 |k+1,h=>by
  have A:=Us G k ae;have F:=Se G k;have H:=G.small k;have e:l.getD k 0=l[k]:=by simp[dA,show k<l.length by omega]
  have:=G.len;unfold nK at*;rw[iY ae,D5,A];simp only[xY,List.foldl_nil,LA];unfold EO;rw[←e];omega
theorem QO {l:List Int}(G:Dy l):nK l=LA l l.length:=by
 have:=Us G l.length (cf _)
 rwa [fB (cf _)]at this
def R5 (l:List Int):Nat→Int
 |0=>0
 |k+1=>R5 l k+eG l k
theorem M9 {l:List Int}(G:Dy l)(i:Nat):0≤eG l i∧eG l i<nK l:=by
 have:=G.sum;exact⟨kA _ ae,iJ _ ae⟩
theorem zO {l:List Int}(G:Dy l)(i:Nat): -67108864≤gT l i∧gT l i≤67108864:=by
 have h1:=G.sum;have A:=G.small i;unfold gT;constructor
 ·rw[wN ae];omega
 ·apply Jf;rw[uk ae];omega
theorem Ot {l:List Int}(G:Dy l):∀k:Nat,16384-(k*67108864:Int)≤wS l k∧wS l k≤16384+k*67108864
 |0=>by simp[wS]
 |k+1=>by
  have:=Ot G k;have A:=zO G k;simp only[wS];omega
theorem Yb {l:List Int}(G:Dy l):∀k:Nat,0≤R5 l k∧R5 l k+k≤k*nK l
 |0=>by simp[R5]
 |k+1=>by
  have:=Yb G k;have A:=M9 G k;simp only[R5];rw[show((k+1:Nat):Int)=(k:Int)+1 from rfl,iZ,kR];omega
theorem Vm {l:List Int}(G:Dy l):∀k,wS l k*nK l+LA l k*16384=16384*nK l+R5 l k
 |0=>by simp[wS,LA,R5]
 |k+1=>by
  have A:=Vm G k;have hd:nK l*gT l k+eG l k=l.getD k 0*16384:=pP _ _;simp only[wS,LA,R5];rw[Ts,iZ,fM (gT l k)];omega
theorem left_bd {l:List Int}(G:Dy l):0≤zG l∧zG l<l.length:=by
 have h:=Vm G l.length;rw[←QO G]at h;have F:=Yb G l.length;have H:=G.sum;have A:=G.pos;have e:zG l*nK l=R5 l l.length:=by unfold zG;omega
 constructor
 ·rcases nT (zG l) 0 with h1|h1
  ·have:zG l*nK l≤(-1)*nK l:=ui ae ae;omega
  ·exact h1
 ·rcases nT (zG l) l.length with h1|h1
  ·exact h1
  ·have:(l.length:Int)*nK l≤zG l*nK l:=ui h1 ae;omega
theorem ri (l:List Int):(nJ l).length=l.length:=by simp[nJ]
theorem Zx {l:List Int}(G:Dy l):∀x∈nJ l, -67108864≤x∧x≤67108865:=by
 intro x A;unfold nJ at A;obtain⟨i,_,rfl⟩:=fO.1 A;have:=zO G i;split<;>omega
theorem FF {β:Type}(g:Nat→β)(n i:Nat)(x:β)(h:i<n):((List.range n).map g).set i x=(List.range n).map λj=>if j=i then x else g j:=by
 apply rE
 ·simp
 ·intro k h1 F;simp at h1 F;rw[D4];simp;by_cases A:i=k
  ·subst A;simp
  ·rw[aq A,aq (iu A)]
theorem bS {β:Type}{g f:Nat→β}{n:Nat}(h:∀i,i<n→g i=f i):(List.range n).map g=(List.range n).map f:=by
 apply Mu;intro i hi;exact h i (mE.1 hi)
end Go.Crisp
namespace Go.Proofs.YtjljhnandbbldaaGreatDoor
open Go Go.Crisp
attribute [local irreducible] ag du bh stK aE vK qK bO gK fR bA mkK dy GQ IQ DT bsK clK
open _root_.Go.Proofs.Tryz
abbrev SlI (Z:Nat→Prop)(h:ah)(v:Value)(l:List Int):Prop:=Rp.Sl (Rp.int .i64) Z h v l
theorem DM {f:Int→Int→Int}{l:List Int}{i:Nat}(h:i<l.length)(s:Int):(l.take (i+1)).foldl f s=f ((l.take i).foldl f s) l[i]:=by
 rw[iY h,D5];rfl
theorem O0 {h:ah}{x:Int}(F:I64 x):ag prog yj #[af x] h λr h'=>r=af (oC x)∧h'=h:=by
 apply Sk;unfold Hp;refine(XK F (by unfold I64;omega)).mono λG h1 ⟨A,w1⟩=>?_
 subst A w1;simp only[go_sem];exact⟨rfl,trivial⟩
theorem Rx {Z:Nat→Prop}{h:ah}{v:Value}{l:List Int}(H:SlI Z h v l)(G:∀x∈l,I64 x)(hl:l.length<4611686018427387904):ag prog AI #[v] h λr h'=>r=af (nK l)∧h'=h:=by
 apply U0;unfold KU;obtain⟨a,cap,e⟩:=H.isSl;have U:aC v=some (af (l.length:Int)):=by rw[e];rfl
 rw[U,aj];refine me (λi=>[af ((l.take i).foldl EO 0),af (i:Int)]) l.length 0 rfl (b9 _) λi again ρj _ hi F=>?_
 simp only[go_sem];refine ao (λh0=>?_) (λh0=>?_)
 ·have A:i<l.length:=ae;obtain⟨p,W,I⟩:=H.int_at (k':=.i64) A;simp only[go_sem,W,I];refine(Pm (rG zP _ _ zR) (G _ (cG _))).mono λv1 h1 ⟨L,w1⟩=>?_
  subst L w1;rw[w64 ae ae];have:=F A;rw[DM A]at this;exact this
 ·rw[fB ae];exact⟨rfl,trivial⟩
theorem Lm {Z:Nat→Prop}{h:ah}{v:Value}{l:List Int}(H:SlI Z h v l)(I:∀x∈l,I64 x)(hl:l.length<4611686018427387904):ag prog yl #[v] h λr h'=>r=af (nN l)∧h'=h:=by
 apply Sn;unfold Hr;obtain⟨a,cap,e⟩:=H.isSl;have W:aC v=some (af (l.length:Int)):=by rw[e];rfl
 rw[W,aj];refine me (λi=>[af ((l.take i).foldl (λs x=>EO s (oC x)) 0),af (i:Int)]) l.length 0 rfl (b9 _) λi again ρj _ hi G=>?_
 simp only[go_sem];refine ao (λh0=>?_) (λh0=>?_)
 ·have A:i<l.length:=ae;obtain⟨p,e3,U⟩:=H.int_at (k':=.i64) A;simp only[go_sem,e3,U];have L:=I _ (cG A);refine(O0 L).mono λv1 h1 ⟨F,w1⟩=>?_
  subst F w1;refine(Pm (rG (λa b=>zP a (oC b)) _ _ zR) (QR L)).mono λv1 h1 ⟨F,w1⟩=>?_
  subst F w1
  try simp only[go_sem]
  rw[w64 ae ae];have:=G A;rw[DM A]at this;exact this
 ·rw[fB ae];exact⟨rfl,trivial⟩
theorem zcm {h:ah}{x:Int}(F:I64 x):ag prog nF #[af x] h λr h'=>r=.bool (decide (1099511627776<oC x))∧h'=h:=by
 apply Kh;unfold y7;refine(O0 F).mono λG h1 ⟨A,w1⟩=>?_
 subst A w1;simp only[go_sem];exact⟨by simp,by simp⟩
section
attribute [local semireducible] clK
theorem clK_0 {f:FuncId}{a:Value}{h:ah}{K:Value→ah→Prop}:clK prog (.func (.func f) #[] #[]) #[a] h K=ag prog f #[a] h K:=rfl
theorem clK_2 {f:FuncId}{a b c:Value}{h:ah}{K:Value→ah→Prop}:clK prog (.func (.func f) #[] #[c]) #[a,b] h K=ag prog f #[a,b,c] h K:=rfl
end
theorem T8 {Z:Nat→Prop}{h:ah}{v:Value}{l:List Int}(H:SlI Z h v l)(U:∀x∈l,I64 x)(hl:l.length<4611686018427387904):
  ag prog eE #[v,.func (.func nF) #[] #[]] h λr h'=>r=.bool (decide (∃x∈l,1099511627776<oC x))∧h'=h:=by
 apply ma;unfold gR;refine ag.mono (K:=λr h'=>(∃n:Int,r=af n∧(0≤n↔ ∃x∈l,1099511627776<oC x))∧h'=h) ?_ ?_
 ·apply nP;unfold iF;obtain⟨a,cap,e⟩:=H.isSl;have e2:aC v=some (af (l.length:Int)):=by rw[e];rfl
  rw[e2,aj];refine bK l.length 0 (λi (_:Unit)=>[af (i:Int)]) (λi _ h'=>h'=h∧∀x∈l.take i,¬1099511627776<oC x) () rfl (b9 _) ⟨rfl,by simp⟩ λi _ h1 again ρj _ hi ⟨hh,L⟩ I=>?_
  subst hh;simp only[go_sem];refine ao (λh0=>?_) (λh0=>?_)
  ·have A:i<l.length:=ae;obtain⟨p,e3,W⟩:=H.int_at (k':=.i64) A;simp only[go_sem,e3,W];rw[clK_0];refine(zcm (U _ (cG A))).mono λv1 h2 ⟨e1,w1⟩=>?_
   subst e1 w1;refine ao (λG=>?_) (λG=>?_)
   ·exact⟨⟨i,rfl,λ_=>⟨_,cG A,G⟩,λ_=>ae⟩,rfl⟩
   ·rw[w64 ae ae];refine I () _ A ⟨rfl,λx F=>?_⟩;rw[iY A]at F;rcases cQ.1 F with F|F
    ·exact L x F
    ·rw[dc.1 F];exact G
  ·rw[fB ae]at L;exact⟨⟨-1,rfl,λh=>ae,λ⟨x,F,G⟩=>absurd G (L x F)⟩,by first|rfl|trivial⟩
 ·rintro r h' ⟨⟨n,rfl,hn⟩,rfl⟩;simp only[go_sem];refine⟨?_,trivial⟩
  congr 1
  rw[ir];exact hn
theorem VJ {Z:Nat→Prop}{h:ah}{v:Value}{l:List Int}(H:SlI Z h v l)(G:∀x∈l,I64 x)(hl:l.length<4611686018427387904):ag prog AH #[v] h λr h'=>r=af (df l)∧h'=h:=by
 apply PX;unfold ET;obtain⟨a,cap,e⟩:=H.isSl;have e2:aC v=some (af (l.length:Int)):=by rw[e];rfl
 simp only[go_sem,e2];unfold df;refine gK_f (λA=>?_) (λA=>?_)
 ·have A:=of_decide_eq_false A;have e3:decide ((l.length:Int)=0∨1048576<(l.length:Int))=false:=cE A;simp only[go_sem,e3];refine(T8 H G hl).mono λv1 h1 ⟨L,w1⟩=>?_
  subst L w1;simp only[go_sem];refine ao (λh0=>?_) (λh0=>?_)
  ·have F:GZ l:=.inr (.inr h0);rw[aA F];exact⟨by simp,by simp⟩
  ·have F:¬GZ l:=by unfold GZ;rintro(I|I|I);omega;omega;exact h0 I
   rw[aq F];refine(Rx H G hl).mono λv1 h1 ⟨L,w1⟩=>?_
   subst L w1;simp only[go_sem];refine ao (λW=>?_) (λW=>?_)
   ·rw[aA W];exact⟨by simp,by simp⟩
   ·rw[aq W];exact⟨by simp,by simp⟩
 ·have U:=Aw A;have F:GZ l:=by unfold GZ;rcases U with I|I;exact .inl ae;exact .inr (.inl ae)
  simp only[go_sem,A];rw[aA F];exact⟨by simp,by simp⟩
def kq (l:List Int):Prop:=l.length%2=0∨1024<l.length∨nN l<1∨1048576<nN l
instance (l:List Int):Decidable (kq l):=by unfold kq;infer_instance
def BL (l:List Int):Int:=if kq l then 7 else 0
def sP (l:List Int):List Int:=if kq l then[]else l.map λx=>cZ x 1073741824 (nN l)
theorem FM {α β:Type}(g:α→β)(l:List α){k:Nat}(h:k<l.length):(l.map g).take (k+1)=(l.map g).take k++[g l[k]]:=by
 rw[iY (by simpa using h)];simp
theorem GT {Z:Nat→Prop}{h:ah}{v:Value}{l:List Int}(H:SlI Z h v l)(G:∀x∈l,I64 x)(hl:l.length<4611686018427387904):
  ag prog tW #[v] h λr h'=>∃u,r=.tuple #[u,af (BL l)]∧New (Rp.int .i64) h h' u (sP l):=by
 apply Sm;unfold Hq;refine(Lm H G hl).mono λv1 h1 ⟨e1,w1⟩=>?_
 subst e1 w1;obtain⟨a,cap,e⟩:=H.isSl;have W:aC v=some (af (l.length:Int)):=by rw[e];rfl
 simp only[go_sem,W];rw[em _ _ _ _ ae,aj,kz ae];simp only[go_sem,W];unfold BL sP;have hs:=ML l;refine ao (λh0=>?_) (λh0=>?_)
 ·have:kq l:=by unfold kq;omega
  rw[aA this,aA this];exact⟨_,rfl,New.nil (Ext.refl _)⟩
 ·have U:¬kq l:=by unfold kq;omega
  rw[aq U,aq U];refine bK l.length 0 (λk u=>[u,af (k:Int)]) (λk u h'=>New (Rp.int .i64) h1 h' u ((l.map λx=>cZ x 1073741824 (nN l)).take k)) (.slice none 0 0) rfl (b9 _) (New.nil (Ext.refl _)) λk u h2 again ρj _ hk I L=>?_
  simp only[go_sem];refine ao (λh0=>?_) (λh0=>?_)
  ·have F:k<l.length:=ae;obtain⟨p,e3,e4⟩:=(H.ext I.2.1).int_at (k':=.i64) F;simp only[go_sem,e3,e4];refine(pU (G _ (cG _)) (by unfold I64;omega) hs).mono λv2 h3 ⟨e5,w5⟩=>?_
   subst e5 w5;have A:((l.map λx=>cZ x 1073741824 (nN l)).take k).length=k:=by rw[de,cS];omega
   unfold kq at U;refine I.push_int rfl (by rw[A];omega) (by rw[A];omega) λs' h' H'=>?_
   try rw[dC,aj]
   rw[w64 ae ae];have:=L s' h' F (by rw[FM _ _ F];exact H');exact this
  ·rw[fB (by rw[cS];omega)]at I;exact⟨u,rfl,I⟩
theorem JX (l:List Int):∀x∈sP l,I64 x:=by
 unfold sP;split
 ·simp
 ·intro x A;obtain⟨y,_,rfl⟩:=fO.1 A;exact gL _ _ _
def mT (s:Int):Prop:=s<1∨4194304<s
instance (s:Int):Decidable (mT s):=by unfold mT;infer_instance
def ie (s:Int):Int:=(3*s+65535)/65536
def GK (s:Int):Int:=if mT s then 7 else 0
def pS (s:Int):List Int:=if mT s then[]else(List.range (2*ie s+1).toNat).map λk:Nat=>Dd ((k:Int)-ie s) s
theorem OM (s:Int):∀x∈pS s,I64 x:=by
 unfold pS;split
 ·simp
 ·intro x A;obtain⟨y,_,rfl⟩:=fO.1 A;exact Xj _ _
theorem Pp {h:ah}{s:Int}(hs:I64 s):ag prog nG #[af s] h λr h'=>∃u,r=.tuple #[u,af (GK s)]∧New (Rp.int .i64) h h' u (pS s):=by
 apply Ki;unfold y8;simp only[go_sem];unfold GK pS;refine ao (λh0=>?_) (λh0=>?_)
 ·have:mT s:=h0;rw[aA this,aA this];exact⟨_,rfl,New.nil (Ext.refl _)⟩
 ·have I:¬mT s:=h0;rw[aq I,aq I];rw[w64 (n:=3*s) ae ae,w64 (n:=3*s+65536) ae ae,w64 (n:=3*s+65536-1) ae ae];have U:ak .i .shr (af (3*s+65536-1)) (.int .u64 16)=some (af (ie s)):=by
   show(if(16:Int)<0 then none else some (af ((3*s+65536-1).fdiv (2^(min (16:Int).toNat 64)))))=_;rw[aq ae,TA _ (by decide)];unfold ie
   congr 2
   rw[show 3*s+65536-1=3*s+65535 by omega];rfl
  rw[U,aj];have hr:0≤ie s∧ie s≤193:=by unfold ie;omega
  generalize ie s=q at*;simp only[go_sem];rw[w64 (n:=0-q) ae ae];obtain⟨N,hN⟩:∃N,N=(2*q+1).toNat:=⟨_,rfl⟩
  rw[←hN];refine bK N 0 (λk u=>[u,af ((k:Int)-q)]) (λk u h'=>New (Rp.int .i64) h h' u (((List.range N).map λk:Nat=>Dd ((k:Int)-q) s).take k)) (.slice none 0 0) rfl (b9 _) (New.nil (Ext.refl _)) λk u h2 again ρj _ hk H G=>?_
  simp only[go_sem];refine ao (λL=>?_) (λL=>?_)
  ·have F:k<N:=ae;refine(zd3 (by unfold I64;omega) hs).mono λv2 L ⟨e5,w5⟩=>?_
   subst e5 w5;have A:(((List.range N).map λk:Nat=>Dd ((k:Int)-q) s).take k).length=k:=by rw[de,cS,ft];omega
   refine H.push_int rfl (by rw[A];omega) (by rw[A];omega) λW h' H'=>?_
   try rw[dC,aj]
   rw[w64 ae ae];have:=G W h' F (by rw[oR _ _ _ F];exact H');rw[show((k+1:Nat):Int)-q=(k:Int)-q+1 by omega]at this;exact this
  ·rw[fB (by rw[cS,ft];omega)]at H;exact⟨u,rfl,H⟩
end Go.Proofs.YtjljhnandbbldaaGreatDoor
namespace Go.Crisp
section
section
variable {α:Type}{lt:α→α→Prop}
theorem DO (F:∀{a b c},lt a b→lt b c→lt a c){L:List α}(h:L.Pairwise lt){x:α}{i j:Nat}(H:i≤j)(G:j<L.length)(A:lt L[j] x):lt (L[i]'ae) x:=by
 rcases pK i j with h1|h1
 ·exact F (wL.1 h i j ae G h1) A
 ·have:i=j:=ae;subst this;exact A
theorem DP (F:∀{a b c},lt a b→lt b c→lt a c){L:List α}(h:L.Pairwise lt){x:α}{i j:Nat}(H:i≤j)(G:j<L.length)(A:lt x (L[i]'ae)):lt x L[j]:=by
 rcases pK i j with h1|h1
 ·exact F A (wL.1 h i j ae G h1)
 ·have:i=j:=ae;subst this;exact A
theorem cross (F:∀{a b c},lt a b→lt b c→lt a c){L R:List α}(hL:L.Pairwise lt)(H:R.Pairwise lt){i j:Nat}(hi:i≤L.length)(W:j≤R.length)
  (h1:∀(a:0<i) (b:j<R.length),lt (L[i-1]'ae) R[j]) (U:∀(a:0<j) (b:i<L.length),lt (R[j-1]'ae) L[i]):
  ∀x∈L.take i++R.take j,∀y∈L.drop i++R.drop j,lt x y:=by
 intro x G y A;rcases cQ.1 G with G|G<;>rcases cQ.1 A with A|A<;>
  obtain⟨p,I,rfl⟩:=nW.1 G<;>obtain⟨q,hq,rfl⟩:=nW.1 A<;>
  rw[de]at I<;>rw[jC]at hq<;>rw[yE,ye]
 ·exact wL.1 hL p (i+q) ae ae ae
 ·exact DO (lt:=lt) F (L:=L) hL (i:=p) (j:=i-1) ae ae (DP (lt:=lt) F (x:=L[i-1]) (L:=R) H (i:=j) (j:=j+q) ae ae (h1 ae ae))
 ·exact DO (lt:=lt) F (L:=R) H (i:=p) (j:=j-1) ae ae (DP (lt:=lt) F (x:=R[j-1]) (L:=L) hL (i:=i) (j:=i+q) ae ae (U ae ae))
 ·exact wL.1 H p (j+q) ae ae ae
theorem zeJ {L R F A:List α}{i j:Nat}(hc:∀x∈L.take i++R.take j,∀y∈L.drop i++R.drop j,lt x y)
  (H:F.Perm (L.take i++R.take j)) (G:A.Perm (L.drop i++R.drop j)) (U:F.Pairwise lt) (s2:A.Pairwise lt):(F++A).Perm (L++R)∧(F++A).Pairwise lt:=by
 refine⟨?_,pN.2 ⟨U,s2,λx W y I=>hc x (H.mem_iff.1 W) y (G.mem_iff.1 I)⟩⟩;refine(H.append G).trans ?_;have e:(L.take i++R.take j++(L.drop i++R.drop j)).Perm ((L.take i++L.drop i)++(R.take j++R.drop j)):=by
  rw[cj,cj];refine List.Perm.append_left _ ?_;rw[←cj,←cj];exact List.Perm.append_right _ Ja
 rwa [mC,mC]at e
end
end
end Go.Crisp
namespace Go.Proofs.YtjljhnandbbldaaGreatDoor
open Go Go.Crisp
attribute [local irreducible] ag du bh stK aE vK qK bO gK fR bA mkK dy GQ IQ DT bsK clK
open _root_.Go.Proofs.Tryz
section
abbrev iv (i:Nat):Value:=.int .i64 (i:Int)
structure Lt (v f:Value)(P:ah→Prop)(r:Nat→Int)(n:Nat):Prop where
 call:∀{h:ah} {a b:Nat} {K:Value→ah→Prop},P h→a<n→b<n→(∀c:Int,(c<0↔r b<r a)→K (.int .i64 c) h)→clK prog f #[iv a,iv b] h K
 fr:∀{h h':ah},P h→Fr (blk v) h h'→P h'
structure eJ (v:Value)(P:ah→Prop)(n:Nat)(h:ah)(l:List Nat):Prop where
 own:Own 1 h v l.length (l.map iv)
 ok:P h
 small:l.length<4611686018427387904
 below:∀x∈l,x<n
section
variable {v f:Value}{P:ah→Prop}{r:Nat→Int}{n:Nat}
theorem eJ.at {h:ah}{l:List Nat}(H:eJ v P n h l){i:Nat}(hi:i<l.length):∃p,bu 1 v (iv i)=some p∧ldV h p=some (iv l[i]):=by
 obtain⟨p,h1,A,_⟩:=H.own.at1 (k:=.i64) hi;exact⟨p,h1,by rw[A,dX]⟩
theorem eJ.swap (C:Lt v f P r n){h:ah}{A B D:List Nat}{x y:Nat}(H:eJ v P n h (A++x::(B++y::D))){i j:Nat}(hi:i=A.length)(hj:j=A.length+1+B.length):
  ∃ p q,bu 1 v (iv i)=some p∧bu 1 v (iv j)=some q∧ldV h p=some (iv x)∧ldV h q=some (iv y)∧∀K:Value→ah→Prop,
   (∀h',eJ v P n h' (A++y::(B++x::D))→Fr (blk v) h h'→K undef h')→
    (stK 1 p (iv y) h λ_ F=>stK 1 q (iv x) F K)∧(stK 1 q (iv x) h λ_ F=>stK 1 p (iv y) F K):=by
 subst hi hj;have l1:A.length<(A++x::(B++y::D)).length:=by simp
 have l2:A.length+1+B.length<(A++x::(B++y::D)).length:=by simp;omega
 obtain⟨p,h1,F,G⟩:=H.own.at1 (k:=.i64) l1;obtain⟨q,g1,g2,g3⟩:=H.own.at1 (k:=.i64) l2;have e1:(A++x::(B++y::D))[A.length]=x:=by simp
 have e2:(A++x::(B++y::D))[A.length+1+B.length]=y:=by
  apply un;rw[←iI,vk ae,show A.length+1+B.length-A.length=B.length+1 by omega,yf,vk ae];simp
 rw[dX,e1]at F;rw[dX,e2]at g2;have fin:∀h',Own 1 h' v (A++x::(B++y::D)).length ((A++y::(B++x::D)).map iv)→Fr (blk v) h h'→eJ v P n h' (A++y::(B++x::D)):=λh' o f'=>
  ⟨by rw[show(A++y::(B++x::D)).length=(A++x::(B++y::D)).length by simp];exact o,C.fr H.ok f',by have:=H.small;simpa using this,λz hz=>H.below z (by
   simp only[cQ,fC]at hz ⊢;rcases hz with h|h|h|h|h<;>simp[h])⟩
 have s1:((A++x::(B++y::D)).map iv).set A.length (iv y)=(A++y::(B++y::D)).map iv:=by simp
 have s2:((A++y::(B++y::D)).map iv).set (A.length+1+B.length) (iv x)=(A++y::(B++x::D)).map iv:=by
  rw[←Mf]
  congr 1
  rw[Me _ _ ae,show A.length+1+B.length-A.length=B.length+1 by omega,List.set_cons_succ,Me _ _ ae];simp
 have s3:((A++x::(B++y::D)).map iv).set (A.length+1+B.length) (iv x)=(A++x::(B++x::D)).map iv:=by
  rw[←Mf]
  congr 1
  rw[Me _ _ ae,show A.length+1+B.length-A.length=B.length+1 by omega,List.set_cons_succ,Me _ _ ae];simp
 have s4:((A++x::(B++x::D)).map iv).set A.length (iv y)=(A++y::(B++x::D)).map iv:=by simp
 refine⟨p,q,h1,g1,F,g2,λK HK=>⟨?_,?_⟩⟩
 ·refine G _ _ rfl λF o2 f2 z2=>?_
  rw[s1]at o2;obtain⟨q',I,_,W⟩:=o2.at1 (k:=.i64) l2;rw[g1]at I;cases I;refine W _ _ rfl λG L f3 z3=>?_
  rw[s2]at L;exact HK G (fin G L (f2.trans f3)) (f2.trans f3)
 ·refine g3 _ _ rfl λF o2 f2 z2=>?_
  rw[s3]at o2;obtain⟨p',h1',_,U⟩:=o2.at1 (k:=.i64) l1;rw[h1]at h1';cases h1';refine U _ _ rfl λG L f3 z3=>?_
  rw[s4]at L;exact HK G (fin G L (f2.trans f3)) (f2.trans f3)
theorem vh (a b:Nat)(h:a+b≤9223372036854775807):IntKind.i64.wrap ((a:Int)+(b:Int))=((a+b:Nat):Int):=by rw[w64 ae ae];omega
theorem mc (a b:Nat)(h:b≤a)(A:a≤9223372036854775807):IntKind.i64.wrap ((a:Int)-(b:Int))=((a-b:Nat):Int):=by rw[w64 ae ae];omega
theorem tF (a:Nat)(h:a+1≤9223372036854775807):IntKind.i64.wrap ((a:Int)+1)=((a+1:Nat):Int):=by rw[w64 ae ae];omega
theorem IR (a:Nat)(h:1≤a)(A:a≤9223372036854775807):IntKind.i64.wrap ((a:Int)-1)=((a-1:Nat):Int):=by rw[w64 ae ae];omega
theorem Dm (C:Lt v f P r n){h:ah}{A U M V D:List Nat}(H:eJ v P n h (A++U++M++V++D)){a b k:Nat}(ha:a=A.length)(hb:b=A.length+U.length+M.length)(hU:U.length=k)(hV:V.length=k):
  ag prog dr #[v,iv a,iv b,iv k,f] h λ_ h'=>eJ v P n h' (A++V++M++U++D)∧Fr (blk v) h h':=by
 apply rn;unfold jR;have L:=H.small;simp only[co]at L;refine bK k 0 (λi (_:Unit)=>[iv i]) (λi _ h'=>eJ v P n h' (A++V.take i++(U.drop i++M++U.take i++(V.drop i++D)))∧Fr (blk v) h h') () rfl (b9 _) ⟨by simpa using H,Fr.refl _ _⟩ λi _ h1 again ρj _ hi ⟨F,W⟩ I=>?_
 try simp only[go_sem]
 refine ao (λh0=>?_) (λh0=>?_)
 ·have G:i<k:=ae;have dU:U.drop i=U[i]::U.drop (i+1):=As ae;have dV:V.drop i=V[i]::V.drop (i+1):=As ae;have tU:U.take (i+1)=U.take i++[U[i]]:=iY ae;have tV:V.take (i+1)=V.take i++[V[i]]:=iY ae;have H2:eJ v P n h1 ((A++V.take i)++U[i]::((U.drop (i+1)++M++U.take i)++V[i]::(V.drop (i+1)++D))):=by
   rw[dU,dV]at F;simpa only[cj,oe,fX]using F
  obtain⟨p,q,e1,e2,e3,e4,st⟩:=H2.swap C (i:=a+i) (j:=b+i) (by rw[co,de];omega) (by simp only[co,de,jC];omega);refine aS (λh'=>h'=h1) rfl ?_;rw[vh a i ae,vh b i ae];simp only[go_sem,e1,e2];refine aD (iv V[i]) (λh' e=>by rw[e];exact e4) ?_;refine aD (iv U[i]) (λh' e=>by rw[e];exact e3) ?_;refine(st _ λh3 H3 F3=>?_).1;rw[tF i ae];refine I () h3 G ⟨?_,W.trans F3⟩;rw[tU,tV];simpa only[cj,oe,fX]using H3
 ·have:i=k:=ae;subst this;rw[fB ae,fB ae,rC ae,rC ae]at F;exact⟨by simpa using F,W⟩
theorem zca (C:Lt v f P r n){h:ah}{A U V D:List Nat}(H:eJ v P n h (A++U++V++D)){a m b:Nat}(ha:a=A.length)(hm:m=A.length+U.length)(hb:b=A.length+U.length+V.length)(hU:0<U.length)(hV:0<V.length):
  ag prog iP #[v,iv a,iv m,iv b,f] h λ_ h'=>eJ v P n h' (A++V++U++D)∧Fr (blk v) h h':=by
 apply ve;unfold kY;have al:=H.small;simp only[co]at al;simp only[iL,aj];rw[mc m a ae ae,mc b m ae ae];refine c5 (λd xs h'=>∃(P1 G F L:List Nat),d=G.length+F.length∧xs=[iv G.length,iv F.length]∧0<G.length∧0<F.length∧eJ v P n h' (P1++G++F++L)∧Fr (blk v) h h'∧m=P1.length+G.length∧P1++F++G++L=A++V++U++D)
  (U.length+V.length) ⟨A,U,V,D,rfl,by rw[show m-a=U.length by omega,show b-m=V.length by omega],hU,hV,H,Fr.refl _ _,hm,rfl⟩ ?_
 rintro d xs ρj h1 again ⟨P1,G,F,L,rfl,rfl,u0,v0,H1,F1,an,hg⟩ aa;have ab:=H1.small;simp only[co]at ab;simp only[iz,zJ,pW,aj];by_cases ad:G.length=F.length
 ·have e:((G.length:Int)=(F.length:Int))=True:=jW ae;simp only[go_sem,e];rw[mc m G.length ae ae];refine(Dm C (A:=P1) (U:=G) (M:=[]) (V:=F) (D:=L) (k:=G.length) (by simpa using H1) ae (by simp;omega) rfl ad.symm).mono λw h2 ⟨H2,F2⟩=>?_
  refine⟨?_,F1.trans F2⟩;rw[←hg];simpa using H2
 ·have e:((G.length:Int)=(F.length:Int))=False:=gm ae;simp only[go_sem,e];refine ao (λh0=>?_) (λh0=>?_)
  ·rw[mc m G.length ae ae];have I:G=G.take F.length++G.drop F.length:=(mC _ _).symm;have W:(G.take F.length).length=F.length:=by rw[de];omega
   have l2:(G.drop F.length).length=G.length-F.length:=by rw[jC]
   refine(Dm C (A:=P1) (U:=G.take F.length) (M:=G.drop F.length) (V:=F) (D:=L) (k:=F.length) (by rw[cj P1,←I];exact H1) ae ae W rfl).mono λw h2 ⟨H2,F2⟩=>?_
   try simp only[go_sem]
   rw[mc G.length F.length ae ae];refine aa _ _ (G.length-F.length+F.length) ae ⟨P1++F,G.drop F.length,G.take F.length,L,by rw[W,l2],by rw[W,l2],ae,ae,by simpa using H2,F1.trans F2,by rw[co];omega,?_⟩;rw[←hg];simp only[cj];rw[←cj (G.take _),←I]
  ·rw[mc m G.length ae ae,vh m F.length ae,mc (m+F.length) G.length ae ae];have I:F=F.take (F.length-G.length)++F.drop (F.length-G.length):=(mC _ _).symm;have W:(F.take (F.length-G.length)).length=F.length-G.length:=by rw[de];omega
   have l2:(F.drop (F.length-G.length)).length=G.length:=by rw[jC];omega
   refine(Dm C (A:=P1) (U:=G) (M:=F.take (F.length-G.length)) (V:=F.drop (F.length-G.length)) (D:=L) (k:=G.length) (by
    have e:P1++G++F.take (F.length-G.length)++F.drop (F.length-G.length)++L=P1++G++F++L:=by
     conv=>rhs;rw[I]
     simp only[cj]
    rw[e];exact H1) ae ae rfl l2).mono λw h2 ⟨H2,F2⟩=>?_
   try simp only[go_sem]
   rw[mc F.length G.length ae ae];refine aa _ _ (G.length+(F.length-G.length)) ae ⟨P1,F.drop (F.length-G.length),F.take (F.length-G.length),G++L,by rw[W,l2],by rw[W,l2],ae,ae,by simpa using H2,F1.trans F2,ae,?_⟩;rw[←hg];simp only[cj];rw[←cj (F.take _),←I]
end
end
section
theorem JF {i j:Nat}{K:Value→Prop}(h:i+j<9223372036854775808):(vK (ak .i .add (iv i) (iv j)) λG=>vK (gP .u64 G) λF=>vK (ak .i .shr F (.int .u64 1)) λA=>vK (gP .i64 A) K)=K (iv ((i+j)/2)):=by
 rw[dC,aj,vh i j ae,Dj,aj,gF ae,show(1:Int)=((1:Nat):Int)from rfl,nr _ ae,aj,Dj,aj,w64 ae ae]
section
variable {v f:Value}{P:ah→Prop}{r:Nat→Int}{n:Nat}
theorem tK {x y:Nat}(h:x<y):dG r y x↔r x<r y:=by unfold dG;omega
theorem WL {G F:List Nat}{x:Nat}(A:(G++F).Pairwise (dG r))(h1:∀y∈G,dG r y x)(L:∀y∈F,dG r x y):(G++x::F).Pairwise (dG r):=by
 rw[pN]at A ⊢;refine⟨A.1,xV.2 ⟨L,A.2.1⟩,λy I z H=>?_⟩;rcases fC.1 H with rfl|H
 ·exact h1 y I
 ·exact A.2.2 y I z H
theorem zaa {G:List Nat}{y x:Nat}(F:(G++[y]).Pairwise (dG r))(h:dG r y x):∀z∈G++[y],dG r z x:=by
 rw[pN]at F;intro z A;rcases cQ.1 A with A|A
 ·exact lO (F.2.2 z A y (by simp)) h
 ·rw[dc.1 A];exact h
theorem Lp (C:Lt v f P r n){h:ah}{A M D:List Nat}(H:eJ v P n h (A++M++D)){a b:Nat}(ha:a=A.length)(hb:b=A.length+M.length)(au:M.Pairwise (· < ·)):
  ag prog dE #[v,iv a,iv b,f] h λ_ h'=>∃M':List Nat,M'.Perm M∧M'.Pairwise (dG r)∧eJ v P n h' (A++M'++D)∧Fr (blk v) h h':=by
 apply nO;unfold iE;have a8:=H.small;simp only[co]at a8;rw[dC,aj,tF a ae];refine bK (M.length-1) 0 (λk (_:Unit)=>[iv (a+1+k)]) (λk _ h'=>∃S:List Nat,S.Perm (M.take (k+1))∧S.Pairwise (dG r)∧eJ v P n h' (A++S++M.drop (k+1)++D)∧Fr (blk v) h h') () rfl (b9 _)
  ⟨M.take 1,I9 _,?_,by rw[cj A,mC];exact H,Fr.refl _ _⟩ λk _ h1 again ρj _ hk ⟨S,hp,hs,H1,F1⟩ ay=>?_
 ·cases M with
  |nil=>simp
  |cons x M=>simp
 simp only[iz,cC,aj];refine ao (λh0=>?_) (λh0=>?_)
 ·have L:k+1<M.length:=ae;have dM:M.drop (k+1)=M[k+1]::M.drop (k+1+1):=As L;have tM:M.take (k+1+1)=M.take (k+1)++[M[k+1]]:=iY L;have a7:S.length=k+1:=by rw[hp.length_eq,de];omega
  have ax:∀y∈S,y<M[k+1]:=λy hy=>by
   have:=hp.mem_iff.1 hy;obtain⟨i,hi,rfl⟩:=nW.1 this;rw[de]at hi;rw[yE];exact wL.1 au i (k+1) ae L ae
  generalize M[k+1]=x at*;refine c5 (λd xs h'=>∃F G:List Nat,d=F.length∧xs=[iv (a+F.length)]∧S=F++G∧(∀y∈G,dG r x y)∧eJ v P n h' (A++F++x::(G++M.drop (k+1+1)++D))∧Fr (blk v) h h') S.length
   ⟨S,[],rfl,by rw[a7];congr 2;omega,by simp,by simp,by rw[dM]at H1;simpa only[cj,oe,fX]using H1,F1⟩ ?_
  rintro d xs ρj2 U ar ⟨F,G,rfl,rfl,rfl,hx,W,F2⟩ aa;simp only[iz,mW,aj];have kL:(∀y∈F,dG r y x)→eJ v P n U (A++F++x::(G++M.drop (k+1+1)++D))→Fr (blk v) h U→again [af (IntKind.i64.wrap (((a+1+k:Nat):Int)+1))] U:=by
   intro g1 g2 g3;rw[tF (a+1+k) ae,show a+1+k+1=a+1+(k+1)by omega];refine ay () U ae ⟨F++x::G,?_,WL hs g1 hx,by simpa only[cj,oe,fX]using g2,g3⟩;rw[tM];exact Tr.trans ((List.Perm.cons _ hp).trans (Ja (l₁:=[x])))
  refine aS (λh'=>h'=U) rfl ?_;rcases List.eq_nil_or_concat F with rfl|⟨F,y,rfl⟩
  ·have e:((a:Int)<((a+([]:List Nat).length:Nat):Int))=False:=gm (by simp);simp only[go_sem,e];refine aD undef (λ_ _=>rfl) ?_;refine aD undef (λ_ _=>rfl) ?_
   try simp only[go_sem]
   exact kL (by simp) W F2
  ·have ad:(F.concat y).length=F.length+1:=by simp
   have ab:y<x:=ax y (by simp);have al:=W.small;simp only[co,pJ,ad]at al;have H3:eJ v P n U ((A++F)++y::([]++x::(G++M.drop (k+1+1)++D))):=by
    simpa only[Md,cj,oe,fX]using W
   obtain⟨p,q,e1,e2,e3,e4,st⟩:=H3.swap C (i:=a+F.length) (j:=a+(F.length+1)) (by rw[co];omega) (by rw[co,kS];omega);have e:((a:Int)<((a+(F.length+1):Nat):Int))=True:=jW ae;have es:IntKind.i64.wrap (((a+(F.length+1):Nat):Int)-1)=((a+F.length:Nat):Int):=by rw[IR _ ae ae];congr 1
   simp only[go_sem,e,ad,es,e1,e2];refine aD (iv x) (λh' e=>by rw[e];exact e4) ?_;refine aD (iv y) (λh' e=>by rw[e];exact e3) ?_;refine C.call W.ok (W.below x (by simp)) (W.below y (by simp)) λc hc=>?_
   simp only[go_sem];have a9:(F++[y]).Pairwise (dG r):=by
    have:=(pN.1 hs).1;simpa only[Md]using this
   refine ao (λI=>?_) (λI=>?_)
   ·refine aS (λh'=>h'=U) rfl ?_
    try simp only[go_sem,e1,e2]
    refine aD (iv y) (λh' e=>by rw[e];exact e3) ?_;refine aD (iv x) (λh' e=>by rw[e];exact e4) ?_;refine(st _ λh3 H4 F3=>?_).2;refine aa _ h3 F.length ae ⟨F,y::G,rfl,rfl,by simp[Md],λz hz=>?_,by simpa only[cj,oe,fX]using H4,F2.trans F3⟩;rcases fC.1 hz with rfl|hz
    ·exact(tK ab).2 (hc.1 I)
    ·exact hx z hz
   ·refine kL ?_ W F2;have hl:dG r y x:=by
     have:¬dG r x y:=λg=>I (hc.2 ((tK ab).1 g))
     exact(lP r (show y≠x by omega)).resolve_right this
    have:=zaa a9 hl;simpa only[Md]using this
 ·have an:M.length≤k+1:=ae;refine⟨S,?_,hs,?_,F1⟩
  ·rw[fB an]at hp;exact hp
  ·rw[rC an]at H1;simpa using H1
theorem Pa (C:Lt v f P r n):∀(N:Nat) {h:ah} {A L R D:List Nat} (H:eJ v P n h (A++L++R++D)) {a m b:Nat} (ha:a=A.length) (hm:m=A.length+L.length) (hb:b=A.length+L.length+R.length)
  (hL:0<L.length) (hR:0<R.length) (sL:L.Pairwise (dG r)) (sR:R.Pairwise (dG r)) (al:∀x∈L,∀y∈R,x<y) (hN:L.length+R.length≤N),
  ag prog ch #[v,iv a,iv m,iv b,f] h λ_ h'=>∃S:List Nat,S.Perm (L++R)∧S.Pairwise (dG r)∧eJ v P n h' (A++S++D)∧Fr (blk v) h h':=by
 intro N;induction N with
 |zero=>intro h A L R D H a m b ha hm hb hL hR sL sR al hN;omega
 |succ N ih=>
 intro h A L R D H a m b ha hm hb hL hR sL sR al hN;apply tC;unfold ki;have dq:=H.small;simp only[co]at dq
 -- elements of the two parts
 have bc:∀{h':ah},eJ v P n h' (A++L++R++D)→∀k (hk:k<L.length),∃p,bu 1 v (iv (a+k))=some p∧ldV h' p=some (iv L[k])∧L[k]<n:=λH' k hk=>by
  obtain⟨p,W,e2⟩:=H'.at (i:=a+k) (by simp only[co];omega);have e:(A++L++R++D)[a+k]'(by simp only[co];omega)=L[k]:=by
   apply un;rw[←iI,cj,cj,vk ae,show a+k-A.length=k by omega,vy hk,iI hk]
  exact⟨p,W,by rw[e2,e],H'.below _ (by simp[cG])⟩
 have a7:∀{h':ah},eJ v P n h' (A++L++R++D)→∀k (hk:k<R.length),∃p,bu 1 v (iv (m+k))=some p∧ldV h' p=some (iv R[k])∧R[k]<n:=λH' k hk=>by
  obtain⟨p,W,e2⟩:=H'.at (i:=m+k) (by simp only[co];omega);have e:(A++L++R++D)[m+k]'(by simp only[co];omega)=R[k]:=by
   apply un;rw[←iI,cj,vk (by simp only[co];omega),co,show m+k-(A.length+L.length)=k by omega,vy hk,iI hk]
  exact⟨p,W,by rw[e2,e],H'.below _ (by simp[cG])⟩
 simp only[iL,mX,aj];rw[mc m a ae ae,mc b m ae ae];refine ao (λh1=>?_) (λh1=>?_)
 ·-- one on the left
  have c4:L.length=1:=ae;obtain⟨x,rfl⟩:=Tq.1 c4;refine c5 (λd xs h'=>h'=h∧∃i j:Nat,d=j-i∧xs=[iv (m+i),iv (m+j)]∧i≤j∧j≤R.length∧(∀h0:0<i,∀hi:i-1<R.length,dG r R[i-1] x)∧(∀hj:j<R.length,¬dG r R[j] x)) R.length
   ⟨rfl,0,R.length,rfl,by rw[show b=m+R.length by omega];rfl,ae,cf _,ae,ae⟩ ?_
  rintro d xs ρj h' again ⟨hh,i,j,rfl,rfl,b5,hj,c1,c2⟩ au;subst hh;simp only[iz,zJ,cC,aj];refine ao (λI=>?_) (λI=>?_)
  ·rw[JF ae,show(m+i+(m+j))/2=m+(i+j)/2 by omega];have hk:(i+j)/2<R.length:=ae;obtain⟨p,W,e2,b1⟩:=a7 H ((i+j)/2) hk;obtain⟨q,g1,g2,b2⟩:=bc H 0 ae;simp only[gN,Ed]at g1 g2 b2;refine aS (λI=>I=h') rfl ?_;simp only[W,g1,aj];refine aD _ (λI e=>by rw[e];exact e2) ?_;refine aD _ (λI e=>by rw[e];exact g2) ?_;refine C.call H.ok b1 b2 λc hc=>?_
   have ar:x<R[(i+j)/2]:=al x (by simp) _ (cG _)
   try simp only[go_sem]
   refine ao (λG=>?_) (λG=>?_)
   ·rw[tF _ ae];refine au _ _ (j-((i+j)/2+1)) ae ⟨rfl,(i+j)/2+1,j,rfl,rfl,ae,hj,λ_ _=>?_,c2⟩;exact(tK ar).2 (hc.1 G)
   ·refine au _ _ ((i+j)/2-i) ae ⟨rfl,i,(i+j)/2,rfl,rfl,ae,ae,c1,λ_ g=>G (hc.2 ((tK ar).1 g))⟩
  ·have an:i=j:=ae;subst an
   -- it goes to its place
   refine bK i 0 (λc (_:Unit)=>[iv (a+c)]) (λc _ I=>eJ v P n I (A++R.take c++x::(R.drop c++D))∧Fr (blk v) h' I) () rfl (b9 _) ⟨by simpa using H,Fr.refl _ _⟩ λc _ I a8 ρj2 _ hc ⟨H2,F2⟩ ay=>?_
   simp only[iz,iL,cC,aj];rw[IR _ ae ae];have lA:A.length+[x].length=A.length+1:=rfl;refine ao (λG=>?_) (λG=>?_)
   ·have c9:c<i:=ae;have dR:R.drop c=R[c]::R.drop (c+1):=As ae;have tR:R.take (c+1)=R.take c++[R[c]]:=iY ae;have H3:eJ v P n I ((A++R.take c)++x::([]++R[c]::(R.drop (c+1)++D))):=by
     rw[dR]at H2;simpa only[cj,oe,fX]using H2
    obtain⟨p,q,W,e2,e3,e4,st⟩:=H3.swap C (i:=a+c) (j:=a+c+1) (by rw[co,de];omega) (by rw[co,de,kS];omega);refine aS (λG=>G=I) rfl ?_;rw[dC,aj,tF _ ae];simp only[go_sem,W,e2];refine aD _ (λG e=>by rw[e];exact e4) ?_;refine aD _ (λG e=>by rw[e];exact e3) ?_;refine(st _ λG H4 F3=>?_).1
    try rw[tF _ ae]
    refine ay () G c9 ⟨?_,F2.trans F3⟩;rw[tR];simpa only[cj,oe,fX]using H4
   ·have:c=i:=ae;subst this;refine⟨R.take c++x::R.drop c,?_,?_,by simpa only[cj,oe,fX]using H2,F2⟩
    ·refine Tr.trans ?_;rw[mC];exact I9 _
    ·refine WL (by rw[mC];exact sR) (λy hy=>?_) (λy hy=>?_)
     ·obtain⟨k,hk,rfl⟩:=nW.1 hy;rw[de]at hk;rw[yE];exact DO (lt:=dG r) lO sR (i:=k) (j:=c-1) ae ae (c1 ae ae)
     ·obtain⟨k,hk,rfl⟩:=nW.1 hy;rw[jC]at hk;rw[ye];have hx:dG r x R[c]:=(lP r (show x≠R[c]by have:=al x (by simp) _ (cG (l:=R) (n:=c) ae);omega)).resolve_right (c2 ae);exact DP (lt:=dG r) lO sR (i:=c) (j:=c+k) ae ae hx
 refine ao (λI=>?_) (λI=>?_)
 ·-- one on the right
  have dl:R.length=1:=ae;obtain⟨y,rfl⟩:=Tq.1 dl;refine c5 (λd xs h'=>h'=h∧∃i j:Nat,d=j-i∧xs=[iv (a+i),iv (a+j)]∧i≤j∧j≤L.length∧(∀h0:0<i,∀hi:i-1<L.length,dG r L[i-1] y)∧(∀hj:j<L.length,¬dG r L[j] y)) L.length
   ⟨rfl,0,L.length,rfl,by rw[show m=a+L.length by omega];rfl,ae,cf _,ae,ae⟩ ?_
  rintro d xs ρj h' again ⟨hh,i,j,rfl,rfl,b5,hj,c1,c2⟩ au;subst hh;simp only[iz,zJ,cC,aj];refine ao (λG=>?_) (λG=>?_)
  ·rw[JF ae,show(a+i+(a+j))/2=a+(i+j)/2 by omega];have hk:(i+j)/2<L.length:=ae;obtain⟨p,W,e2,b1⟩:=bc H ((i+j)/2) hk;obtain⟨q,g1,g2,b2⟩:=a7 H 0 (by simp);simp only[gN,Ed]at g1 g2 b2;refine aS (λI=>I=h') rfl ?_;simp only[W,g1,aj];refine aD _ (λI e=>by rw[e];exact g2) ?_;refine aD _ (λI e=>by rw[e];exact e2) ?_;refine C.call H.ok b2 b1 λc hc=>?_
   have ar:L[(i+j)/2]<y:=al _ (cG _) y (by simp);simp only[go_sem];refine ao (λU=>?_) (λU=>?_)
   ·rw[tF _ ae];refine au _ _ (j-((i+j)/2+1)) ae ⟨rfl,(i+j)/2+1,j,rfl,rfl,ae,hj,λ_ _=>?_,c2⟩;have e:(i+j)/2+1-1=(i+j)/2:=ae;simp only[e];exact(lP r ae).resolve_right λg=>U (hc.2 ((tK ar).1 g))
   ·refine au _ _ ((i+j)/2-i) ae ⟨rfl,i,(i+j)/2,rfl,rfl,ae,ae,c1,λ_ g=>?_⟩;exact Ov g ((tK ar).2 (hc.1 (cq U)))
  ·have an:i=j:=ae;subst an;refine c5 (λd xs I=>∃c:Nat,d=c∧xs=[iv (a+c)]∧i≤c∧c≤L.length∧eJ v P n I (A++L.take c++y::(L.drop c++D))∧Fr (blk v) h' I) L.length
    ⟨L.length,rfl,by rw[show m=a+L.length by omega],hj,cf _,by rw[fB (cf _),rC (cf _)];simpa using H,Fr.refl _ _⟩ ?_
   rintro d xs ρj2 I a8 ⟨c,bg,rfl,eb,ee,H2,F2⟩ ay;have bg:=bg.symm;subst bg;simp only[iz,mW,aj];refine ao (λU=>?_) (λU=>?_)
   ·obtain⟨c,rfl⟩:∃e,c=e+1:=⟨c-1,ae⟩
    have dL:L.drop c=L[c]::L.drop (c+1):=As ae;have tL:L.take (c+1)=L.take c++[L[c]]:=iY ae;have H3:eJ v P n I ((A++L.take c)++L[c]::([]++y::(L.drop (c+1)++D))):=by
     rw[tL]at H2;simpa only[cj,oe,fX]using H2
    obtain⟨p,q,W,e2,e3,e4,st⟩:=H3.swap C (i:=a+c) (j:=a+(c+1)) (by rw[co,de];omega) (by rw[co,de,kS];omega);have es:IntKind.i64.wrap (((a+(c+1):Nat):Int)-1)=((a+c:Nat):Int):=by rw[IR _ ae ae];congr 1
    refine aS (λG=>G=I) rfl ?_;simp only[go_sem,es,W,e2];refine aD _ (λG e=>by rw[e];exact e3) ?_;refine aD _ (λG e=>by rw[e];exact e4) ?_;refine(st _ λG H4 F3=>?_).2;refine ay _ G c ae ⟨c,rfl,rfl,ae,ae,?_,F2.trans F3⟩;rw[dL];simpa only[cj,oe,fX]using H4
   ·have:c=i:=ae;subst this;refine⟨L.take c++y::L.drop c,?_,?_,by simpa only[cj,oe,fX]using H2,F2⟩
    ·refine Tr.trans ?_;rw[mC];exact Ja (l₁:=[y])
    ·refine WL (by rw[mC];exact sL) (λz hz=>?_) (λz hz=>?_)
     ·obtain⟨k,hk,rfl⟩:=nW.1 hz;rw[de]at hk;rw[yE];exact DO (lt:=dG r) lO sL (i:=k) (j:=c-1) ae ae (c1 ae ae)
     ·obtain⟨k,hk,rfl⟩:=nW.1 hz;rw[jC]at hk;rw[ye];have hx:dG r y L[c]:=(lP r (show y≠L[c]by have:=al _ (cG (l:=L) (n:=c) ae) y (by simp);omega)).resolve_right (c2 ae);exact DP (lt:=dG r) lO sL (i:=c) (j:=c+k) ae ae hx
 -- cut in the middle
 rw[JF ae];obtain⟨F,ca⟩:∃F,F=(a+b)/2:=⟨_,rfl⟩
 rw[←ca,dC,aj,vh F m ae];obtain⟨s0,bk⟩:∃s0,s0=if F<m then F+m-b else a:=⟨_,rfl⟩
 obtain⟨r0,be⟩:∃r0,r0=if F<m then F else m:=⟨_,rfl⟩
 have ab:(F<m→s0=F+m-b)∧(¬F<m→s0=a):=⟨λh=>by rw[bk,aA h],λh=>by rw[bk,aq h]⟩
 have aa:(F<m→r0=F)∧(¬F<m→r0=m):=⟨λh=>by rw[be,aA h],λh=>by rw[be,aq h]⟩
 clear bk be
 refine bF (λxs h'=>h'=h∧xs=[iv s0,iv r0]) ?_ ?_
 ·rw[mW,aj];refine ao (λG=>?_) (λG=>?_)
  ·rw[iL,aj,mc (F+m) b ae ae];exact⟨rfl,by rw[ab.1 ae,aa.1 ae]⟩
  ·exact⟨rfl,by rw[ab.2 ae,aa.2 ae]⟩
 rintro xs ρj h' ⟨hh,rfl⟩;subst hh;simp only[iz,zJ];rw[iL,aj,IR (F+m) ae ae];have c6:a≤s0∧s0≤r0∧r0≤m∧r0≤F∧F+m-b≤s0:=by
  by_cases G:F<m
  ·have W:=ab.1 G;have e2:=aa.1 G;omega
  ·have W:=ab.2 G;have e2:=aa.2 G;omega
 -- which ones come ahead
 have bo:∀c:Nat,s0≤c→c<r0→∃(h1:c-a<L.length) (I:F-1-c<R.length),∃p q,bu 1 v (iv c)=some p∧ldV h' p=some (iv L[c-a])∧bu 1 v (iv (F+m-1-c))=some q∧ldV h' q=some (iv R[F-1-c])∧L[c-a]<n∧R[F-1-c]<n:=by
  intro c h1 I;have l1:c-a<L.length:=ae;have l2:F-1-c<R.length:=ae;obtain⟨p,W,e2,b1⟩:=bc H (c-a) l1;obtain⟨q,g1,g2,b2⟩:=a7 H (F-1-c) l2;rw[show a+(c-a)=c by omega]at W;rw[show m+(F-1-c)=F+m-1-c by omega]at g1;exact⟨l1,l2,p,q,W,e2,g1,g2,b1,b2⟩
 refine c5 (λd xs I=>I=h'∧∃i j:Nat,d=j-i∧xs=[iv i,iv j]∧s0≤i∧i≤j∧j≤r0∧(∀h0:s0<i,∀(g1:i-1-a<L.length) (g2:F-i<R.length),dG r L[i-1-a] R[F-i])∧(j<r0→∀(g1:j-a<L.length) (g2:F-1-j<R.length),dG r R[F-1-j] L[j-a])) (r0-s0)
  ⟨rfl,s0,r0,rfl,rfl,cf _,c6.2.1,cf _,ae,ae⟩ ?_
 rintro d xs ρj2 I again ⟨hh,i,j,rfl,rfl,cw,b5,ct,c1,c2⟩ au;subst hh;simp only[iz,zJ,cC,aj];refine ao (λG=>?_) (λG=>?_)
 ·rw[JF ae];obtain⟨l1,l2,p,q,W,e2,g1,g2,b1,b2⟩:=bo ((i+j)/2) ae ae;obtain⟨c,hc⟩:∃c,c=(i+j)/2:=⟨_,rfl⟩
  simp only[←hc]at l1 l2 W e2 g1 g2 b1 b2 ⊢;have ar:L[c-a]<R[F-1-c]:=al _ (cG _) _ (cG _);refine aS (λU=>U=I) rfl ?_;simp only[iL,aj];rw[mc (F+m-1) c ae ae];simp only[W,g1,aj];refine aD _ (λG e=>by rw[e];exact g2) ?_;refine aD _ (λG e=>by rw[e];exact e2) ?_;refine C.call H.ok b2 b1 λw hw=>?_
  simp only[go_sem];refine ao (λU=>?_) (λU=>?_)
  ·rw[tF _ ae];refine au _ _ (j-(c+1)) ae ⟨rfl,c+1,j,rfl,rfl,ae,ae,ct,λ_ _ _=>?_,c2⟩;have:dG r L[c-a] R[F-1-c]:=(lP r ae).resolve_right λg=>U (hw.2 ((tK ar).1 g))
   have e:F-(c+1)=F-1-c:=ae;simp only[e,sb];exact this
  ·refine au _ _ (c-i) ae ⟨rfl,i,c,rfl,rfl,cw,ae,ae,c1,λ_ _ _=>(tK ar).2 (hw.1 (cq U))⟩
 -- turned round
 have an:i=j:=ae;subst an;obtain⟨p,hp⟩:∃p,p=i-a:=⟨_,rfl⟩
 obtain⟨q,hq⟩:∃q,q=F-i:=⟨_,rfl⟩
 have c8:p≤L.length:=ae;have cu:q≤R.length:=ae;have x1:∀(g1:0<p) (g2:q<R.length),dG r (L[p-1]'ae) R[q]:=λg1 g2=>by
  have hs:s0<i:=by
   by_cases U:F<m
   ·have:=ab.1 U;omega
   ·have:=ab.2 U;omega
  have:=c1 hs ae ae;have W:i-1-a=p-1:=ae;simp only[W,←hq]at this;exact this
 have x2:∀(g1:0<q) (g2:p<L.length),dG r (R[q-1]'ae) L[p]:=λg1 g2=>by
  have hs:i<r0:=by
   by_cases U:F<m
   ·have:=aa.1 U;omega
   ·have:=aa.2 U;omega
  have:=c2 hs ae ae;have W:F-1-i=q-1:=ae;simp only[W,←hp]at this;exact this
 have c7:=cross (lt:=dG r) lO sL sR c8 cu x1 x2;have lp:(L.take p).length=p:=by rw[de];omega
 have lq:(R.take q).length=q:=by rw[de];omega
 have ld:(L.drop p).length=L.length-p:=by rw[jC]
 have lr:(R.drop q).length=R.length-q:=by rw[jC]
 have eL:L=L.take p++L.drop p:=(mC _ _).symm;have eR:R=R.take q++R.drop q:=(mC _ _).symm;have H0:eJ v P n I ((A++L.take p)++L.drop p++R.take q++(R.drop q++D)):=by
  have e:(A++L.take p)++L.drop p++R.take q++(R.drop q++D)=A++L++R++D:=by
   conv=>rhs;rw[eL,eR]
   simp only[cj]
  rw[e];exact H
 rw[iL,aj,mc (F+m) i ae ae];refine bF (λ_ G=>eJ v P n G (A++L.take p++R.take q++(L.drop p++R.drop q++D))∧Fr (blk v) I G) ?_ ?_
 ·simp only[go_sem];refine ao (λU=>?_) (λU=>?_)
  ·refine(zca C H0 (a:=i) (m:=m) (b:=F+m-i) (by rw[co];omega) (by rw[co];omega) (by rw[co];omega) ae ae).mono λw G ⟨H3,F3⟩=>?_
   exact⟨by simpa only[cj]using H3,F3⟩
  ·refine⟨?_,Fr.refl _ _⟩;by_cases h5:p=L.length
   ·rw[rC (show L.length≤p by omega)]at H0 ⊢;simpa only[cj,fN,fX]using H0
   ·have:q=0:=ae;subst this;simpa only[cj,IZ,fN,fX]using H0
 rintro xs ρj3 G ⟨H3,F3⟩
 -- the two halves
 have cb:∀x∈L.take p,∀y∈R.take q,x<y:=λx hx y hy=>al x (Eb hx) y (Eb hy)
 have b4:∀x∈L.drop p,∀y∈R.drop q,x<y:=λx hx y hy=>al x (Tp hx) y (Tp hy)
 have ci:=sL.sublist (List.take_sublist p L);have b8:=sL.sublist (List.drop_sublist p L);have b0:=sR.sublist (List.take_sublist q R);have b3:=sR.sublist (List.drop_sublist q R);have ad:∀(S1:List Nat) (U:ah),S1.Perm (L.take p++R.take q)→S1.Pairwise (dG r)→eJ v P n U (A++S1++(L.drop p++R.drop q++D))→Fr (blk v) I U→
   vK (ak .i .lss (iv F) (iv (F+m-i))) λax=>vK (gV ax true (some (iv (F+m-i)))) λcp=>vK (gV ax true (some (iv b))) λb6=>vK (gV ax true (ak .i .lss cp b6)) λcc=>vK (aF ax cc (.bool false)) λb7=>
    aE b7 (ag prog ch #[v,iv F,iv (F+m-i),iv b,f] U λea a9=>∃S:List Nat,S.Perm (L++R)∧S.Pairwise (dG r)∧eJ v P n a9 (A++S++D)∧Fr (blk v) I a9)
     (∃S:List Nat,S.Perm (L++R)∧S.Pairwise (dG r)∧eJ v P n U (A++S++D)∧Fr (blk v) I U):=by
  intro S1 U bv cr H4 F4;have ec:S1.length=p+q:=by rw[bv.length_eq,co];omega
  have fin:∀(S2:List Nat) (h5:ah),S2.Perm (L.drop p++R.drop q)→S2.Pairwise (dG r)→eJ v P n h5 (A++S1++S2++D)→Fr (blk v) I h5→∃S:List Nat,S.Perm (L++R)∧S.Pairwise (dG r)∧eJ v P n h5 (A++S++D)∧Fr (blk v) I h5:=by
   intro S2 h5 c3 c0 H5 F5;obtain⟨m1,m2⟩:=zeJ (lt:=dG r) c7 bv c3 cr c0;exact⟨S1++S2,m1,m2,by simpa only[cj]using H5,F5⟩
  simp only[go_sem];refine ao (λh6=>?_) (λh6=>?_)
  ·refine(ih (A:=A++S1) (L:=L.drop p) (R:=R.drop q) (D:=D) (by simpa only[cj]using H4) (by rw[co];omega) (by rw[co];omega) (by rw[co];omega) ae ae b8 b3 b4 ae).mono λw h5 ⟨S2,g1,g2,g3,g4⟩=>?_
   exact fin S2 h5 g1 g2 g3 (F4.trans g4)
  ·by_cases h7:L.length≤p
   ·rw[rC h7]at H4 fin;exact fin (R.drop q) U (by simp) b3 (by simpa only[cj,fX]using H4) F4
   ·have h8:R.length≤q:=ae;rw[rC h8]at H4 fin;exact fin (L.drop p) U (by simp) b8 (by simpa only[cj,fN,fX]using H4) F4
 simp only[cC,aj];by_cases U:a<i∧i<F
 ·have W:((a:Int)<(i:Int))=True:=jW ae;have e2:((i:Int)<(F:Int))=True:=jW ae;simp only[go_sem,W,e2];refine(ih (A:=A) (L:=L.take p) (R:=R.take q) (D:=L.drop p++R.drop q++D) H3 ae ae ae ae ae ci b0 cb ae).mono λw h5 ⟨S1,g1,g2,g3,g4⟩=>?_
  have:=ad S1 h5 g1 g2 g3 (F3.trans g4);simp only[go_sem]at this ⊢;exact this
 ·have W:((a:Int)<(i:Int)∧(i:Int)<(F:Int))=False:=gm ae;simp only[go_sem,W];by_cases h5:p=0
  ·subst h5;have:=ad (R.take q) G (by simp) b0 (by simpa only[cj,IZ,fN,fX]using H3) F3;simp only[go_sem]at this ⊢;exact this
  ·have bd:q=0:=ae;have dz:=bd;have:=ad (L.take p) G (by rw[bd];simp) ci (by rw[bd]at H3 ⊢;simpa only[cj,IZ,fN,fX]using H3) F3;simp only[go_sem]at this ⊢;exact this
end
end
section
def Srt (r:Nat→Int)(lo:Nat)(S:List Nat):Prop:=S.Perm (List.range' lo S.length)∧S.Pairwise (dG r)
theorem Srt.mem {r:Nat→Int}{lo:Nat}{S:List Nat}(H:Srt r lo S){x:Nat}(A:x∈S):lo≤x∧x<lo+S.length:=by
 have:=H.1.mem_iff.1 A;simpa using this
theorem Srt.join {r:Nat→Int}{lo:Nat}{A F S:List Nat}(h1:Srt r lo A)(L:Srt r (lo+A.length) F)(G:S.Perm (A++F))(I:S.Pairwise (dG r)):Srt r lo S:=by
 refine⟨?_,I⟩;have H:S.length=A.length+F.length:=by rw[G.length_eq,co]
 refine G.trans ((h1.1.append L.1).trans ?_);rw[H,Yy]
inductive BS (r:Nat→Int)(B:Nat):Nat→List Nat→Prop
 |nil (lo:Nat):BS r B lo []
 |last (lo:Nat) (S:List Nat):0<S.length→S.length≤B→Srt r lo S→BS r B lo S
 |cons (lo:Nat) (S T:List Nat):S.length=B→Srt r lo S→BS r B (lo+B) T→BS r B lo (S++T)
theorem BS.one {r:Nat→Int}{B lo:Nat}{Y:List Nat}(G:0<B)(H:BS r B lo Y)(F:B≤Y.length):∃S T,Y=S++T∧S.length=B∧Srt r lo S∧BS r B (lo+B) T:=by
 cases H
 ·simp at F;omega
 ·rename_i h0 h1 A;exact⟨Y,[],by simp,ae,A,.nil _⟩
 ·rename_i S T h0 h1 A;exact⟨S,T,rfl,h0,h1,A⟩
theorem BS.short {r:Nat→Int}{B lo:Nat}{Y:List Nat}(G:0<B)(H:BS r B lo Y)(F:Y.length≤B)(h0:0<Y.length):Srt r lo Y:=by
 cases H
 ·simp at h0
 ·rename_i h0 h1 A;exact A
 ·rename_i S T I h1 A;have:T=[]:=nZ (by simp at F;omega);subst this;simpa using h1
section
variable {v f:Value}{P:ah→Prop}{r:Nat→Int}{n:Nat}
theorem zb8 (C:Lt v f P r n){h:ah}{N:Nat}(H:eJ v P n h (List.range' 0 N))(hN:N≤1048576):
  ag prog iO #[v,iv N,f] h λ_ h'=>∃S:List Nat,S.Perm (List.range N)∧S.Pairwise (dG r)∧eJ v P n h' S∧Fr (blk v) h h':=by
 apply vd;unfold kX;refine c5 (λd xs h'=>∃(X:List Nat),d=N-X.length∧xs=[iv X.length,iv (X.length+20)]∧X.length≤N∧(∀T,BS r 20 X.length T→BS r 20 0 (X++T))∧eJ v P n h' (X++List.range' X.length (N-X.length))∧Fr (blk v) h h') N
  ⟨[],rfl,rfl,b9 _,λT h=>h,by simpa using H,Fr.refl _ _⟩ ?_
 rintro d xs ρj h1 again ⟨X,rfl,rfl,hX,hT,H1,F1⟩ a8;simp only[iz,zJ,Pw,aj];refine ao (λh0=>?_) (λh0=>?_)
 ·have er:List.range' X.length (N-X.length)=List.range' X.length 20++List.range' (X.length+20) (N-(X.length+20)):=by
   rw[Yy];congr 1;omega
  have H2:eJ v P n h1 (X++List.range' X.length 20++List.range' (X.length+20) (N-(X.length+20))):=by rw[er]at H1;simpa only[cj]using H1
  refine(Lp C H2 (a:=X.length) (b:=X.length+20) rfl (by simp) Yx).mono λw h2 ⟨M',hp,hs,H3,F2⟩=>?_
  have hM:M'.length=20:=by rw[hp.length_eq];simp
  have W:(X++M').length=X.length+20:=by rw[co,hM]
  rw[dC,aj,show(20:Int)=((20:Nat):Int)from rfl,vh _ _ ae];refine a8 _ h2 (N-(X++M').length) ae ⟨X++M',rfl,by rw[W],ae,λT G=>?_,by rw[W];exact H3,F1.trans F2⟩;rw[W]at G;rw[cj];exact hT _ (.cons _ M' T hM ⟨by rw[hM];exact hp,hs⟩ G)
 ·refine(Lp C (A:=X) (M:=List.range' X.length (N-X.length)) (D:=[]) (by simpa using H1) (a:=X.length) (b:=N) rfl (by simp;omega) Yx).mono λw h2 ⟨M',hp,hs,H3,F2⟩=>?_
  have hM:M'.length=N-X.length:=by rw[hp.length_eq];simp
  rw[fN]at H3;have ay:BS r 20 0 (X++M'):=by
   refine hT _ ?_;rcases yd M'.length with h3|h3
   ·rw[nZ h3];exact .nil _
   ·exact .last _ _ h3 ae ⟨by rw[hM];exact hp,hs⟩
  have au:(X++M').length=N:=by rw[co];omega
  generalize X++M'=Y0 at*
  -- blocks that grow
  refine c5 (λd xs h'=>∃(B:Nat) (Y:List Nat),d=N-B∧xs=[iv B]∧0<B∧B≤2097152∧Y.length=N∧BS r B 0 Y∧eJ v P n h' Y∧Fr (blk v) h h') (N-20)
   ⟨20,Y0,rfl,rfl,ae,ae,au,ay,H3,F1.trans F2⟩ ?_
  rintro d xs ρj2 h3 U ⟨B,Y,rfl,rfl,hB,a9,ab,hY,H4,F3⟩ an;simp only[iz,cC,aj];refine ao (λh4=>?_) (λh4=>?_)
  ·rw [mV,aj,show(2:Int)*(B:Int)=((2*B:Nat):Int)by omega,w64 (n:=((2*B:Nat):Int)) ae ae];refine c5 (λd xs h'=>∃(X Z:List Nat),d=Z.length∧xs=[iv X.length,iv (X.length+2*B)]∧X.length+Z.length=N∧(∀T,BS r (2*B) X.length T→BS r (2*B) 0 (X++T))∧BS r B X.length Z∧eJ v P n h' (X++Z)∧Fr (blk v) h h') N
    ⟨[],Y,ab.symm,by simp,by simpa using ab,λT h=>h,hY,H4,F3⟩ ?_
   rintro d xs ρj3 h5 ax ⟨X,Z,rfl,rfl,aa,al,hZ,H5,F5⟩ ar;simp only[iz,zJ,Pw,aj];refine ao (λh6=>?_) (λh6=>?_)
   ·obtain⟨S1,T1,rfl,l1,s1,b1⟩:=hZ.one hB ae;rw[co]at aa;obtain⟨S2,T2,rfl,l2,s2,b2⟩:=b1.one hB ae;rw[co]at aa;rw[dC,aj,vh _ _ ae];refine(Pa C (S1.length+S2.length) (A:=X) (L:=S1) (R:=S2) (D:=T2) (by simpa only[cj]using H5) (a:=X.length) (m:=X.length+B) (b:=X.length+2*B) rfl ae ae ae ae s1.2 s2.2 (λx hx y hy=>by
     have:=s1.mem hx;have:=s2.mem hy;omega) (cf _)).mono λw h7 ⟨S,F,ad,H7,F7⟩=>?_
    have hS:S.length=2*B:=by rw[F.length_eq,co];omega
    have W:(X++S).length=X.length+2*B:=by rw[co,hS]
    rw[dC,aj,vh _ _ ae];refine ar _ h7 T2.length (by simp;omega) ⟨X++S,T2,rfl,by rw[W],by rw[W];omega,λT G=>?_,by rw[W,show X.length+2*B=X.length+B+B by omega];exact b2,H7,F5.trans F7⟩;rw[W]at G;rw[cj];exact al _ (.cons _ S T hS (Srt.join s1 (by rw[l1];exact s2) F ad) G)
   ·rw[dC,aj,vh _ _ ae,cC,aj];have go:∀(Y':List Nat) (h8:ah),Y'.length=N→BS r (2*B) 0 Y'→eJ v P n h8 Y'→Fr (blk v) h h8→vK (ak .i .mul (iv B) (af 2)) λa7=>U [a7] h8:=by
     intro Y' h8 g1 g2 g3 g4;rw[mV,aj,show(B:Int)*2=((2*B:Nat):Int)by omega,w64 (n:=((2*B:Nat):Int)) ae ae];exact an _ h8 (N-2*B) ae ⟨2*B,Y',rfl,rfl,ae,ae,g1,g2,g3,g4⟩
    refine ao (λh8=>?_) (λh8=>?_)
    ·obtain⟨S1,T1,rfl,l1,s1,b1⟩:=hZ.one hB ae;rw[co]at aa;have s2:=b1.short hB ae ae;refine(Pa C (S1.length+T1.length) (A:=X) (L:=S1) (R:=T1) (D:=[]) (by simpa only[cj,fN]using H5) (a:=X.length) (m:=X.length+B) (b:=N) rfl ae ae ae ae s1.2 s2.2 (λx hx y hy=>by
      have:=s1.mem hx;have:=s2.mem hy;omega) (cf _)).mono λw I ⟨S,F,ad,H7,F7⟩=>?_
     have hS:S.length=S1.length+T1.length:=by rw[F.length_eq,co]
     rw[fN]at H7;exact go (X++S) I (by rw[co];omega) (al _ (.last _ S ae ae (Srt.join s1 (by rw[l1];exact s2) F ad))) H7 (F5.trans F7)
    ·refine go (X++Z) h5 (by rw[co];omega) (al _ ?_) H5 F5;rcases yd Z.length with I|I
     ·rw[nZ I];exact .nil _
     ·exact .last _ _ I ae (hZ.short hB ae I)
  ·have:Srt r 0 Y:=by
    rcases yd Y.length with I|I
    ·have:Y=[]:=nZ I;subst this;exact⟨by simp,List.Pairwise.nil⟩
    ·exact hY.short hB ae I
   refine⟨Y,?_,this.2,H4,F3⟩;have hp:=this.1;rw[ab]at hp;rw[TI];exact hp
theorem TZ (C:Lt v f P r n){h:ah}{N:Nat}(H:eJ v P n h (List.range' 0 N))(G:N≤1048576):
  ag prog fD #[v,f] h λ_ h'=>∃S:List Nat,S.Perm (List.range N)∧S.Pairwise (dG r)∧eJ v P n h' S∧Fr (blk v) h h':=by
 apply mQ;unfold iB;have A:=H.own;rw[List.length_range']at A;obtain⟨a,cap,e⟩:=A.isSl;have F:aC v=some (iv N):=by rw[e];rfl
 rw[F,aj];exact zb8 C H G
end
end
abbrev QL:Value:=.int .i64 0
structure Mk3 (n:Nat)(h0:ah)(rows:List Value)(vr:Option (Nat×TypeId×Value))(h:ah):Prop where
 ext:Ext h0 h
 own:∀r∈rows,Own 1 h r n (List.replicate n QL)∧∀b,blk r b→h0.size≤b
 dis:rows.Pairwise λr s=>∀b,blk r b→¬blk s b
 var:∀p,vr=some p→h[p.1]? =some (.cells #[p.2.2] p.2.1 (0,0))∧h0.size≤p.1∧∀r∈rows,¬blk r p.1
theorem Mk3.start (n:Nat)(h:ah):Mk3 n h [] none h:=⟨Ext.refl _,by simp,List.Pairwise.nil,by simp⟩
theorem Mk3.mkr {n:Nat}{h0 h:ah}{rows:List Value}{I:Option (Nat×TypeId×Value)}{t:TypeId}{K:Value→ah→Prop}(M:Mk3 n h0 rows I h)(hn:n≤1048576)
  (H:∀v h',Mk3 n h0 (rows++[v]) I h'→K v h'):mkK QL t 1 8 (af (n:Int)) (af (n:Int)) h K:=by
 refine pF rfl ae ae λv h' o e f=>H v h' ⟨M.ext.trans e,?_,?_,?_⟩
 ·intro r A;rcases cQ.1 A with A|A
  ·exact⟨(M.own r A).1.fr (M:=λ_=>False) e.fr λ_ _=>id,(M.own r A).2⟩
  ·rw[dc.1 A];exact⟨o,λb F=>bB M.ext.1 (f b F)⟩
 ·rw[pN];refine⟨M.dis,by simp,λr A s W b F G=>?_⟩;rw[dc.1 W]at G;have h1:=(M.own r A).1.lt F;have L:=f b G;omega
 ·intro p U;obtain⟨h1,L,h3⟩:=M.var p U;refine⟨e.row h1,L,λr A=>?_⟩;rcases cQ.1 A with A|A
  ·exact h3 r A
  ·rw[dc.1 A];intro F;have:=f _ F;have:=bD h1;omega
theorem Mk3.nw {n:Nat}{h0 h:ah}{rows:List Value}{t:TypeId}{c:Value}{K:Value→ah→Prop}(M:Mk3 n h0 rows none h)
  (H:∀b h',Mk3 n h0 rows (some (b,t,c)) h'→K (.pointer (some ⟨b,0,none⟩)) h'):bh #[c] t h K:=by
 refine aJ λb h' r e f=>H b h' ⟨M.ext.trans e,λs A=>⟨(M.own s A).1.fr (M:=λ_=>False) e.fr λ_ _=>id,(M.own s A).2⟩,M.dis,?_⟩
 rintro p F;cases F;refine⟨r,bB M.ext.1 f,λs A G=>?_⟩;have:=(M.own s A).1.lt G;simp only at this;omega
theorem Mk3.st {n:Nat}{h0 h:ah}{rows:List Value}{t:TypeId}{b:Nat}{c v:Value}{K:Value→ah→Prop}(M:Mk3 n h0 rows (some (b,t,c)) h)(W:v∈rows)
  (H:∀h',Mk3 n h0 rows (some (b,t,v)) h'→K undef h'):stK 1 (.pointer (some ⟨b,0,none⟩)) v h K:=by
 obtain⟨h1,F,G⟩:=M.var _ rfl;simp only at h1 F G;obtain⟨a,cap,e⟩:=(M.own v W).1.isSl;refine ck h1 (by simp) (by rw[e];rfl) λh' r u=>H h' ⟨M.ext.upd F u,?_,M.dis,?_⟩
 ·intro s A;exact⟨(M.own s A).1.fr u.fr λk U L=>G s A (L▸U),(M.own s A).2⟩
 ·rintro p I;cases I;exact⟨by simpa using r,F,G⟩
def zeu (n:Nat)(h0:ah)(xs:List Value)(h:ah):Prop:=
 ∃(x y z:Value) (b:Nat) (t:TypeId),xs=[x,y,.pointer (some ⟨b,0,none⟩)]∧Ext h0 h∧(Own 1 h x n (List.replicate n QL)∧∀b,blk x b→h0.size≤b)∧(Own 1 h y n (List.replicate n QL)∧∀b,blk y b→h0.size≤b)∧
  (Own 1 h z n (List.replicate n QL)∧∀b,blk z b→h0.size≤b)∧(∀b,blk x b→¬blk y b)∧(∀b,blk x b→¬blk z b)∧(∀b,blk y b→¬blk z b)∧
  h[b]? =some (.cells #[z] t (0,0))∧h0.size≤b∧¬blk x b∧¬blk y b∧¬blk z b
theorem Mk3.made {n:Nat}{h0 h:ah}{rows:List Value}{t:TypeId}{b:Nat}{z:Value}(M:Mk3 n h0 rows (some (b,t,z)) h)(i j k:Nat){x y:Value}(F:rows[i]? =some x)(A:rows[j]? =some y)(H:rows[k]? =some z)(h1:i≠j)(h2:i≠k)(h3:j≠k):
  zeu n h0 [x,y,.pointer (some ⟨b,0,none⟩)] h:=by
 obtain⟨v1,v2,I⟩:=M.var _ rfl;simp only at v1 v2 I;have dis:∀(i j:Nat) (x y:Value),rows[i]? =some x→rows[j]? =some y→i≠j→∀b,blk x b→¬blk y b:=by
  intro i j x y F A aa b W G;obtain⟨L,ei⟩:=Mb.1 F;obtain⟨lj,U⟩:=Mb.1 A;rcases pK i j with h|h
  ·have:=wL.1 M.dis i j L lj h b (by rw[ei];exact W);rw[U]at this;exact this G
  ·have:=wL.1 M.dis j i lj L ae b (by rw[U];exact G);rw[ei]at this;exact this W
 exact⟨x,y,z,b,t,rfl,M.ext,M.own x (vA F),M.own y (vA A),M.own z (vA H),dis i j x y F A h1,dis i k x z F H h2,dis j k y z A H h3,v1,v2,I x (vA F),I y (vA A),I z (vA H)⟩
theorem Own.at_map {h:ah}{v:Value}{n:Nat}{g:Nat→Int}(H:Own 1 h v n ((List.range n).map λi=>af (g i))){k:IntKind}{i:Nat}(hi:i<n):
  ∃p,bu 1 v (.int k (i:Int))=some p∧ldV h p=some (af (g i))∧∀(x:Int) (K:Value→ah→Prop),
   (∀h',Own 1 h' v n ((List.range n).map λj=>af (if j=i then x else g j))→Fr (blk v) h h'→K undef h')→stK 1 p (af x) h K:=by
 obtain⟨p,h1,F,G⟩:=Own.at1 H (k:=k) hi;refine⟨p,h1,by rw[F];simp,λx K A=>G _ _ rfl λh' o f _=>A h' ?_ f⟩;rw[FF _ _ _ _ hi]at o;have e:(λj=>if j=i then af x else af (g j))=λj=>af (if j=i then x else g j):=by
  funext j;split<;>rfl
 rw[e]at o;exact o
theorem L2 (n:Nat):List.replicate n QL=(List.range n).map λi=>af ((λ_=>0:Nat→Int) i):=by
 apply rE<;>simp
theorem zaA {h:ah}{a b:Int}:ag prog mL #[af a,af b] h λr h'=>(∃c:Int,r=af c∧(c<0↔a<b))∧h'=h:=by
 have A:∀{x:Int} {h:ah},ag prog lI #[af x] h λr h'=>r=.bool false∧h'=h:=by
  intro x h;apply Gw;unfold wC
  try simp only[go_sem]
  exact⟨by simp,by simp⟩
 apply CZ;unfold tf;refine A.mono λG h1 ⟨F,w1⟩=>?_
 subst F w1;refine A.mono λG h1 ⟨F,w1⟩=>?_
 subst F w1
 try simp only[go_sem]
 refine ao (λh0=>⟨⟨-1,rfl,ae⟩,by first|rfl|trivial⟩) (λh0=>?_);refine ao (λh0=>⟨⟨1,rfl,ae⟩,by first|rfl|trivial⟩) (λh0=>⟨⟨0,rfl,ae⟩,by first|rfl|trivial⟩)
def zes (b:Nat)(t:TypeId)(z:Value)(n:Nat)(r:Nat→Int)(h:ah):Prop:=h[b]? =some (.cells #[z] t (0,0))∧Own 1 h z n ((List.range n).map λi=>Value.int .i64 (r i))
theorem zb2 {v z:Value}{b n:Nat}{t:TypeId}{r:Nat→Int}(h1:¬blk v b)(h2:∀b,blk v b→¬blk z b):Lt v (.func (.func mI) #[] #[.pointer (some ⟨b,0,none⟩)]) (zes b t z n r) r n where
 call:=λ{h a c K} ⟨F,A⟩ I hc H=>by
  rw[clK_2];apply CR;unfold sT;obtain⟨p,U,W,_⟩:=Own.at_map A (k:=.i64) I;obtain⟨q,e3,L,_⟩:=Own.at_map A (k:=.i64) hc;have G:ldV h (.pointer (some ⟨b,0,none⟩))=some z:=by rw[mf,am F];rfl
  refine aS (λh'=>h'=h) rfl ?_;refine aD z (λh' e=>by rw[e];exact G) ?_;simp only[go_sem,e3];refine aD _ (λh' e=>by rw[e];exact L) ?_;refine aD z (λh' e=>by rw[e];exact G) ?_;simp only[go_sem,U];refine aD _ (λh' e=>by rw[e];exact W) ?_;refine zaA.mono λw h' ⟨⟨m,e,hm⟩,hh⟩=>?_
  subst e hh;exact H m hm
 fr:=λ{h h'} ⟨F,A⟩ f=>⟨f.row F h1,A.fr f λk hk hb=>h2 k hb hk⟩
theorem zc2 {l:List Int}{S:List Nat}(G:S.Perm (List.range l.length))(L:S.Pairwise (dG (eG l))){k i:Nat}(I:k<S.length)(hi:i<l.length):(if(my (eG l) l.length i:Int)<((k+1:Nat):Int)then(1:Int)else 0)=if i=S[k]then(if(my (eG l) l.length i:Int)<(k:Int)then(1:Int)else 0)+1 else if(my (eG l) l.length i:Int)<(k:Int)then 1 else 0:=by
 have H:=K9 G L I;have F:S[k]<l.length:=by have:=G.mem_iff.1 (cG I);simpa using this
 by_cases A:i=S[k]
 ·rw[aA A,A,H,aA ae,aq ae];rfl
 ·rw[aq A];have:my (eG l) l.length i≠k:=λe=>A (Ix hi F (e.trans H.symm))
  by_cases h:my (eG l) l.length i<k
  ·rw[aA ae,aA ae]
  ·rw[aq ae,aq ae]
theorem Dt {Z:Nat→Prop}{h:ah}{v:Value}{l:List Int}(H:SlI Z h v l)(U:∀x∈l,I64 x)(hl:l.length<4611686018427387904):
  ag prog kc #[v] h λr h'=>∃u,r=.tuple #[u,af (df l)]∧New (Rp.int .i64) h h' u (cD l):=by
 apply Iy;unfold xu;refine(VJ H U hl).mono λv1 h1 ⟨e1,w1⟩=>?_
 subst e1 w1;obtain⟨a,cap,e⟩:=H.isSl;have e2:aC v=some (af (l.length:Int)):=by rw[e];rfl
 simp only[pW,aj];unfold cD;by_cases hc:¬df l=0
 ·have q:(df l=0)=False:=gm hc;rw[aq hc];simp only[go_sem,q];exact⟨_,rfl,New.nil (Ext.refl _)⟩
 have hc:df l=0:=cq hc;have G:=zbE U hc;have q:(df l=0)=True:=jW hc;rw[aA hc];simp only[go_sem,q];refine(Rx H U hl).mono λv1 h1 ⟨e1,w1⟩=>?_
 subst e1 w1;have hn:=G.len;refine bF (zeu l.length h1) ?_ ?_
 ·refine aS (Ext h1) (Ext.refl _) ?_;refine aD _ (λh' _=>e2) ?_;refine aD _ (λh' _=>e2) ?_;refine aD _ (λh' _=>e2) ?_;have M0:=Mk3.start l.length h1
  repeat' first
   |exact Mk3.ext ‹Mk3 _ _ _ _ _›
   |exact Mk3.made ‹Mk3 _ _ _ _ _› 0 1 2 rfl rfl rfl (by decide) (by decide) (by decide)
   |exact Mk3.made ‹Mk3 _ _ _ _ _› 0 2 1 rfl rfl rfl (by decide) (by decide) (by decide)
   |exact Mk3.made ‹Mk3 _ _ _ _ _› 1 0 2 rfl rfl rfl (by decide) (by decide) (by decide)
   |exact Mk3.made ‹Mk3 _ _ _ _ _› 1 2 0 rfl rfl rfl (by decide) (by decide) (by decide)
   |exact Mk3.made ‹Mk3 _ _ _ _ _› 2 0 1 rfl rfl rfl (by decide) (by decide) (by decide)
   |exact Mk3.made ‹Mk3 _ _ _ _ _› 2 1 0 rfl rfl rfl (by decide) (by decide) (by decide)
   |refine And.intro ?_ ?_
   |refine Mk3.mkr ‹Mk3 _ _ _ _ _› hn λv' h' M=>?_
   |refine Mk3.nw ‹Mk3 _ _ _ _ _› λb' h' M=>?_
   |refine Mk3.st ‹Mk3 _ _ _ _ _› (by simp) λh' M=>?_
 rintro xs ρj L ⟨x,y,z,b,t,rfl,E2,⟨ox,fx⟩,⟨oy,fy⟩,⟨oz,fz⟩,I,ab,W,hb,cc,nx,ny,nz⟩;simp only[iz,zJ,zdj,e2,aj];have s1:=G.sum;have ax:=Uv l
 -- quotients and rests
 refine bK l.length 0 (λk (_:Unit)=>[af (wS l k),af (k:Int)]) (λk _ h'=>Ext h1 h'∧Own 1 h' x l.length ((List.range l.length).map λi=>af (if i<k then gT l i else 0))∧
   Own 1 h' y l.length ((List.range l.length).map λi=>af (if i<k then(i:Int)else 0))∧Own 1 h' z l.length ((List.range l.length).map λi=>af (if i<k then eG l i else 0))∧h'[b]? =some (.cells #[z] t (0,0))) () rfl (b9 _)
  ⟨E2,by rw[L2]at ox;simpa using ox,by rw[L2]at oy;simpa using oy,by rw[L2]at oz;simpa using oz,hb⟩ λk _ h3 again ρj2 _ hk ⟨E3,o1,o2,o3,F⟩ b3=>?_
 try simp only[go_sem]
 refine ao (λh0=>?_) (λh0=>?_)
 ·have A:k<l.length:=ae;have H3:=H.ext E3;obtain⟨p,e3,e4⟩:=H3.int_at (k':=.i64) A;simp only[go_sem,e3,e4];have eg:l.getD k 0=l[k]:=by simp[dA,A]
  have hx:=G.small k;rw[eg]at hx;refine aS (λh'=>h'[b]? =some (.cells #[z] t (0,0))) F ?_;refine aD z (λh' e=>by rw[am e];rfl) ?_;rw[w64 (n:=l[k]*16384) ae ae];refine(MB (by unfold I64;omega) ax).mono λv1 h4 ⟨e5,w5⟩=>?_
  subst e5 w5;refine⟨F,?_⟩;rw[rH (by unfold I64;omega) ae];refine(zcu (by unfold I64;omega) ax ae).mono λv1 h4 ⟨e5,w5⟩=>?_
  subst e5 w5;refine⟨F,?_⟩;have eb:l[k]*16384/nK l=gT l k:=by unfold gT;rw[eg]
  have er:l[k]*16384%nK l=eG l k:=by unfold eG;rw[eg]
  rw[eb,er];obtain⟨px,x1,x2,x3⟩:=Own.at_map o1 (k:=.i64) A;simp only[go_sem,x1];refine x3 _ _ λh5 a8 f5=>?_
  have bg:=o3.fr f5 λc hc hx=>ab c hx hc
  have bo:=o2.fr f5 λc hc hx=>I c hx hc
  have au:=f5.row F nx;refine⟨au,?_⟩;obtain⟨pz,z1,z2,z3⟩:=Own.at_map bg (k:=.i64) A;simp only[go_sem,z1];refine z3 _ _ λh6 bk f6=>?_
  have b1:=bo.fr f6 λc hc hz=>W c hc hz
  have b5:=a8.fr f6 λc hc hz=>ab c hc hz
  have be:=f6.row au nz;obtain⟨py,y1,y2,y3⟩:=Own.at_map b1 (k:=.i64) A;simp only[go_sem,y1];refine y3 _ _ λh7 bd f7=>?_
  have aa:=b5.fr f7 λc hc hy=>I c hc hy
  have b6:=bk.fr f7 λc hc hy=>W c hy hc
  have bv:=f7.row be ny;obtain⟨b8,al,ad,_⟩:=Own.at_map aa (k:=.i64) A;rw[x1]at al;cases al;simp only[cN]at ad;have a7:=zO G k;have cb:=Ot G k;simp only[go_sem,x1,ad];rw[w64 (n:=wS l k-gT l k) ae ae,w64 (n:=(k:Int)+1) ae ae];have E7:Ext h1 h7:=((E3.then_fr f5 fx).then_fr f6 fz).then_fr f7 fy;refine b3 () h7 A ⟨E7,?_,?_,?_,bv⟩
  ·have e:(List.range l.length).map (λj=>af (if j=k then gT l k else if j<k then gT l j else 0))=(List.range l.length).map λi=>af (if i<k+1 then gT l i else 0):=bS λi _=>by
    congr 1
    by_cases h1:i=k
    ·subst h1;simp
    ·rw[aq h1];by_cases L:i<k
     ·rw[aA L,aA ae]
     ·rw[aq L,aq ae]
   rw[←e];exact aa
  ·have e:(List.range l.length).map (λj=>af (if j=k then(k:Int)else if j<k then(j:Int)else 0))=(List.range l.length).map λi=>af (if i<k+1 then(i:Int)else 0):=bS λi _=>by
    congr 1
    by_cases h1:i=k
    ·subst h1;simp
    ·rw[aq h1];by_cases L:i<k
     ·rw[aA L,aA ae]
     ·rw[aq L,aq ae]
   rw[←e];exact bd
  ·have e:(List.range l.length).map (λj=>af (if j=k then eG l k else if j<k then eG l j else 0))=(List.range l.length).map λi=>af (if i<k+1 then eG l i else 0):=bS λi _=>by
    congr 1
    by_cases h1:i=k
    ·subst h1;simp
    ·rw[aq h1];by_cases L:i<k
     ·rw[aA L,aA ae]
     ·rw[aq L,aq ae]
   rw[←e];exact b6
 ·have bc:k=l.length:=ae;subst bc;have o1:Own 1 h3 x l.length ((List.range l.length).map λi=>af (gT l i)):=by
   rw[←bS (g:=λi=>af (if i<l.length then gT l i else 0)) (λi hi=>by rw[aA hi])];exact o1
  have o3:Own 1 h3 z l.length ((List.range l.length).map λi=>af (eG l i)):=by
   rw[←bS (g:=λi=>af (if i<l.length then eG l i else 0)) (λi hi=>by rw[aA hi])];exact o3
  have o2:Own 1 h3 y (List.range' 0 l.length).length ((List.range' 0 l.length).map iv):=by
   rw[List.length_range',←TI,←bS (g:=λi=>af (if i<l.length then(i:Int)else 0)) (λi hi=>by rw[aA hi])];exact o2
  have IX:eJ y (zes b t z l.length (eG l)) l.length h3 (List.range' 0 l.length):=⟨o2,⟨F,o3⟩,by simpa using hl,λi hi=>by simpa using hi⟩
  refine(TZ (zb2 ny W) IX hn).mono λw h4 ⟨S,hp,hs,b2,f4⟩=>?_
  obtain⟨L0,L1⟩:=left_bd G;obtain⟨m,hm⟩:∃m:Nat,zG l=(m:Int):=⟨(zG l).toNat,ae⟩
  have ca:S.length=l.length:=by rw[hp.length_eq];simp
  obtain⟨v',q1,q2,q3⟩:=QQ 1 b2.own (k:=.i64) (hi:=m) ae;have o1:=o1.fr f4 λc hc hy=>I c hc hy
  have b0:wS l l.length=(m:Int):=hm;rw[b0,q1,aj];obtain⟨a',b7,e'⟩:=q2.isSl;have a9:aC v'=some (af (m:Int)):=by rw[e'];rfl
  rw[a9,aj];refine bK m 0 (λk (_:Unit)=>[af (k:Int)]) (λk _ h'=>Ext h1 h'∧Own 1 h' x l.length ((List.range l.length).map λi=>af (gT l i+(if(my (eG l) l.length i:Int)<(k:Int)then 1 else 0)))∧Fr (blk x) h4 h') () rfl (b9 _)
   ⟨E3.then_fr f4 fy,by
    rw[bS (f:=λi=>af (gT l i)) (λi hi=>by rw[aq ae,Int.add_zero])];exact o1,Fr.refl _ _⟩ λk _ h5 ay ρj5 _ hk ⟨E5,o5,f5⟩ ar=>?_
  try simp only[go_sem]
  refine ao (λh6=>?_) (λh6=>?_)
  ·have A:k<m:=ae;have q5:=q2.fr f5 λc _ hc hx=>I c hx (q3 c hc)
   obtain⟨p,p1,p2⟩:=q5.at1 (k:=.i64) A;have an:k<S.length:=ae;have p2:ldV h5 p=some (iv S[k]):=by
    rw[p2];simp
   have b4:S[k]<l.length:=by have:=hp.mem_iff.1 (cG an);simpa using this
   obtain⟨px,x1,x2,x3⟩:=Own.at_map o5 (k:=.i64) b4;simp only[go_sem,p1,p2,x1,x2];have a7:=zO G S[k];rw[w64 (n:=gT l S[k]+(if(my (eG l) l.length S[k]:Int)<(k:Int)then 1 else 0)+1) (by split<;>omega) (by split<;>omega)];refine x3 _ _ λh7 o7 f7=>?_
   rw[w64 (n:=(k:Int)+1) ae ae];refine ar () h7 A ⟨E5.then_fr f7 fx,?_,f5.trans f7⟩;rw[bS (f:=λj=>af (if j=S[k]then gT l S[k]+(if(my (eG l) l.length S[k]:Int)<(k:Int)then 1 else 0)+1 else gT l j+if(my (eG l) l.length j:Int)<(k:Int)then 1 else 0)) (λi hi=>by
    rw[zc2 hp hs an hi]
    congr 1
    by_cases he:i=S[k]
    ·rw[aA he,aA he,←he];omega
    ·rw[aq he,aq he])]
   exact o7
  ·have:k=m:=ae;subst this;refine⟨x,by rw[hc],⟨(nJ l).map λn=>af n,?_,λc _=>id,λi hi=>?_⟩,E5,fx⟩
   ·rw[ri];unfold nJ;rw[yg];simp only[←hm]at o5;exact o5
   ·have e:Rp.el (Rp.int .i64).w ((nJ l).map λn=>af n) i=[af (nJ l)[i]]:=by
     have:=Rp.el_one (ds:=(nJ l).map λn=>af n) (i:=i) (by simpa using hi);rw[dX]at this;exact this
    exact e
theorem zaB {h:ah}{x y:Nat}(F:x<18446744073709551616)(A:y<18446744073709551616):
  ag prog uG #[.int .u64 (x:Int),.int .u64 (y:Int)] h λr h'=>r=.tuple #[.int .u64 ((x*y/18446744073709551616:Nat):Int),.int .u64 ((x*y%18446744073709551616:Nat):Int)]∧h'=h:=by
 apply Kr;unfold zn;rw[cA];refine(Uc F A).mono λv h1 ⟨e,w⟩=>?_
 subst e w
 try simp only[go_sem]
 exact⟨by simp,by simp⟩
theorem za9 (n:Nat)(x:Int):List.replicate n (af x)=(List.replicate n x).map λn=>af n:=by simp
theorem Yi {k:IntKind}{h:ah}{v:Value}{l:List Int}(H:Own 1 h v l.length (l.map λn=>Value.int k n)):Rp.Ow (Rp.int k) (λ_=>False) h v l:=
 ⟨l.map λn=>Value.int k n,H,λc _=>id,λi hi=>by
  have:=Rp.el_one (ds:=l.map λn=>Value.int k n) (i:=i) (by simpa using hi);rw[dX]at this;exact this⟩
theorem zaF {Z:Nat→Prop}{h:ah}{v:Value}{x:Int}{n:Nat}(H:SlI Z h v [x])(hn:1≤n)(au:n≤4096):
  ag prog gy #[v,af (n:Int)] h λr h'=>New (Rp.int .i64) h h' r (List.replicate n x):=by
 apply qF;unfold jG;have G:((n:Int)<0)=False:=gm ae;simp only[go_sem,G];refine bF (λ_ h'=>h'=h) rfl λL ρj h' e=>?_
 subst e;obtain⟨ds,hs,hz,he⟩:=H;have W:=hs.1;have hd:ds=[af x]:=by
  have h1:=he 0 (by simp);have ad:ds.length=1:=by simpa[Rp.int]using W
  obtain⟨d,rfl⟩:=Tq.1 ad;exact h1
 subst hd;obtain⟨a,cap,ev⟩:=hs.isSl;have e2:aC v=some (af ((1:Nat):Int)):=by rw[ev];rfl
 simp only[go_sem,e2];rw[gF ae,gF (m:=n) ae];refine(zaB (x:=1) (y:=n) ae ae).mono λw h1 ⟨e,hh⟩=>?_
 subst e hh
 try simp only[go_sem]
 rw[show 1*n/18446744073709551616=0 by omega,show 1*n%18446744073709551616=n by omega];refine bF (λ_ h'=>h'=h1) ?_ λL ρj2 h2 e=>?_
 ·refine ao (λh0=>absurd h0 ae) (λ_=>rfl)
 subst e
 try simp only[go_sem]
 rw[w64 (n:=(n:Int)) ae ae];refine pF rfl ae ae λu h3 o e f=>?_
 have al:SlC 1 h3 v 1 [af x]:=hs.ext e;refine JL o al (by simp[aV]) λh4 o4 f4 z4=>?_
 have E4:Ext h2 h4:=e.then_fr f4 f;have F:Nat.min 1 n=1:=vx hn;rw[F];obtain⟨a2,an,eu⟩:=o4.isSl;have e3:aC u=some (af (n:Int)):=by rw[eu];rfl
 have st:Own 1 h4 u n (List.replicate 1 (af x)++List.replicate (n-1) ai):=by
  have e:[af x].take n++(List.replicate n (af 0)).drop 1=List.replicate 1 (af x)++List.replicate (n-1) ai:=by
   rw[fB (by simpa using hn),Yw];rfl
  rw[←e];exact o4
 refine c5 (λd L h'=>∃m:Nat,d=n-m∧L=[af (m:Int)]∧1≤m∧m≤n∧Ext h2 h'∧Own 1 h' u n (List.replicate m (af x)++List.replicate (n-m) ai)) (n-1) ⟨1,rfl,rfl,cf _,hn,E4,st⟩ ?_;rintro d L ρj3 h5 again ⟨m,rfl,rfl,ar,ab,E5,U⟩ aa;simp only[iz,e3,aj,cC];refine ao (λh0=>?_) (λh0=>?_)
 ·refine aS (λh'=>h'=h5) rfl ?_;obtain⟨w,w1,I,w3⟩:=QQ 1 U (k:=.i64) (hi:=m) ab;have I:SlC 1 h5 w m (List.replicate m (af x)):=by
   have e:(List.replicate m (af x)++List.replicate (n-m) (af 0)).take (m*1)=List.replicate m (af x):=by
    rw[lN,TF (by simp),fB (by simp)]
   rw[e]at I;exact I
  obtain⟨d,d1,d2⟩:=zbZ U (show m<n by omega) I (λy hy=>by rw[(Ma.1 hy).2];rfl) (kk:=.i64);rw[d1,aj,w1,aj];refine d2 _ λh6 o6 f6=>?_
  have A:Nat.min m (n-m)=min m (n-m):=rfl;rw[A,dC,aj,w64 ae ae,show(m:Int)+((min m (n-m):Nat):Int)=((m+min m (n-m):Nat):Int)by omega];refine aa _ h6 (n-(m+min m (n-m))) ae ⟨m+min m (n-m),rfl,rfl,ae,ae,E5.then_fr f6 f,?_⟩;have e:(List.replicate m (af x)++List.replicate (n-m) (af 0)).take m++(List.replicate m (af x)).take (n-m)++(List.replicate m (af x)++List.replicate (n-m) (af 0)).drop (m+m)
    =List.replicate (m+min m (n-m)) (af x)++List.replicate (n-(m+min m (n-m))) ai:=by
   rw[TF (by simp),fB (by simp),List.take_replicate,TE,rC (by simp),fX,Yw,pM,List.replicate_append_replicate,Nat.min_comm]
   congr 2;omega
  rw[←e];exact o6
 ·have:m=n:=ae;subst this;refine⟨Yi ?_,E5,f⟩;rw[pM,←za9];simpa using U
def vE (r:Int):Prop:=r<0∨511<r
instance (r:Int):Decidable (vE r):=by unfold vE;infer_instance
def RN (r:Int):Int:=if vE r then 7 else BL (List.replicate (2*r+1).toNat 1)
def zN (r:Int):List Int:=if vE r then[]else sP (List.replicate (2*r+1).toNat 1)
theorem RM (r:Int):∀x∈zN r,I64 x:=by
 unfold zN;split
 ·simp
 ·exact JX _
theorem zfo {h:ah}{r:Int}(hr:I64 r):ag prog Dz #[af r] h λw h'=>∃u,w=.tuple #[u,af (RN r)]∧New (Rp.int .i64) h h' u (zN r):=by
 apply So;unfold Hs
 try simp only[go_sem]
 unfold RN zN;refine ao (λh0=>?_) (λh0=>?_)
 ·have:vE r:=h0;rw[aA this,aA this];exact⟨_,rfl,New.nil (Ext.refl _)⟩
 ·have A:¬vE r:=h0;rw[aq A,aq A];refine di (Rp.fill_one rfl) λb h1 r1 G n1=>?_
  rw[w64 (n:=2*r) ae ae]
  try simp only[go_sem]
  rw[w64 (n:=2*r+1) ae ae];have L:SlI (λ_=>True) h1 (.slice (some ⟨b,0,none⟩) 1 1) [1]:=⟨[af 1],Rp.SlC.single (cs:=[af 1]) r1,λ_ _ _=>trivial,λi hi=>by
   have:i=0:=by simpa using hi
   subst this;rfl⟩
  obtain⟨N,I⟩:∃N:Nat,N=(2*r+1).toNat:=⟨_,rfl⟩
  rw[←I,show 2*r+1=(N:Int)by omega];refine(zaF L (n:=N) ae ae).mono λv W F=>?_
  refine(GT F.sl (λx U=>by rw[(Ma.1 U).2];unfold I64;omega) (by rw[pM];omega)).mono λw h3 ⟨u,e,H⟩=>?_
  subst e
  try simp only[go_sem]
  exact⟨u,rfl,H.before (G.trans F.2.1)⟩
end Go.Proofs.YtjljhnandbbldaaGreatDoor
namespace Go.Crisp
open Go
theorem ia (c:Array Value):aQ c []=some c:=rfl
theorem AD {a b x y:Value}(A:aV a=true)(F:aV b=true):aQ #[x,y] [(0,1,a),(1,1,b)]=some #[a,b]:=by
 simp only[aQ,cI A,cI F];rfl
theorem YZ {a x y z w:Value}(A:aV a=true):aQ #[x,y,z,w] [(0,1,a)]=some #[a,y,z,w]:=by
 simp only[aQ,cI A];rfl
def cJ (ls:List (Int×List Int)):Int:=ls.foldl (λm x=>max m (x.2.length:Int)) 0
def MM (ls:List (Int×List Int)):Int:=ls.foldl (λm x=>max m (nN x.2)) 0
theorem GA (ls:List (Int×List Int))(x:Int×List Int):cJ (ls++[x])=max (cJ ls) (x.2.length:Int):=by unfold cJ;rw[D5];rfl
theorem Wy (ls:List (Int×List Int))(x:Int×List Int):MM (ls++[x])=max (MM ls) (nN x.2):=by unfold MM;rw[D5];rfl
def mP:Rp (Int×List Int) where
 w:=2
 R:=λZ h cs x=>∃v,cs=[.int .i64 x.1,v]∧Rp.Sl (Rp.int .i64) Z h v x.2
 len:=by rintro _ _ _ _ ⟨v,rfl,_⟩;rfl
 one:=by
  rintro _ _ _ _ ⟨v,rfl,H⟩ u hu;rcases List.mem_cons.1 hu with rfl|hu
  ·rfl
  ·rw[List.mem_singleton.1 hu];exact H.one
 fr:=by rintro _ _ _ _ _ _ ⟨v,rfl,H⟩ f q;exact⟨v,rfl,H.fr f q⟩
 mono:=by rintro _ _ _ _ _ ⟨v,rfl,H⟩ q;exact⟨v,rfl,H.mono q⟩
def zcJ (v:Value):Prop:=∃a n c,v=.slice a n c∧n≤c
theorem Rp.Ow.cap {α:Type}{e:Rp α}{Z:Nat→Prop}{h:ah}{v:Value}{l:List α}(H:Rp.Ow e Z h v l):zcJ v:=by
 obtain⟨ds,o,_⟩:=H;rcases o with⟨rfl,_,_⟩|⟨b,cap,r,e,rfl,hc,_⟩
 ·exact⟨_,_,_,rfl,cf _⟩
 ·exact⟨_,_,_,rfl,hc⟩
structure Tbl where
 n:Int
 lines:List (Int×List Int)
def rTbl:Rp Tbl where
 w:=4
 R:=λZ h cs t=>∃lv,cs=[.int .i64 t.n,lv,.int .i64 (cJ t.lines),.int .i64 (MM t.lines)]∧Rp.Sl mP Z h lv t.lines∧zcJ lv
 len:=by rintro _ _ _ _ ⟨v,rfl,_⟩;rfl
 one:=by
  rintro _ _ _ _ ⟨v,rfl,H,_⟩;exact az rfl (az H.one (az rfl (az rfl bi)))
 fr:=by rintro _ _ _ _ _ _ ⟨v,rfl,H,c⟩ f q;exact⟨v,rfl,H.fr f q,c⟩
 mono:=by rintro _ _ _ _ _ ⟨v,rfl,H,c⟩ q;exact⟨v,rfl,H.mono q,c⟩
abbrev gi (Z:Nat→Prop)(h:ah)(p:Value)(t:Tbl):Prop:=Rp.Pt rTbl Z h p t
theorem gi.open {Z:Nat→Prop}{h:ah}{p:Value}{t:Tbl}(H:gi Z h p t):∃b lv,p=.pointer (some ⟨b,0,none⟩)∧aH h ⟨b,0,none⟩=some (af t.n)∧aH h ⟨b,1,none⟩=some lv∧aH h ⟨b,2,none⟩=some (af (cJ t.lines))∧
  aH h ⟨b,3,none⟩=some (af (MM t.lines))∧Rp.Sl mP Z h lv t.lines∧Z b∧b<h.size∧zcJ lv:=by
 obtain⟨b,ds,ty,rfl,r,F,lv,rfl,A,hc⟩:=H;exact⟨b,lv,rfl,am r,am r,am r,am r,A,F,bD r,hc⟩
structure FQ (h0:ah)(Z:Nat→Prop)(h:ah)(b:Nat)(ty:TypeId)(lv:Value)(n:Int)(ls:List (Int×List Int)):Prop where
 ext:Ext h0 h
 row:h[b]? =some (.cells #[.int .i64 n,lv,.int .i64 (cJ ls),.int .i64 (MM ls)] ty (0,0))
 ow:Rp.Ow mP Z h lv ls
 nb:h0.size≤b
 nl:∀c,blk lv c→h0.size≤c
 zb:¬Z b
 lb:¬blk lv b
 zf:∀c,Z c→h0.size≤c∧c<h.size
theorem FQ.more {h0 h:ah}{Z Z':Nat→Prop}{b:Nat}{ty:TypeId}{lv:Value}{n:Int}{ls:List (Int×List Int)}{h':ah}(T:FQ h0 Z h b ty lv n ls)(e:Ext h h')(q:∀c,Z c→Z' c)(F:∀c,Z' c→¬Z c→h.size≤c∧c<h'.size):FQ h0 Z' h' b ty lv n ls where
 ext:=T.ext.trans e
 row:=e.row T.row
 ow:=(T.ow.ext e).mono (λc _ A=>q c A) λc hc A=>by
  by_cases h1:Z c
  ·obtain⟨ds,_,G,_⟩:=T.ow;exact G c hc h1
  ·have:=F c A h1;have:=T.ow.lt hc;omega
 nb:=T.nb
 nl:=T.nl
 zb:=λA=>by
  by_cases h1:Z b
  ·exact T.zb h1
  ·have:=F b A h1;have:=bD T.row;omega
 lb:=T.lb
 zf:=λc A=>by
  by_cases h1:Z c
  ·have:=T.zf c h1;have:=e.1;omega
  ·have:=F c A h1;have:=T.ext.1;omega
theorem FQ.done {h0 h:ah}{Z:Nat→Prop}{b:Nat}{ty:TypeId}{lv:Value}{n:Int}{ls:List (Int×List Int)}(T:FQ h0 Z h b ty lv n ls):gi (λc=>h0.size≤c∧c<h.size) h (.pointer (some ⟨b,0,none⟩)) ⟨n,ls⟩:=
 ⟨b,[_,_,_,_],ty,rfl,T.row,⟨T.nb,bD T.row⟩,lv,rfl,T.ow.sl.mono λc _ hc=>by
  rcases hc with hc|hc
  ·exact T.zf c hc
  ·exact⟨T.nl c hc,T.ow.lt hc⟩,T.ow.cap⟩
end Go.Crisp
namespace Go.Proofs.YtjljhnandbbldaaGreatDoor
open Go Go.Crisp
attribute [local irreducible] ag du bh stK aE vK qK bO gK fR bA mkK dy GQ IQ DT bsK clK
open _root_.Go.Proofs.Tryz
theorem Dl {h:ah}{n:Int}:ag prog qe #[af n] h λr h'=>r=.bool (decide (1≤n∧n≤65536))∧h'=h:=by
 apply PY;unfold EU
 try simp only[go_sem]
 exact⟨by simp,by simp⟩
theorem O9 {h0 h:ah}{Z:Nat→Prop}{b:Nat}{ty:TypeId}{lv u:Value}{n first:Int}{ls:List (Int×List Int)}{l:List Int}(T:FQ h0 Z h b ty lv n ls)(H:SlI Z h u l)(aa:∀x∈l,I64 x)(hl:l.length<1048577)(ab:ls.length≤65536):
  ag prog lF #[.pointer (some ⟨b,0,none⟩),af first,u] h λ_ h'=>∃F,FQ h0 Z h' b ty F n (ls++[(first,l)])∧Fr (λc=>c=b∨blk lv c) h h':=by
 apply Gh;unfold vX;have c1:aH h ⟨b,1,none⟩=some lv:=am T.row;obtain⟨au,cu,eu⟩:=H.isSl;have W:aC u=some (af (l.length:Int)):=by rw[eu];rfl
 simp only[go_sem,c1,AD (a:=af first) (b:=u) rfl H.one,cR];refine Rp.push_ow (e:=mP) (cs:=[af first,u]) (x:=(first,l)) T.ow ⟨u,rfl,H⟩ rfl rfl ae ae (λc hc=>(T.zf c hc).2) λF h1 o1 f1 n1=>?_
 have r1:=f1.row T.row T.lb;have I:¬blk F b:=λhb=>by
  rcases n1 b hb with A|A
  ·exact T.lb A
  ·have:=bD T.row;omega
 obtain⟨al,cl,el⟩:=o1.isSl
 try simp only[go_sem]
 refine ck r1 (by simp) (by rw[el];rfl) λA r2 u2=>?_
 have c2:aH A ⟨b,2,none⟩=some (af (cJ ls)):=am r2;simp only[go_sem,c2,W];refine ck r2 (by simp) rfl λL r3 u3=>?_
 have c3:aH L ⟨b,3,none⟩=some (af (MM ls)):=am r3;refine aS (λh'=>h'=L) rfl ?_
 try simp only[go_sem]
 refine aD _ (λh' e=>by rw[e];exact c3) ?_;have F3:Fr (λc=>c=b∨blk lv c) h L:=((f1.mono λc _ hc=>.inr hc).trans (u2.fr.mono λc _ hc=>.inl hc)).trans (u3.fr.mono λc _ hc=>.inl hc);have H3:SlI Z L u l:=H.fr F3 λc hc G hm=>by
  rcases hm with rfl|hm
  ·exact T.zb G
  ·obtain⟨ds,_,A,_⟩:=T.ow;exact A c hm G
 refine(Lm H3 aa ae).mono λw h4 ⟨e4,w4⟩=>?_
 subst e4 w4;refine⟨rfl,?_⟩;refine aD _ (λh' _=>Oi _ _ _) ?_;refine ck r3 (by simp) rfl λh5 r5 u5=>?_
 have F5:=F3.trans (u5.fr.mono (M':=λc=>c=b∨blk lv c) λc _ hc=>.inl hc);refine⟨F,⟨?_,?_,?_,T.nb,?_,T.zb,I,?_⟩,F5⟩
 ·exact T.ext.then_fr F5 λc hc=>by
   rcases hc with rfl|hc
   ·exact T.nb
   ·exact T.nl c hc
 ·rw[GA,Wy];simpa using r5
 ·have g:Fr (λc=>c=b) h1 h5:=(u2.fr.trans u3.fr).trans u5.fr;exact o1.fr g (λc _ G U=>T.zb (U▸G)) λc hc U=>I (U▸hc)
 ·intro c hc;rcases n1 c hc with A|A
  ·exact T.nl c A
  ·exact bB T.ext.1 A
 ·intro c G;have:=T.zf c G;have:=F5.1;omega
end Go.Proofs.YtjljhnandbbldaaGreatDoor
namespace Go.Proofs.YtjljhnandbbldaaGreatDoor
open Go Go.Crisp
attribute [local irreducible] ag du bh stK aE vK qK bO gK fR bA mkK dy GQ IQ DT bsK
open _root_.Go.Proofs.Tryz
abbrev Two (h:ah)(b:Nat)(t:TypeId)(x y:Value):Prop:=h[b]? =some (.cells #[x,y] t (0,0))
theorem Two.a {h:ah}{b:Nat}{t:TypeId}{x y:Value}(r:Two h b t x y):aH h ⟨b,0,none⟩=some x:=am r
theorem Two.b {h:ah}{b:Nat}{t:TypeId}{x y:Value}(r:Two h b t x y):aH h ⟨b,1,none⟩=some y:=am r
theorem Two.all {h:ah}{b:Nat}{t:TypeId}{x y:Value}(r:Two h b t x y):aR 2 h (.pointer (some ⟨b,0,none⟩))=some (.agg #[x,y]):=aW (l:=[x,y]) r 2 rfl
abbrev Big (h:ah)(b:Nat)(t:TypeId)(n:Nat):Prop:=Two h b t (.int .u64 ((n/18446744073709551616:Nat):Int)) (.int .u64 ((n%18446744073709551616:Nat):Int))
theorem Big.all {h:ah}{b:Nat}{t:TypeId}{n:Nat}(r:Big h b t n):aR 2 h (.pointer (some ⟨b,0,none⟩))=some (pX n):=Two.all r
theorem iM (n:Nat):Value.cells (pX n)=#[.int .u64 ((n/18446744073709551616:Nat):Int),.int .u64 ((n%18446744073709551616:Nat):Int)]:=rfl
theorem DW {n:Nat}(h:n<18446744073709551616):pX n=.agg #[.int .u64 0,.int .u64 (n:Int)]:=by
 unfold pX;rw[ul h,wO h];rfl
theorem DL:pX 0=.agg #[.int .u64 0,.int .u64 0]:=rfl
theorem zv:pX 1=.agg #[.int .u64 0,.int .u64 1]:=rfl
theorem jy {t:TypeId}{b:Nat}{h:ah}{x y:Value}{n:Nat}{K:Value→ah→Prop}(r:Two h b t x y)(A:∀h',Big h' b t n→Upd b h h'→K undef h'):stK 2 (.pointer (some ⟨b,0,none⟩)) (pX n) h K:=
 da (l:=[.int .u64 ((n/18446744073709551616:Nat):Int),.int .u64 ((n%18446744073709551616:Nat):Int)]) r rfl (az rfl (az rfl bi)) rfl A
theorem ll {t:TypeId}{h:ah}{n:Nat}{K:Value→ah→Prop}(H:∀b h',Big h' b t n→Ext h h'→h.size≤b→K (.pointer (some ⟨b,0,none⟩)) h'):bh #[.int .u64 0,.int .u64 0] t h λv F=>stK 2 v (pX n) F λ_ A=>K v A:=
 dh (cs:=[.int .u64 ((n/18446744073709551616:Nat):Int),.int .u64 ((n%18446744073709551616:Nat):Int)]) rfl (az rfl (az rfl bi)) rfl H
theorem lB {a b x y:Int}:aQ #[(.int .u64 x),(.int .u64 y)] [(0,1,(.int .u64 a)),(1,1,(.int .u64 b))]=some #[.int .u64 a,.int .u64 b]:=AD rfl rfl
theorem zdw {b x y:Int}:aQ #[(.int .u64 x),(.int .u64 y)] [(1,1,(.int .u64 b))]=some #[.int .u64 x,.int .u64 b]:=by
 simp only[aQ,cI (v:=.int .u64 b) rfl];rfl
theorem bJ (c:Array Value):(some c).map Value.agg=some (.agg c):=rfl
theorem JP {n:Nat}{x y:Int}(F:x=((n/18446744073709551616:Nat):Int))(A:y=((n%18446744073709551616:Nat):Int)):(Value.agg #[.int .u64 x,.int .u64 y])=pX n:=by rw[F,A];rfl
theorem oJ {h:ah}{n bit:Nat}(U:bit≤1)(hn:2*n+bit<340282366920938463463374607431768211456):
  ag prog fT #[pX n,.int .u64 (bit:Int)] h λr h'=>r=pX (2*n+bit)∧Ext h h':=by
 apply Nv;unfold BX;rw[iM];refine aJ λb1 h1 r1 A n1=>?_
 refine aJ λL W r2 F H=>?_
 have r1:=F.row r1;simp only[go_sem,Two.a r1,Two.b r1];rw[show(1:Int)=((1:Nat):Int)from rfl,show(63:Int)=((63:Nat):Int)from rfl,xt _ ae,aj,nr _ ae,aj,dC,aj,xt _ ae,aj,dC,aj,lB,bJ,aj];rw[JP (n:=2*n+bit) (by rw[fJ];omega) (by rw[fJ];omega)];refine jy r2 λh3 I G=>?_
 rw[I.all,aj];exact⟨rfl,(A.trans F).upd (bB A.1 H) G⟩
theorem Do {h:ah}{m n:Nat}(hn:m+n<340282366920938463463374607431768211456):
  ag prog jl #[pX m,pX n] h λr h'=>r=pX (m+n)∧Ext h h':=by
 apply Qg;unfold Fl;rw[iM,iM];refine aJ λb1 h1 r1 I n1=>?_
 refine aJ λb2 h2 r2 G n2=>?_
 refine aJ λb3 h3 A H n3=>?_
 have r1:=(G.trans H).row r1;have r2:=H.row r2;have l3:=bD A;simp only[go_sem,Two.a r1,Two.b r1,Two.a r2,Two.b r2];rw[lB,bJ,aj];refine aJ λL h4 r4 e4 n4=>?_
 refine da (l:=[_,_]) r4 rfl (az rfl (az rfl bi)) rfl λh5 F u5=>?_
 have U:=e4.upd n4 u5;have r1:=U.row r1;have A:=U.row A;simp only[fJ]at F;simp only[go_sem,Two.a F,Two.b F,Two.b r1,fJ];have e0:=I.trans (G.trans (H.trans U));have k3:h.size≤b3:=bB (I.trans G).1 n3;have k4:h.size≤L:=bB (I.trans (G.trans H)).1 n4;have W:b3≠L:=ae;refine ao (λhc=>?_) (λhc=>?_)
 ·refine ck F (by simp) rfl λh6 r6 u6=>?_
  have A:=u6.row W A;have r6:Two h6 L _ (.int .u64 _) (.int .u64 _):=r6;rw[Two.all r6,aj];rw[JP (n:=m+n) ae ae];refine jy A λh7 r7 u7=>?_
  rw[r7.all,aj];exact⟨rfl,(e0.upd k4 u6).upd k3 u7⟩
 ·rw[Two.all F,aj];rw[JP (n:=m+n) ae ae];refine jy A λh7 r7 u7=>?_
  rw[r7.all,aj];exact⟨rfl,e0.upd k3 u7⟩
theorem RB {h:ah}{m n:Nat}(hm:m<340282366920938463463374607431768211456)(hn:n≤m):
  ag prog sG #[pX m,pX n] h λr h'=>r=pX (m-n)∧Ext h h':=by
 apply Nz;unfold B5;rw[iM,iM];refine aJ λb1 h1 r1 L n1=>?_
 refine aJ λb2 h2 r2 G n2=>?_
 refine aJ λb3 h3 A I n3=>?_
 have r1:=(G.trans I).row r1;have r2:=I.row r2;have l3:=bD A;simp only[go_sem,Two.a r1,Two.b r1,Two.a r2,Two.b r2];rw[lB,bJ,aj];refine aJ λU h4 r4 e4 n4=>?_
 refine da (l:=[_,_]) r4 rfl (az rfl (az rfl bi)) rfl λh5 F u5=>?_
 have H:=e4.upd n4 u5;have r1:=H.row r1;have r2:=H.row r2;have A:=H.row A;simp only[fJ]at F;simp only[go_sem,Two.a F,Two.b F,Two.b r1,Two.b r2,fJ];have e0:=L.trans (G.trans (I.trans H));have k3:h.size≤b3:=bB (L.trans G).1 n3;have k4:h.size≤U:=bB (L.trans (G.trans I)).1 n4;have W:b3≠U:=ae;refine ao (λhc=>?_) (λhc=>?_)
 ·refine ck F (by simp) rfl λh6 r6 u6=>?_
  have A:=u6.row W A;have r6:Two h6 U _ (.int .u64 _) (.int .u64 _):=r6;rw[Two.all r6,aj];rw[JP (n:=m-n) ae ae];refine jy A λh7 r7 u7=>?_
  rw[r7.all,aj];exact⟨rfl,(e0.upd k4 u6).upd k3 u7⟩
 ·rw[Two.all F,aj];rw[JP (n:=m-n) ae ae];refine jy A λh7 r7 u7=>?_
  rw[r7.all,aj];exact⟨rfl,e0.upd k3 u7⟩
theorem Dp {h:ah}{m n:Nat}:ag prog kD #[pX m,pX n] h λr h'=>r=.bool (decide (m<n))∧Ext h h':=by
 apply Qi;unfold Fo;rw[iM,iM];refine aJ λI h1 r1 F G=>?_
 refine aJ λL U r2 A H=>?_
 have r1:=A.row r1;simp only[go_sem,Two.a r1,Two.b r1,Two.a r2,Two.b r2];refine ao (λhc=>?_) (λhc=>?_)
 ·exact⟨by congr 1;exact ir.2 ae,F.trans A⟩
 ·exact⟨by congr 1;exact ir.2 ae,F.trans A⟩
theorem KO {a:Nat}(A:a<18446744073709551616):ak .i .and (.int .u64 (a:Int)) (.int .u64 1)=some (.int .u64 ((a%2:Nat):Int)):=by
 have:=Ug A (b:=1) ae;rw[Jn]at this;exact this
theorem En {h:ah}{m i:Nat}(I:m<340282366920938463463374607431768211456)(hi:i<128):ag prog jm #[pX m,af (i:Int)] h λr h'=>r=.int .u64 ((m/2^i%2:Nat):Int)∧Ext h h':=by
 apply SF;unfold HV;rw[iM];refine aJ λU h1 r1 F L=>?_
 simp only[go_sem,Two.a r1,Two.b r1];refine ao (λhc=>?_) (λhc=>?_)
 ·rw[w64 (n:=(i:Int)-64) ae ae,show(i:Int)-64=((i-64:Nat):Int)by omega,nr _ ae,aj];rw[KO (um (jX _ _) ae),aj];refine⟨?_,F⟩;have e:m/2^i=m/18446744073709551616/2^(i-64):=by
   rw[Jk,show(18446744073709551616:Nat)=2^64 from rfl,←wM,show 64+(i-64)=i by omega]
  rw[e]
 ·rw [nr _ ae,aj];rw[KO (um (jX _ _) (iy _ ae)),aj];refine⟨?_,F⟩;have G:(0:Nat)<2^i:=xX ae;have A:(18446744073709551616:Nat)=2^i*(2*2^(63-i)):=by rw[←To,←wM,show i+(63-i+1)=64 by omega]
  have F:m/2^i=m/18446744073709551616*(2*2^(63-i))+m%18446744073709551616/2^i:=by
   have e:=nV m 18446744073709551616;have H:m=m%18446744073709551616+2^i*(m/18446744073709551616*(2*2^(63-i))):=by
    have:2^i*(m/18446744073709551616*(2*2^(63-i)))=18446744073709551616*(m/18446744073709551616):=by
     conv=>rhs;rw[A]
     rw[Ea,fu,←A]
    rw[this];omega
   conv=>lhs;rw[H]
   rw[Ji _ _ G,Ec]
  rw[F,Ea,L9]
theorem tQ {h:ah}{x:Int}(A:I64 x):ag prog gH #[af x] h λr h'=>r=.int .u64 (x.natAbs:Int)∧h'=h:=by
 apply Qf;unfold Fk;simp only[go_sem,fJ,jw];unfold I64 at A;refine ao (λh0=>?_) (λh0=>?_)
 ·exact⟨by congr 1;omega,trivial⟩
 ·exact⟨by congr 1;omega,trivial⟩
theorem pT {h:ah}{m:Nat}{b:Bool}(F:m<340282366920938463463374607431768211456):ag prog ed #[pX m,.bool b] h λr h'=>r=af (ko m b)∧Ext h h':=by
 apply Qj;unfold Fp;rw[iM];refine aJ λH h1 r1 A G=>?_
 unfold ko;cases b
 ·simp only[go_sem,Two.a r1,Two.b r1,gO,cH];refine ao (λh0=>?_) (λh0=>?_)
  ·rw[aA ae];exact⟨rfl,A⟩
  ·rw[aq ae,w64 ae ae];exact⟨by congr 1;omega,A⟩
 ·simp only[go_sem,Two.a r1,Two.b r1,cN];refine ao (λh0=>?_) (λh0=>?_)
  ·rw[aA ae];exact⟨rfl,A⟩
  ·rw[w64 (n:=((m%18446744073709551616:Nat):Int)) ae ae,w64 ae ae];refine⟨?_,A⟩
   congr 1
   split<;>omega
theorem IS {a b:Nat}(A:a<18446744073709551616)(F:b<18446744073709551616):a*b<340282366920938463463374607431768211456:=by
 have:=Nat.mul_lt_mul'' A F;exact this
theorem RA {h:ah}{a b:Nat}(U:a<18446744073709551616)(L:b<18446744073709551616):
  ag prog sF #[.int .u64 (a:Int),.int .u64 (b:Int)] h λr h'=>r=pX (a*b)∧Ext h h':=by
 apply Nx;unfold BY;refine aJ λb1 h1 r1 e1 n1=>?_
 have l1:=bD r1;rw[aQ,bJ,aj,←DL];refine ll (n:=0) λb2 h2 r2 e2 n2=>?_
 refine bK (α:=Unit) 64 0 (λi _=>[af (63-(i:Int))]) (λi _ h'=>Big h' b2 351 (a*(b/2^(64-i)))∧Ext h1 h') () rfl ae ⟨by rw[ul L];exact r2,e2⟩ λi _ h3 again ρj _ hi ⟨F,e3⟩ H=>?_
 simp only[go_sem];have W:b/2^(64-i)≤b:=jX _ _;have hm:=IS U (um W L);refine ao (λh0=>?_) (λh0=>?_)
 ·have hi:i<64:=ae;have hv:=Vq b (63-i);rw[show 63-i+1=64-i by omega]at hv;have I:a*(b/2^(63-i))=2*(a*(b/2^(64-i)))+a*(b/2^(63-i)%2):=by
   conv=>lhs;rw[hv]
   rw[Jj,Ea]
  have G:=IS U (um (jX b (2^(63-i))) L);have H:=λh'=>H () h' hi
  rw[show 64-(i+1)=63-i by omega,I]at H;rw[I]at G;generalize a*(b/2^(64-i))=p at*;rw[F.all,aj];refine(oJ (n:=p) (bit:=0) ae ae).mono λv h4 ⟨e,e4⟩=>?_
  subst e;have F:=e4.row F;refine jy F λh5 r5 u5=>?_
  have e5:Ext h1 h5:=(e3.trans e4).upd n2 u5;rw[show(63:Int)-(i:Int)=((63-i:Nat):Int)by omega,nr _ ae,aj];rw[KO (um (jX _ _) L),aj,mX,aj];refine ao (λA=>?_) (λA=>?_)
  ·have A:b/2^(63-i)%2=1:=ae;rw[A,lN]at G H;rw[r5.all,aj,lB,bJ,aj,←DW U];refine(Do (m:=2*p+0) (n:=a) ae).mono λv A ⟨e,e6⟩=>?_
   subst e;refine jy (e6.row r5) λh7 r7 u7=>?_
   rw[w64 ae ae];have:=H h7 ⟨r7,(e5.trans e6).upd n2 u7⟩;rw[show(63:Int)-((i+1:Nat):Int)=((63-i:Nat):Int)-1 by omega]at this;exact this
  ·have A:b/2^(63-i)%2=0:=ae;rw[A,Nat.mul_zero]at H;rw[w64 ae ae];have:=H h5 ⟨r5,e5⟩;rw[show(63:Int)-((i+1:Nat):Int)=((63-i:Nat):Int)-1 by omega]at this;exact this
 ·have:i=64:=ae;subst this;rw[show b/2^(64-64)=b by simp]at F;rw[F.all,aj];refine jy (e3.row r1) λh4 r4 u4=>?_
  rw[r4.all,aj];exact⟨rfl,(e1.trans e3).upd n1 u4⟩
theorem VS {h:ah}{m d:Nat}(hm:m<340282366920938463463374607431768211456)(hd:d<18446744073709551616)(ab:0<d):
  ag prog vN #[pX m,.int .u64 (d:Int)] h λr h'=>r=.tuple #[pX (m/d),.int .u64 ((m%d:Nat):Int)]∧Ext h h':=by
 apply Qh;unfold Fm;rw[iM];refine aJ λb1 h1 r1 e1 n1=>?_
 refine aJ λb2 h2 r2 e2 n2=>?_
 have r1:=e2.row r1;have l1:=bD r1;have l2:=bD r2;rw[aQ,bJ,aj,←DL];refine ll (n:=0) λb3 h3 A e3 n3=>?_
 have l3:=bD A;rw[aj];refine ll (n:=0) λb4 h4 F e4 n4=>?_
 rw[mX,aj,show decide ((d:Int)=0)=false from cE ae,cA];have ay:Ext h h4:=e1.trans (e2.trans (e3.trans e4));have k2:h.size≤b2:=bB e1.1 n2;have k3:h.size≤b3:=bB (e1.trans e2).1 n3;have k4:h.size≤b4:=bB (e1.trans (e2.trans e3)).1 n4;refine bK (α:=Unit) 128 0 (λi _=>[af (127-(i:Int))]) (λi _ h'=>Big h' b1 351 m∧Two h' b2 351 (.int .u64 0) (.int .u64 0)∧Big h' b3 351 (m/2^(128-i)/d)∧Big h' b4 351 (m/2^(128-i)%d)∧Ext h h')
  () rfl ae ?_ λi _ h5 again ρj _ hi ⟨r1,r2,A,F,e5⟩ H=>?_
 ·have q:m/2^(128-0)=0:=ul (ce hm (by decide));rw[q,Nat.zero_div,Nat.zero_mod];exact⟨(e3.trans e4).row r1,(e3.trans e4).row r2,e4.row A,F,ay⟩
 simp only[go_sem];have hr:m/2^(128-i)%d<d:=iy _ ab;refine ao (λh0=>?_) (λh0=>?_)
 ·have hi:i<128:=ae;have H:=λh'=>H () h' hi
  have hv:=Vq m (127-i);rw[show 127-i+1=128-i by omega]at hv;rw[show 128-(i+1)=127-i by omega]at H;have hb:m/2^(127-i)%2≤1:=ae;have hs:=ZN (n:=m/2^(128-i)) ab rfl rfl hb;rw[←hv]at hs;rw[hs.1,hs.2]at H;have hq:2*(m/2^(128-i)/d)+(if d≤2*(m/2^(128-i)%d)+m/2^(127-i)%2 then 1 else 0)<340282366920938463463374607431768211456:=by
   rw[←hs.1];exact um (bB (jX _ _) (jX _ _)) hm
  rw[show(127:Int)-((i+1:Nat):Int)=((127-i:Nat):Int)-1 by omega]at H;rw[show(127:Int)-(i:Int)=((127-i:Nat):Int)by omega];have an:∀h',ag prog jm #[pX m,af ((127-i:Nat):Int)] h' λr ar=>r=.int .u64 ((m/2^(127-i)%2:Nat):Int)∧Ext h' ar:=λh'=>En hm ae
  generalize m/2^(127-i)%2=bit at*;generalize m/2^(128-i)/d=q at*;generalize m/2^(128-i)%d=r at*;refine aS (Ext h5) (Ext.refl _) ?_;refine aD _ (λh' e=>Big.all (e.row F)) ?_;refine aD _ (λh' e=>Big.all (e.row r1)) ?_;refine(an h5).mono λv h6 ⟨e,e6⟩=>?_
  subst e;refine⟨e6,?_⟩;refine(oJ (n:=r) (bit:=bit) hb ae).mono λv h7 ⟨e,e7⟩=>?_
  subst e;have L:=e6.trans e7;refine jy (L.row F) λh8 F u8=>?_
  have r1:=u8.row ae (L.row r1);have r2:=u8.row ae (L.row r2);have A:=u8.row ae (L.row A);have e8:=(e5.trans L).upd k4 u8;rw[Big.all A,aj];refine(oJ (n:=q) (bit:=0) ae ae).mono λv h9 ⟨e,e9⟩=>?_
  subst e;refine jy (e9.row A) λbc A W=>?_
  have r1:=W.row ae (e9.row r1);have r2:=W.row ae (e9.row r2);have F:=W.row ae (e9.row F);have au:=(e8.trans e9).upd k3 W;rw[Big.all F,aj,lB,bJ,aj,←DW hd];refine Dp.mono λv a7 ⟨e,I⟩=>?_
  subst e;have r1:=I.row r1;have r2:=I.row r2;have A:=I.row A;have F:=I.row F;have al:=au.trans I;rw[X0,aj,Y2];refine ao (λhc=>?_) (λhc=>?_)
  ·rw[aA ae,aA ae]at H;rw[aA ae]at hq;rw[Big.all F,aj,aj];refine(RB (m:=2*r+bit) (n:=d) ae ae).mono λv a8 ⟨e,G⟩=>?_
   subst e;refine jy (G.row F) λa9 F U=>?_
   have r1:=U.row ae (G.row r1);have r2:=U.row ae (G.row r2);have A:=U.row ae (G.row A);have ax:=(al.trans G).upd k4 U;simp only[go_sem,Two.b A];refine ck A (by simp) rfl λad A aa=>?_
   have A:Two ad b3 _ (.int .u64 _) (.int .u64 _):=A;have r1:=aa.row ae r1;have r2:=aa.row ae r2;have F:=aa.row ae F;rw[w64 ae ae];refine H ad ⟨r1,r2,?_,F,ax.upd k3 aa⟩;have a1:(((2*q+0)/18446744073709551616:Nat):Int)=(((2*q+1)/18446744073709551616:Nat):Int):=ae;have a2:IntKind.u64.wrap ((((2*q+0)%18446744073709551616:Nat):Int)+1)=(((2*q+1)%18446744073709551616:Nat):Int):=by rw[fJ];omega
   rw[a1,a2]at A;exact A
  ·rw[aq ae,aq ae]at H;rw[w64 ae ae];exact H a7 ⟨r1,r2,A,F,al⟩
 ·have:i=128:=ae;subst this;rw[show m/2^(128-128)=m by simp]at A F hr;refine aS (λh'=>Two h' b4 351 (.int .u64 ((m%d/18446744073709551616:Nat):Int)) (.int .u64 ((m%d%18446744073709551616:Nat):Int))∧(Big h' b3 351 (m/d))) ⟨F,A⟩ ?_;refine aD _ (λh' e=>Big.all e.2) ?_;simp only[go_sem];refine aD _ (λh' e=>Two.b e.1) ?_;refine jy r2 λh6 r6 u6=>?_
  refine⟨⟨u6.row ae F,u6.row ae A⟩,?_⟩;rw[r6.all,aj];refine⟨?_,e5.upd k2 u6⟩;rw[wO (Nat.lt_trans hr hd)]
end Go.Proofs.YtjljhnandbbldaaGreatDoor
namespace Go.Crisp
def upS (m n:Nat)(below:Bool):Bool:=if below then decide (2^(n-1)<m%2^n)else decide (2^(n-1)≤m%2^n)
theorem ZD {x:Int}{n:Nat}(hx:I64 x)(h1:1≤n)(h2:n≤64):
  ko (x.natAbs/2^n+(if upS x.natAbs n (decide (x<0))then 1 else 0)) (decide (x<0))=oT x n:=by
 obtain⟨b1,b2⟩:=hx;have an:(0:Nat)<2^(n-1):=xX ae;have W:2^n=2*2^(n-1):=by
  obtain⟨j,rfl⟩:∃j,n=j+1:=⟨n-1,ae⟩
  rw[sb,Ml,fu]
 have ab:(2:Int)^n=2*((2^(n-1):Nat):Int):=by
  rw[show(2:Int)^n=((2^n:Nat):Int)by simp,W];simp
 have U:(2:Int)^(n-1)=((2^(n-1):Nat):Int):=by simp
 have I:64≤n→9223372036854775808≤2^(n-1):=λh=>by rw[show n=64 by omega];decide
 have hq:x.natAbs/2^n≤4611686018427387904:=by
  rw[W];refine bB (Tn (c:=2) ae ae) ?_;omega
 have hs:oT x n=if(64:Int)≤n then 0 else x/2^n+x/2^(n-1)%2:=by
  unfold oT;rw[aq ae,dW]
 rw[hs,ab,U];unfold upS;have hm:=nV x.natAbs (2^n);have hr:=iy x.natAbs (show 0<2^n by omega);rw[W]at hm hr hq ⊢;generalize ad:x.natAbs/(2*2^(n-1))=q at*;generalize ar:x.natAbs%(2*2^(n-1))=r at*;generalize 2^(n-1)=p at*;have aa:(2*p)*q=2*(p*q):=vv _ _ _;rw[aa]at hm;have ci:((p*q:Nat):Int)=(p:Int)*q:=mB _ _;by_cases H:x<0
 ·rw [cL H];simp only[cN,dd];unfold ko
  try simp only[cN]
  by_cases A:(64:Int)≤n
  ·rw[aA A];have:=I ae;have L:q=0:=by
    rcases yd q with h|h
    ·exact h
    ·have:=Yv p h;omega
   subst L;rw[aq (show¬p<r by omega),aq ae];rfl
  ·rw [aq A,aq (by split<;>omega)];by_cases al:r=0
   ·have e:x=0+2*(p:Int)*(-(q:Int)):=by rw[pI,Aq];omega
    have G:x=0+(p:Int)*(-(2*(q:Int))):=by rw[Aq,D6];omega
    have d1:x/(2*(p:Int))= -(q:Int):=by
     conv=>lhs;rw[e]
     rw[vq _ _ ae];simp
    have d2:x/(p:Int)= -(2*(q:Int)):=by
     conv=>lhs;rw[G]
     rw[vq _ _ ae];simp
    rw[d1,d2];rw[aq ae];omega
   ·have e:x=(2*p-r:Int)+2*(p:Int)*(-(q:Int)-1):=by rw[pI,Tm,Aq];omega
    have d1:x/(2*(p:Int))= -(q:Int)-1:=by
     conv=>lhs;rw[e]
     rw[vq _ _ ae,rZ ae ae];simp
    by_cases F:p<r
    ·have G:x=(2*p-r:Int)+(p:Int)*(2*(-(q:Int)-1)):=by rw[D6,Tm,Aq];omega
     have d2:x/(p:Int)=2*(-(q:Int)-1):=by
      conv=>lhs;rw[G]
      rw[vq _ _ ae,rZ ae ae];simp
     rw[d1,d2,aA F];omega
    ·have G:x=(p-r:Int)+(p:Int)*(2*(-(q:Int)-1)+1):=by rw[Jb,D6,Tm,Aq];omega
     have d2:x/(p:Int)=2*(-(q:Int)-1)+1:=by
      conv=>lhs;rw[G]
      rw[vq _ _ ae,rZ ae ae];simp
     rw[d1,d2,aq F];omega
 ·rw [cE H];simp only[gO,cH,dd];unfold ko
  try simp only[gO,cH]
  rw[aq (by split<;>omega)];by_cases A:(64:Int)≤n
  ·rw[aA A];have:=I ae;have L:q=0:=by
    rcases yd q with h|h
    ·exact h
    ·have:=Yv p h;omega
   subst L;rw[aq ae];rfl
  ·rw[aq A];have e:x=(r:Int)+2*(p:Int)*(q:Int):=by rw[pI];omega
   have d1:x/(2*(p:Int))=(q:Int):=by
    conv=>lhs;rw[e]
    rw[vq _ _ ae,rZ ae ae];simp
   by_cases F:p≤r
   ·have G:x=(r-p:Int)+(p:Int)*(2*(q:Int)+1):=by rw[Jb,D6];omega
    have d2:x/(p:Int)=2*(q:Int)+1:=by
     conv=>lhs;rw[G]
     rw[vq _ _ ae,rZ ae ae];simp
    rw[d1,d2,aA F];omega
   ·have G:x=(r:Int)+(p:Int)*(2*(q:Int)):=by rw[D6];omega
    have d2:x/(p:Int)=2*(q:Int):=by
     conv=>lhs;rw[G]
     rw[vq _ _ ae,rZ ae ae];simp
    rw[d1,d2,aq F];omega
theorem ZI (m n i:Nat):m%2^n+m/2^i*2^i=m%2^n+m/2^(i+1)*2^(i+1)+m/2^i%2*2^i:=by
 have:=Vq m i
 conv=>lhs;rw[this]
 rw[eO,Ml,vv 2,Ea 2,fu 2];omega
theorem zbs (m i:Nat):m%2^(i+1)=m%2^i+m/2^i%2*2^i:=by
 rw[Ml,Nat.mod_mul,fu]
end Go.Crisp
namespace Go.Proofs.YtjljhnandbbldaaGreatDoor
open Go Go.Crisp
attribute [local irreducible] ag du bh stK aE vK qK bO gK fR bA mkK dy GQ IQ DT bsK
open _root_.Go.Proofs.Tryz
theorem VT {h:ah}{m d:Nat}{bl:Bool}(hm:m<340282366920938463463374607431768211456)(hd:d<18446744073709551616)(G:0<d):
  ag prog uE #[pX m,.int .u64 (d:Int),.bool bl] h λr h'=>r=af (ko (xQ m d bl) bl)∧Ext h h':=by
 apply Kn;unfold zi;rw[iM];refine aJ λb1 h1 r1 e1 n1=>?_
 rw[Big.all r1,aj];refine(VS hm hd G).mono λv h2 ⟨e,e2⟩=>?_
 subst e;simp only[go_sem];refine ll (n:=m/d) λb2 h3 r3 e3 n3=>?_
 have hr:m%d<d:=iy _ G;rw[lB,bJ,aj,←DW (n:=m%d) ae];refine(oJ (n:=m%d) (bit:=0) ae ae).mono λv h4 ⟨e,e4⟩=>?_
 subst e;refine ll (n:=2*(m%d)+0) λb3 h5 r5 e5 n5=>?_
 rw[Big.all r5,aj,lB,bJ,aj,←DW hd];refine Dp.mono λv h6 ⟨e,U⟩=>?_
 subst e;have H:Ext h h6:=e1.trans (e2.trans (e3.trans (e4.trans (e5.trans U))));have r2:=(e4.trans (e5.trans U)).row r3;have r3:=U.row r5;have k2:h.size≤b2:=bB (e1.trans e2).1 n3;simp only[go_sem];have hq:m/d≤m:=jX _ _;have A:d≤2*(m%d)→m/d+1<340282366920938463463374607431768211456:=λhh=>by
  have:=Tn (a:=m) (c:=2) (b:=d) ae ae;omega
 refine bF (λxs h'=>xs=[.bool (if bl then decide (d<2*(m%d))else decide (d≤2*(m%d)))]∧Ext h h'∧Big h' b2 351 (m/d)) ?_ ?_
 ·cases bl
  ·rw[cA];refine⟨?_,H,r2⟩
   congr 2
   simp only[gO,cH];exact ir.2 ae
  ·rw[iC];rw[Big.all r3];simp only[go_sem];refine Dp.mono λv h7 ⟨e,I⟩=>?_
   subst e;exact⟨by simp only[cN,gN],H.trans I,I.row r2⟩
 ·rintro xs ρj h7 ⟨rfl,I,r7⟩;simp only[go_sem];refine iK (λhc=>?_) (λhc=>?_)
  ·have W:xQ m d bl=m/d+1:=by
    unfold xQ;cases bl
    ·simp only[gO,cH,dd]at hc ⊢;rw[aA hc]
    ·simp only[cN,dd]at hc ⊢;rw[aA hc]
   have A:=A (by
    cases bl
    ·simp only[gO,cH,dd]at hc;exact hc
    ·simp only[cN,dd]at hc;omega)
   rw[Big.all r7,aj,lB,bJ,aj,←zv];refine(Do (m:=m/d) (n:=1) A).mono λv h8 ⟨e,e8⟩=>?_
   subst e;refine jy (e8.row r7) λh9 r9 u9=>?_
   rw[r9.all,aj];refine(pT (m:=m/d+1) (b:=bl) A).mono λv L ⟨e,F⟩=>?_
   exact⟨by rw[e,W],((I.trans e8).upd k2 u9).trans F⟩
  ·have W:xQ m d bl=m/d:=by
    unfold xQ;cases bl
    ·simp only[gO,cH,D7]at hc ⊢;rw[aq hc];rfl
    ·simp only[cN,D7]at hc ⊢;rw[aq hc];rfl
   rw[Big.all r7,aj];refine(pT (m:=m/d) (b:=bl) ae).mono λv L ⟨e,F⟩=>?_
   exact⟨by rw[e,W],I.trans F⟩
theorem XS (a b:Int):(!(decide (a<0)==decide (b<0)))=lC a b:=rfl
theorem RC {h:ah}{a b:Int}(L:I64 a)(W:I64 b):ag prog sH #[af a,af b] h λr h'=>r=af (KC a b)∧Ext h h':=by
 apply NB;unfold B9;simp only[go_sem];unfold KC;refine ao (λh0=>?_) (λh0=>?_)
 ·rw[aA h0];exact⟨rfl,Ext.refl _⟩
 rw[aq h0];have aa:=ry L;have ab:=ry W;refine(tQ L).mono λv1 h1 ⟨G,w1⟩=>?_
 subst G w1;rw[lB,bJ,aj,←DW (n:=a.natAbs) ae];refine(tQ W).mono λv1 h1 ⟨G,w1⟩=>?_
 subst G w1;refine(VS (m:=a.natAbs) (d:=b.natAbs) ae ae ae).mono λv h2 ⟨e,U⟩=>?_
 subst e;simp only[go_sem];refine ll (n:=a.natAbs/b.natAbs) λb2 h3 I e3 n3=>?_
 have hq:a.natAbs/b.natAbs≤a.natAbs:=jX _ _;simp only[go_sem,XS];have F:=U.trans e3;have k2:=bB U.1 n3;by_cases hd:lC a b=true∧0<a.natAbs%b.natAbs
 ·have q:(lC a b&&decide ((0:Int)<((a.natAbs%b.natAbs:Nat):Int)))=true:=by rw[hd.1,cL ae];rfl
  rw[q,iC];unfold GM;rw[aA ⟨hd.1,ae⟩];rw[Big.all I,aj,lB,bJ,aj,←zv];refine(Do (m:=a.natAbs/b.natAbs) (n:=1) ae).mono λv h8 ⟨e,e8⟩=>?_
  subst e;refine jy (e8.row I) λh9 r9 u9=>?_
  rw[r9.all,aj];refine(pT (m:=a.natAbs/b.natAbs+1) (b:=lC a b) ae).mono λv H ⟨e,A⟩=>?_
  exact⟨e,((F.trans e8).upd k2 u9).trans A⟩
 ·have q:(lC a b&&decide ((0:Int)<((a.natAbs%b.natAbs:Nat):Int)))=false:=by
   rw[←Bool.not_eq_true,dj,dd];rintro⟨x,y⟩;exact hd ⟨x,ae⟩
  rw[q,cA];unfold GM;rw[aq (by rintro⟨x,y⟩;exact hd ⟨x,ae⟩)];rw[Big.all I,aj];refine(pT (m:=a.natAbs/b.natAbs) (b:=lC a b) ae).mono λv H ⟨e,A⟩=>?_
  exact⟨e,F.trans A⟩
theorem jD {h:ah}{a b d:Int}(L:I64 a)(U:I64 b)(hd:I64 d):ag prog dD #[af a,af b,af d] h λr h'=>r=af (cZ a b d)∧Ext h h':=by
 apply LN;unfold Bi;simp only[go_sem];unfold cZ;refine ao (λh0=>?_) (λh0=>?_)
 ·rw[aA h0];exact⟨rfl,Ext.refl _⟩
 rw[aq h0];have A:=jV L;have F:=jV U;have I:=jV hd;refine(tQ L).mono λW h1 ⟨G,w1⟩=>?_
 subst G w1;refine(tQ U).mono λW h1 ⟨G,w1⟩=>?_
 subst G w1;refine(RA A F).mono λv h2 ⟨e,e2⟩=>?_
 subst e;refine ll (n:=a.natAbs*b.natAbs) λb2 h3 r3 e3 n3=>?_
 simp only[go_sem,XS];refine aS (Ext h3) (Ext.refl _) ?_;refine aD _ (λh' e=>Big.all (e.row r3)) ?_;refine(tQ hd).mono λW h4 ⟨e4,w4⟩=>?_
 subst e4 w4;refine⟨Ext.refl _,?_⟩;refine(VT (bl:= !(lC a b==decide (d<0))) (IS A F) I ae).mono λv aa ⟨e,H⟩=>?_
 refine⟨?_,e2.trans (e3.trans H)⟩;rw[e];rfl
theorem MD {i:Nat}(h:i<128):2^i<340282366920938463463374607431768211456:=by
 have:=Nat.pow_lt_pow_right (a:=2) ae h;exact this
theorem KG {h:ah}{x n:Int}(hx:I64 x)(hn:I64 n):ag prog mY #[af x,af n] h λr h'=>r=af (oT x n)∧Ext h h':=by
 apply Ny;unfold BZ;simp only[go_sem];refine ao (λh0=>?_) (λh0=>?_)
 ·unfold oT;rw[aA ae];exact⟨rfl,Ext.refl _⟩
 refine ao (λh1=>?_) (λh1=>?_)
 ·unfold oT;rw[aq ae,aA ae];exact⟨rfl,Ext.refl _⟩
 obtain⟨k,rfl⟩:∃k:Nat,n=(k:Int):=⟨n.toNat,ae⟩
 rw[w64 (n:=(k:Int)-1) ae ae];rw[lB,bJ,aj,←zv];refine ll (n:=1) λb1 h1 r1 e1 n1=>?_
 -- half
 refine bK (α:=Unit) (k-1) 0 (λi _=>[af (i:Int)]) (λi _ h'=>Big h' b1 351 (2^i)∧Ext h h') () rfl ae ⟨r1,e1⟩ λi _ h2 again ρj _ hi ⟨r2,e2⟩ H=>?_
 simp only[go_sem];refine ao (λhc=>?_) (λhc=>?_)
 ·rw[Big.all r2,aj];have hp:=MD (i:=i+1) ae;have ax:2^(i+1)=2*2^i:=To;refine(oJ (n:=2^i) (bit:=0) ae ae).mono λv h3 ⟨e,e3⟩=>?_
  subst e;refine jy (e3.row r2) λh4 r4 u4=>?_
  rw[w64 ae ae];rw[gN,←ax]at r4;exact H () h4 ae ⟨r4,(e2.trans e3).upd n1 u4⟩
 have:i=k-1:=ae;subst this;have A:=e2;refine(tQ hx).mono λv1 h3 ⟨e3,w3⟩=>?_
 subst e3 w3;have bg:=jV hx;rw[lB,bJ,aj,←DW bg];refine ll (n:=x.natAbs) λb2 h4 r4 e4 n4=>?_
 try simp only[go_sem]
 rw[ia,bJ,aj,←DL];refine ll (n:=0) λb3 h5 r5 e5 n5=>?_
 have l1:=bD r2;have l2:=bD r4;have k2:h.size≤b2:=bB A.1 n4;have k3:h.size≤b3:=bB (A.trans e4).1 n5;have ar:x.natAbs<340282366920938463463374607431768211456:=ae;have F:=ZD hx (n:=k) ae ae;have b0:x.natAbs≤9223372036854775808:=ry hx;generalize b6:x.natAbs=m at*
 -- the quotient
 refine bK (α:=Unit) (128-k) 0 (λi _=>[af (127-(i:Int))])
  (λi _ h'=>Big h' b1 351 (2^(k-1))∧Big h' b2 351 m∧Big h' b3 351 (m/2^(128-i))∧Ext h h')
  () rfl ae ⟨(e4.trans e5).row r2,e5.row r4,by rw[show m/2^(128-0)=0 from ul (by simpa using ar)];exact r5,A.trans (e4.trans e5)⟩ λi _ h6 again ρj _ hi ⟨W,q2,L,e6⟩ H=>?_
 simp only[go_sem];refine ao (λhc=>?_) (λhc=>?_)
 ·have H:=λh'=>H () h' ae
  have hv:=Vq m (127-i);rw[show 127-i+1=128-i by omega]at hv;rw[show 128-(i+1)=127-i by omega,show(127:Int)-((i+1:Nat):Int)=((127-i:Nat):Int)-1 by omega]at H;have a9:m/2^(127-i)≤m:=jX _ _;have hb:m/2^(127-i)%2≤1:=ae;rw[show(127:Int)-(i:Int)=((127-i:Nat):Int)by omega];refine aS (Ext h6) (Ext.refl _) ?_;refine aD _ (λh' e=>Big.all (e.row L)) ?_;refine aD _ (λh' e=>Big.all (e.row q2)) ?_;refine(En ar (i:=127-i) ae).mono λv h7 ⟨e,e7⟩=>?_
  subst e;refine⟨e7,?_⟩;refine(oJ (n:=m/2^(128-i)) (bit:=m/2^(127-i)%2) hb ae).mono λv h8 ⟨e,e8⟩=>?_
  subst e;have an:=e7.trans e8;refine jy (an.row L) λh9 r9 u9=>?_
  rw[w64 ae ae];rw[←hv]at r9;exact H h9 ⟨u9.row ae (an.row W),u9.row ae (an.row q2),r9,(e6.trans an).upd k3 u9⟩
 have ay:i=128-k:=ae;subst ay;rw[show 128-(128-k)=k by omega]at L;rw[Big.all q2,aj];refine ll (n:=m) λb4 h7 r7 e7 n7=>?_
 have l3:=bD L;have l1:=bD W;have l2:=bD q2;have k4:h.size≤b4:=bB e6.1 n7
 -- the rest
 refine bK (α:=Unit) 128 k (λi _=>[af (i:Int)])
  (λi _ h'=>Big h' b1 351 (2^(k-1))∧Big h' b2 351 m∧Big h' b3 351 (m/2^k)∧Big h' b4 351 (m%2^k+m/2^i*2^i)∧Ext h h')
  () rfl ae ⟨e7.row W,e7.row q2,e7.row L,by rw[show m%2^k+m/2^k*2^k=m by rw[fu];exact Nat.mod_add_div _ _];exact r7,e6.trans e7⟩ λi _ h8 again ρj ay hi ⟨W,q2,L,q4,e8⟩ H=>?_
 simp only[go_sem];refine ao (λhc=>?_) (λhc=>?_)
 ·have H:=λh'=>H () h' ae
  rw[Big.all q2,aj];have al:=ZI m k i;have a9:m%2^k+m/2^i*2^i≤2*m:=by
   have a1:=Nat.mod_le m (2^k);have a2:=Jc m (2^i);omega
  refine(En ar (i:=i) ae).mono λv h9 ⟨e,U⟩=>?_
  subst e;simp only[go_sem];have W:=U.row W;have q2:=U.row q2;have L:=U.row L;have q4:=U.row q4;have U:=e8.trans U;have l4:=bD q4;refine ao (λhd=>?_) (λhd=>?_)
  ·have hd:m/2^i%2=1:=ae;rw[hd,uj]at al
   try rw[lB,bJ,aj,←zv]
   refine ll (n:=1) λb5 a8 bv G n10=>?_
   have k5:h.size≤b5:=bB U.1 n10;refine bK (α:=Unit) i 0 (λj _=>[af (j:Int)]) (λj _ h'=>Big h' b1 351 (2^(k-1))∧Big h' b2 351 m∧Big h' b3 351 (m/2^k)∧Big h' b4 351 (m%2^k+m/2^i*2^i)∧Big h' b5 351 (2^j)∧Ext h h')
    () rfl ae ⟨G.row W,G.row q2,G.row L,G.row q4,bv,U.trans G⟩ λj _ bo bc ρj2 _ hj ⟨W,q2,L,q4,q5,aa⟩ H2=>?_
   simp only[go_sem];refine ao (λbe=>?_) (λbe=>?_)
   ·rw[Big.all q5,aj];have hp:=MD (i:=j+1) ae;have ax:2^(j+1)=2*2^j:=To;refine(oJ (n:=2^j) (bit:=0) ae ae).mono λv a7 ⟨e,A⟩=>?_
    subst e;refine jy (A.row q5) λab ad I=>?_
    rw[w64 ae ae];rw[gN,←ax]at ad;exact H2 () ab ae ⟨I.row ae (A.row W),I.row ae (A.row q2),I.row ae (A.row L),I.row ae (A.row q4),ad,(aa.trans A).upd k5 I⟩
   ·have:j=i:=ae;subst this;rw[Big.all q4,aj,Big.all q5,aj];refine(RB (m:=m%2^k+m/2^j*2^j) (n:=2^j) ae ae).mono λv a7 ⟨e,A⟩=>?_
    subst e;refine jy (A.row q4) λab ad I=>?_
    rw[w64 ae ae];rw[al,sb]at ad;exact H ab ⟨I.row ae (A.row W),I.row ae (A.row q2),I.row ae (A.row L),ad,(aa.trans A).upd k4 I⟩
  ·have hd:m/2^i%2=0:=ae;rw[hd,Ar,gN]at al;rw[w64 ae ae];exact H h9 ⟨W,q2,L,by rw[←al];exact q4,U⟩
 have:i=128:=ae;subst this;rw[show m%2^k+m/2^128*2^128=m%2^k by rw[ul (a:=m) (b:=2^128) (by simpa using ar)];simp]at q4;rw[Big.all q4,aj,Big.all W,aj];refine Dp.mono λv h9 ⟨e,U⟩=>?_
 subst e;have W:=U.row W;have L:=U.row L;have q4:=U.row q4;have U:=e8.trans U;have k1:=n1;simp only[go_sem];refine bF (λxs h'=>xs=[.bool (upS m k (decide (x<0)))]∧Ext h h'∧Big h' b3 351 (m/2^k)) ?_ ?_
 ·unfold upS;refine ao (λhc=>?_) (λhc=>?_)
  ·rw[Big.all W,aj,Big.all q4,aj];refine Dp.mono λv a8 ⟨e,G⟩=>?_
   subst e;rw[cL hc];exact⟨by simp only[cN],U.trans G,G.row L⟩
  ·rw[cE hc];refine⟨?_,U,L⟩;simp only[gO,cH]
   congr 2
   exact ir.2 ae
 ·rintro xs ρj a8 ⟨rfl,G,L⟩;simp only[go_sem];have a9:m/2^k≤m:=jX _ _;refine iK (λhc=>?_) (λhc=>?_)
  ·rw[hc,aA rfl]at F;rw[Big.all L,aj]
   try rw[lB,bJ,aj,←zv]
   try rw[aj]
   refine(Do (m:=m/2^k) (n:=1) ae).mono λv bo ⟨e,aa⟩=>?_
   subst e;refine jy (aa.row L) λa7 bd bk=>?_
   rw[bd.all,aj];refine(pT (m:=m/2^k+1) (b:=decide (x<0)) ae).mono λv ab ⟨e,au⟩=>?_
   exact⟨by rw[e,F],((G.trans aa).upd k3 bk).trans au⟩
  ·rw[hc]at F;simp only[gO,cH,gN]at F;rw[Big.all L,aj];refine(pT (m:=m/2^k) (b:=decide (x<0)) ae).mono λv ab ⟨e,au⟩=>?_
   exact⟨by rw[e,F],G.trans au⟩
theorem T4 {h:ah}{a b n:Int}(ha:I64 a)(hb:I64 b)(hn:I64 n):ag prog rR #[af a,af b,af n] h λr h'=>r=af (rz a b n)∧Ext h h':=by
 apply IE;unfold xB;simp only[go_sem];have ar:=jV ha;have ad:=jV hb;refine bF (λxs h'=>xs=[af (n.toNat:Int)]∧h'=h) ?_ ?_
 ·refine ao (λhc=>?_) (λhc=>?_)
  ·exact⟨by rw[Int.toNat_of_nonpos ae];rfl,rfl⟩
  ·exact⟨by rw[xU ae],rfl⟩
 rintro xs ρj h1 ⟨rfl,hh⟩;have hh:=hh.symm;subst hh;simp only[go_sem,XS];unfold rz;refine ao (λh0=>?_) (λh0=>?_)
 ·rw[aA ae];exact⟨rfl,Ext.refl _⟩
 rw[aq ae];generalize n.toNat=k at*;refine(tQ ha).mono λv1 h1 ⟨e1,w1⟩=>?_
 have w1:=w1.symm;subst e1 w1;refine(tQ hb).mono λv1 h1 ⟨e1,w1⟩=>?_
 have w1:=w1.symm;subst e1 w1;refine(RA ar ad).mono λv I ⟨e,e2⟩=>?_
 subst e;have F:=IS ar ad;generalize lC a b=bl at*;generalize a.natAbs*b.natAbs=m at*;refine ll (n:=m) λb2 h3 r3 e3 n3=>?_
 have aa:=e2.trans e3
 try simp only[go_sem]
 refine ao (λhk=>?_) (λhk=>?_)
 ·obtain rfl:k=0:=ae;rw[Big.all r3,aj];refine(pT (m:=m) (b:=bl) F).mono λv h4 ⟨e,e4⟩=>?_
  exact⟨by rw[e];rfl,aa.trans e4⟩
 rw[ia,bJ,aj,←DL];refine ll (n:=0) λb3 h5 r5 e5 n5=>?_
 have l2:=bD r3;have k2:h.size≤b2:=bB e2.1 n3;have k3:h.size≤b3:=bB aa.1 n5;refine bK (α:=Unit) (128-k) 0 (λi _=>[af (127-(i:Int))])
  (λi _ h'=>Big h' b2 351 m∧Big h' b3 351 (m/2^(128-i))∧Ext h h')
  () rfl ae ⟨e5.row r3,by rw[show m/2^(128-0)=0 from ul (by simpa using F)];exact r5,aa.trans e5⟩ λi _ h6 again ρj _ hi ⟨L,G,e6⟩ H=>?_
 simp only[go_sem];refine ao (λhc=>?_) (λhc=>?_)
 ·have H:=λh'=>H () h' ae
  have hv:=Vq m (127-i);rw[show 127-i+1=128-i by omega]at hv;rw[show 128-(i+1)=127-i by omega,show(127:Int)-((i+1:Nat):Int)=((127-i:Nat):Int)-1 by omega]at H;have bo:m/2^(127-i)≤m:=jX _ _;have hb:m/2^(127-i)%2≤1:=ae;rw[show(127:Int)-(i:Int)=((127-i:Nat):Int)by omega];refine aS (Ext h6) (Ext.refl _) ?_;refine aD _ (λh' e=>Big.all (e.row G)) ?_;refine aD _ (λh' e=>Big.all (e.row L)) ?_;refine(En F (i:=127-i) ae).mono λv h7 ⟨e,e7⟩=>?_
  subst e;refine⟨e7,?_⟩;refine(oJ (n:=m/2^(128-i)) (bit:=m/2^(127-i)%2) hb ae).mono λv h8 ⟨e,A⟩=>?_
  subst e;have W:=e7.trans A;refine jy (W.row G) λh9 r9 u9=>?_
  rw[w64 ae ae];rw[←hv]at r9;exact H h9 ⟨u9.row ae (W.row L),r9,(e6.trans W).upd k3 u9⟩
 have a8:i=128-k:=ae;subst a8;rw[show 128-(128-k)=k by omega]at G;rw[w64 (n:=(k:Int)-1) ae ae];refine bK (α:=Unit) (k-1) 0 (λi _=>[.bool (decide (m%2^i≠0)),af (i:Int)])
  (λi _ h'=>Big h' b2 351 m∧Big h' b3 351 (m/2^k)∧Ext h h')
  () (by simp[Nat.mod_one]) ae ⟨L,G,e6⟩ λi _ h7 again ρj _ hi ⟨L,G,e7⟩ H=>?_
 simp only[go_sem];refine ao (λhc=>?_) (λhc=>?_)
 ·have H:=λh'=>H () h' ae
  have ax:=zbs m i;have hp:0<2^i:=xX ae;rw[Big.all L];by_cases hz:m%2^i=0
  ·have q:decide (m%2^i≠0)=false:=cE ae;rw[q];simp only[go_sem];refine(En F (i:=i) ae).mono λv h8 ⟨e,A⟩=>?_
   subst e;simp only[go_sem];rw[w64 ae ae];have qq:decide (m%2^(i+1)≠0)=decide (((m/2^i%2:Nat):Int)=1):=ir.2 (by
    rw[ax,hz];rcases Nat.mod_two_eq_zero_or_one (m/2^i)with hh|hh
    ·rw[hh];simp
    ·rw[hh];simp)
   have H:=H h8 ⟨A.row L,A.row G,e7.trans A⟩;rw[qq]at H;exact H
  ·have q:decide (m%2^i≠0)=true:=cL hz;rw[q];simp only[go_sem];rw[w64 ae ae];have H:=H h7 ⟨L,G,e7⟩;rw[show decide (m%2^(i+1)≠0)=true from cL (by rw[ax];omega)]at H;exact H
 have:i=k-1:=ae;subst this;rw[Big.all L,aj,show(k:Int)-1=((k-1:Nat):Int)by omega];refine(En F (i:=k-1) ae).mono λv h8 ⟨e,A⟩=>?_
 subst e;have G:=A.row G;have A:=e7.trans A;have bo:m/2^k≤m/2:=by
  refine Tn ?_ ae;have:=Nat.pow_le_pow_right (n:=2) ae (show 1≤k by omega);omega
 have au:∀c:Bool,(c=true↔(m/2^(k-1)%2=1∧¬(bl=true∧m%2^(k-1)=0)))→aE (.bool c)
   (ag prog jl #[pX (m/2^k),pX 1] h8 λbd b0=>stK 2 (.pointer (some ⟨b3,0,none⟩)) bd b0 λb1 an=>vK (aR 2 an (.pointer (some ⟨b3,0,none⟩))) λbv=>
    ag prog ed #[bv,.bool bl] an λa9 bg=>a9=af (ko (MN m k bl) bl)∧Ext h bg)
   (ag prog ed #[pX (m/2^k),.bool bl] h8 λbe ay=>be=af (ko (MN m k bl) bl)∧Ext h ay):=by
  intro c al;unfold MN;rw[aq ae];refine iK (λhc=>?_) (λhc=>?_)
  ·rw[aA (al.1 hc)];refine(Do (m:=m/2^k) (n:=1) ae).mono λv b5 ⟨e,ab⟩=>?_
   subst e;refine jy (ab.row G) λb4 a7 bk=>?_
   rw[a7.all,aj];refine(pT (m:=m/2^k+1) (b:=bl) ae).mono λv bc ⟨e,U⟩=>?_
   exact⟨e,((A.trans ab).upd k3 bk).trans U⟩
  ·rw[aq (λhh=>by rw[al.2 hh]at hc;cases hc)];refine(pT (m:=m/2^k) (b:=bl) ae).mono λv bc ⟨e,U⟩=>?_
   exact⟨e,A.trans U⟩
 simp only[go_sem,Big.all G];rw[zdw,bJ,aj,←zv];refine au _ ?_;rw[dj,wR,dd,dd];constructor
 ·rintro⟨h1,I⟩;refine⟨ae,?_⟩;rintro⟨h3,h4⟩;rcases I with I|I
  ·exact I h4
  ·rw[h3]at I;cases I
 ·rintro⟨h1,I⟩;refine⟨ae,?_⟩;by_cases h3:bl=true
  ·exact .inl λh4=>I ⟨h3,h4⟩
  ·exact .inr (by simpa using h3)
theorem Uu (p m t:Int):IntKind.i64.wrap (p-IntKind.i64.wrap (m+t))=IntKind.i64.wrap (IntKind.i64.wrap (p-m)-t):=by
 rw[FS,zT];congr 1;omega
theorem Ut (p m t:Int):IntKind.i64.wrap (IntKind.i64.wrap (p+t)-m)=IntKind.i64.wrap (IntKind.i64.wrap (p-m)+t):=by
 rw[zT,vR];congr 1;omega
theorem zdJ {h:ah}{t:Int}(ht:I64 t):ag prog DF #[af t] h λr h'=>r=af (zah t)∧Ext h h':=by
 apply SD;unfold HU
 try simp only[go_sem]
 unfold zah;have aa:0≤max 0 t∧max 0 t≤9223372036854775807:=by unfold I64 at ht;omega
 refine bF (λU h'=>U=[af (max 0 t)]∧h'=h) ?_ ?_
 ·refine ao (λhc=>?_) (λhc=>?_)
  ·exact⟨by rw[show max 0 t=0 by omega],rfl⟩
  ·exact⟨by rw[show max 0 t=t by omega],rfl⟩
 rintro U ρj h1 ⟨rfl,hh⟩;have hh:=hh.symm;subst hh;generalize max 0 t=T at*
 try simp only[go_sem]
 refine(RC (by unfold I64;omega) (by unfold I64;omega)).mono λW h1 ⟨e,e1⟩=>?_
 subst e;rw[rH (by unfold I64;omega) ae];simp only[go_sem];rw[w64 (n:=T/762123384786*762123384786) ae ae,w64 (n:=T-T/762123384786*762123384786) ae ae];rw[show T-T/762123384786*762123384786=T%762123384786 by omega];have hr:0≤T%762123384786∧T%762123384786<762123384786:=ae;generalize ab:T%762123384786=r at*;refine bK (α:=Int×Int) 16 0 (λi a=>[af a.1,af a.2,af (fY r i).2,af ((i:Int)+1)]) (λi a h'=>IntKind.i64.wrap (a.1-a.2)=(fY r i).1∧Ext h h') (1099511627776,0) rfl ae ⟨show IntKind.i64.wrap (1099511627776-0)=1099511627776 from w64 ae ae,e1⟩ λi a h2 again ρj _ hi ⟨s0,G⟩ H=>?_
 obtain⟨P,M⟩:=a;simp only[go_sem];obtain⟨s1,s2⟩:=Dg r i;refine ao (λh0=>?_) (λh0=>?_)
 ·rw[w64 (n:=((i:Int)+1)*1099511627776) ae ae];refine(jD s2 (by unfold I64;omega) (by unfold I64;omega)).mono λW L ⟨e,F⟩=>?_
  subst e;rw[em _ _ _ _ ae,aj,kz ae];simp only[go_sem];have A:(fY r (i+1)).1=IntKind.i64.wrap (if i%2=0 then(fY r i).1-(fY r (i+1)).2 else(fY r i).1+(fY r (i+1)).2):=rfl;have I:(fY r (i+1)).2=cZ (fY r i).2 r (((i:Int)+1)*1099511627776):=rfl;rw[←I];rw[w64 (n:=(i:Int)+1+1) ae ae,show(i:Int)+1+1=((i+1:Nat):Int)+1 by omega];refine ao (λh4=>?_) (λh4=>?_)
  ·refine H (P,_) L ae ⟨?_,G.trans F⟩;rw[A,aA ae,←s0];exact Uu _ _ _
  ·refine H (_,M) L ae ⟨?_,G.trans F⟩;rw[A,aq ae,←s0];exact Ut _ _ _
 ·have:i=16:=ae;subst this;rw[s0];refine(KG s1 (by unfold I64;omega)).mono λW L ⟨e,F⟩=>?_
  exact⟨e,G.trans F⟩
theorem zao {h:ah}{d s:Int}(hd:I64 d)(A:I64 s):ag prog yL #[af d,af s] h λr h'=>r=af (F9 d s)∧Ext h h':=by
 apply Ns;unfold BV;simp only[go_sem];unfold F9;refine ao (λh0=>?_) (λh0=>?_)
 ·rw[aA ae];exact⟨rfl,Ext.refl _⟩
 ·rw[aq ae];have h1:=QP (d:=d) (B:=16384) ae ae;have F:=QP (d:=s) (B:=4194304) ae ae;rw[w64 (n:=d*d) ae ae,w64 (n:=d*d*2147483648) ae ae,w64 (n:=s*s) ae ae];exact jD (by unfold I64;omega) (by unfold I64;omega) (by unfold I64;omega)
theorem zap {h:ah}{d s:Int}(hd:I64 d)(H:I64 s):ag prog yM #[af d,af s] h λr h'=>r=af (Dd d s)∧Ext h h':=by
 apply Nt;unfold BW;refine(zao hd H).mono λA h1 ⟨e,G⟩=>?_
 subst e;refine(zdJ (Nc _ _)).mono λA L ⟨e,F⟩=>?_
 subst e;refine(KG (OQ _) (by unfold I64;omega)).mono λA U ⟨e,I⟩=>?_
 exact⟨e,G.trans (F.trans I)⟩
theorem zdI {h:ah}{p q:Int}(A:I64 p)(hq:I64 q):ag prog DE #[af p,af q] h λr h'=>r=.bool (decide (LY p q))∧h'=h:=by
 apply SC;unfold HT;simp only[go_sem];unfold I64 at*;refine ao (λh0=>?_) (λh0=>?_)
 ·exact⟨by rw[cE];unfold LY;omega,trivial⟩
 ·refine⟨?_,trivial⟩
  congr 1
  rw[ir,w64 (n:= -4*q) ae ae,w64 (n:=4*q) ae ae];unfold LY;omega
theorem Pf {h:ah}{p q:Int}(hp:I64 p)(h0:p≠ -9223372036854775808)(hq:I64 q):ag prog qx #[af p,af q] h λr h'=>r=af (Ab p q)∧Ext h h':=by
 apply LM;unfold Bh;unfold Ab;simp only[go_sem];unfold I64 at hp;refine bF (λU h'=>U=[af (max p (-p))]∧h'=h) ?_ ?_
 ·refine ao (λhc=>?_) (λhc=>?_)
  ·rw[w64 ae ae];exact⟨by rw[show max p (-p)=0-p by omega],rfl⟩
  ·exact⟨by rw[show max p (-p)=p by omega],rfl⟩
 rintro U ρj h1 ⟨rfl,hh⟩;have hh:=hh.symm;subst hh;have W:I64 (max p (-p)):=by unfold I64 at*;omega
 simp only[go_sem];refine(jD (by unfold I64;omega) W hq).mono λv1 h1 ⟨e,e1⟩=>?_
 subst e;refine(jD (gL _ _ _) W hq).mono λv1 h2 ⟨e,e2⟩=>?_
 subst e;have hu:=gL (cZ 10851744800547 (max p (-p)) q) (max p (-p)) q;generalize cZ (cZ 10851744800547 (max p (-p)) q) (max p (-p)) q=u at*;refine bK (α:=Int×Int) 30 0 (λi a=>[af a.1,af a.2,af (cF u i).2,af ((i:Int)+1)]) (λi a h'=>IntKind.i64.wrap (a.1-a.2)=(cF u i).1∧Ext h h') (1099511627776,0) rfl ae ⟨show IntKind.i64.wrap (1099511627776-0)=1099511627776 from w64 ae ae,e1.trans e2⟩ λi a h3 again ρj _ hi ⟨s0,G⟩ H=>?_
 obtain⟨P,M⟩:=a;simp only[go_sem];obtain⟨s1,s2⟩:=Aa u i;refine ao (λh0=>?_) (λh0=>?_)
 ·have aa:=QP (d:=(i:Int)+1) (B:=30) ae ae;have he:=Um ((i:Int)+1);rw[w64 (n:=2*((i:Int)+1)) ae ae,w64 (n:=2*((i:Int)+1)+1) ae ae,w64 (n:=2*((i:Int)+1)*(2*((i:Int)+1)+1)) ae ae,
   w64 (n:=2*((i:Int)+1)*(2*((i:Int)+1)+1)*1099511627776) ae ae]
  refine(jD s2 hu (by unfold I64;omega)).mono λv1 L ⟨e,I⟩=>?_
  subst e;rw[em _ _ _ _ ae,aj,kz ae];simp only[go_sem];have A:(cF u (i+1)).1=IntKind.i64.wrap (if i%2=0 then(cF u i).1-(cF u (i+1)).2 else(cF u i).1+(cF u (i+1)).2):=rfl;have F:(cF u (i+1)).2=cZ (cF u i).2 u (2*((i:Int)+1)*(2*((i:Int)+1)+1)*1099511627776):=rfl;rw[←F];rw[w64 (n:=(i:Int)+1+1) ae ae,show(i:Int)+1+1=((i+1:Nat):Int)+1 by omega];refine ao (λh5=>?_) (λh5=>?_)
  ·refine H (P,_) L ae ⟨?_,G.trans I⟩;rw[A,aA ae,←s0];exact Uu _ _ _
  ·refine H (_,M) L ae ⟨?_,G.trans I⟩;rw[A,aq ae,←s0];exact Ut _ _ _
 ·have:i=30:=ae;subst this;exact⟨by rw[s0],G⟩
theorem VR {h:ah}{p q:Int}(F:I64 p)(hq:I64 q):ag prog uD #[af p,af q] h λr h'=>r=af (wT p q)∧Ext h h':=by
 apply Km;unfold zh;unfold wT;refine(zdI F hq).mono λA h1 ⟨G,w1⟩=>?_
 have w1:=w1.symm;subst G w1;by_cases H:LY p q
 ·have I:=H;unfold LY at I;simp only[go_sem,H];rw[w64 (n:=3*q) ae ae,w64 (n:= -3*q) ae ae];refine ao (λh0=>?_) (λh0=>?_)
  ·rw[aA ae];exact⟨rfl,Ext.refl _⟩
  ·rw[aq ae];refine(Pf F ae hq).mono λA h1 ⟨e,G⟩=>?_
   subst e;refine(Pf F ae (by unfold I64;omega)).mono λA h2 ⟨e,U⟩=>?_
   subst e;refine(T4 (xM _ _) (xM _ _) (by unfold I64;omega)).mono λA h3 ⟨e,W⟩=>?_
   subst e;refine(KG (yC _ _ _) (by unfold I64;omega)).mono λA h4 ⟨e,L⟩=>?_
   exact⟨e,G.trans (U.trans (W.trans L))⟩
 ·simp only[go_sem,H];rw[aA trivial];exact⟨rfl,Ext.refl _⟩
end Go.Proofs.YtjljhnandbbldaaGreatDoor
namespace Go.Crisp
def inW (f n m i j:Int):Prop:=if f=0 then i*n<(j+1)*m∧j*m<(i+1)*n else
 2*m*j-(2*i+1)*n+m<db f*(2*max n m)∧ -(db f*(2*max n m))<2*m*j-(2*i+1)*n+m
instance (f n m i j:Int):Decidable (inW f n m i j):=by unfold inW;infer_instance
theorem YS {f n m i j:Int}(h:wK f n m i):inW f n m i j↔rA f n m i≤j∧j<oH f n m i:=by
 obtain⟨f0,f1,I,H,G,m1,L,F⟩:=h;unfold inW rA oH OY;split
 ·have a1:= @Int.ediv_lt_iff_lt_mul (i*n) (j+1) m ae;have a2:= @Int.ediv_lt_iff_lt_mul (-((i+1)*n)) (-j) m ae;rw[Tu]at a2;constructor
  ·rintro⟨h1,A⟩;have:=a1.2 h1;have:=a2.2 ae;omega
  ·rintro⟨h1,A⟩;have:=a1.1 ae;have:=a2.1 ae;omega
 ·have a1:= @Int.ediv_lt_iff_lt_mul ((2*i+1)*n-m-db f*2*max n m) j (2*m) ae;have a2:= @Int.ediv_lt_iff_lt_mul (-((2*i+1)*n-m+db f*2*max n m)) (-j) (2*m) ae;rw[Tu]at a2;rw[fM j]at a1 a2;rw[pI (db f)]at a1 a2;rw[pI (db f)];constructor
  ·rintro⟨h1,A⟩;have:=a1.2 ae;have:=a2.2 ae;omega
  ·rintro⟨h1,A⟩;have:=a1.1 ae;have:=a2.1 ae;omega
theorem MK {f n m i:Int}(h:wK f n m i):rA f n m i≤i*n/m∧i*n/m<oH f n m i:=by
 rw[←YS h];obtain⟨f0,f1,n0,n1,m0,m1,i0,i1⟩:=h;have hq:=pP (i*n) m;have hr:=kA (i*n) (show m≠0 by omega);have L:=iJ (i*n) (show 0<m by omega);generalize i*n/m=j at*;generalize i*n%m=r at*;unfold inW;have G:(j+1)*m=m*j+m:=by rw[iZ,kR,fM]
 have H:(i+1)*n=i*n+n:=by rw[iZ,kR]
 have W:(2*i+1)*n=2*(i*n)+n:=by rw[iZ,kR,pI]
 have F:2*m*j=2*(m*j):=pI _ _ _;have I:j*m=m*j:=fM _ _;split
 ·rw[G,H,I];omega
 ·rw[W,F];have A:db f=2∨db f=3:=by unfold db;rename_i U;rw[aq U];split<;>omega
  rcases A with A|A<;>rw[A]<;>omega
end Go.Crisp
namespace Go.Proofs.YtjljhnandbbldaaGreatDoor
open Go Go.Crisp
attribute [local irreducible] ag du bh stK aE vK qK bO gK fR bA mkK dy GQ IQ DT bsK
open _root_.Go.Proofs.Tryz
theorem zdG {h:ah}{f n m i:Int}:ag prog DD #[af f,af n,af m,af i] h λr h'=>r=.bool (decide (wK f n m i))∧h'=h:=by
 apply SB;unfold HN;simp only[go_sem];refine⟨?_,trivial⟩
 congr 1
 rw[ir];unfold wK;omega
abbrev jB (j:Int):Prop:= -137438953472≤j∧j≤137438953472
theorem JM {h:ah}{f n m i j:Int}(G:wK f n m i)(W:jB j):ag prog mm #[af n,af m,af i,af j] h λr h'=>
  r=.tuple #[af (2*m*j-(2*i+1)*n+m),af (2*max n m)]∧h'=h:=by
 apply ID;unfold xA;simp only[go_sem];have L:=W1 G;obtain⟨b1,b2,b3,b4,U⟩:=L;obtain⟨f0,f1,n0,n1,m0,m1,i0,i1⟩:=G;have I:=L5 (a:=j) (A:=137438953472) (b:=m) (B:=65536) ae ae ae ae;have H:2*m*j=2*(j*m):=by rw[pI,fM m j]
 rw[w64 (n:=2*m) ae ae,w64 (n:=2*n) ae ae,w64 (n:=2*m*j) ae ae,w64 (n:=2*i) ae ae,w64 (n:=2*i+1) ae ae,w64 (n:=(2*i+1)*n) ae ae,
  w64 (n:=2*m*j-(2*i+1)*n) ae ae,w64 (n:=2*m*j-(2*i+1)*n+m) ae ae]
 refine bF (λF h'=>F=[af (2*max n m)]∧h'=h) ?_ ?_
 ·refine ao (λhc=>?_) (λhc=>?_)
  ·exact⟨by rw[show max n m=m by omega],rfl⟩
  ·exact⟨by rw[show max n m=n by omega],rfl⟩
 rintro F ρj h1 ⟨rfl,hh⟩;exact⟨rfl,hh⟩
theorem zdH {h:ah}{f n m i j:Int}(G:wK f n m i)(L:jB j):ag prog rP #[af f,af n,af m,af i,af j] h λr h'=>
  r=.bool (decide (inW f n m i j))∧h'=h:=by
 apply U6;unfold KY;simp only[go_sem];have H:=G;have W:=W1 G;obtain⟨b1,b2,b3,b4,b5⟩:=W;obtain⟨f0,f1,n0,n1,m0,m1,i0,i1⟩:=G;have U:=L5 (a:=j) (A:=137438953472) (b:=m) (B:=65536) ae ae ae ae;have aa:(j+1)*m=j*m+m:=by rw[iZ,kR]
 refine ao (λF=>?_) (λF=>?_)
 ·rw[w64 (n:=i+1) ae ae,w64 (n:=(i+1)*n) ae ae,w64 (n:=j+1) ae ae,w64 (n:=(j+1)*m) ae ae,w64 (n:=i*n) ae ae,w64 (n:=j*m) ae ae];refine⟨?_,trivial⟩
  congr 1
  rw[ir];unfold inW;rw[aA F]
 ·refine(JM H L).mono λv1 h1 ⟨I,w1⟩=>?_
  have w1:=w1.symm;subst I w1;simp only[go_sem];rw[w64 (n:=2*(2*max n m)) ae ae,w64 (n:=3*(2*max n m)) ae ae,w64 (n:=0-2*(2*max n m)) ae ae,w64 (n:=0-3*(2*max n m)) ae ae];refine ao (λhc=>?_) (λhc=>?_)
  ·refine⟨?_,trivial⟩
   congr 1
   rw[ir];unfold inW db;rw[aq F,aq F,aq ae];omega
  ·refine⟨?_,trivial⟩
   congr 1
   rw[ir];unfold inW db;rw[aq F,aq F,aA ae];omega
theorem XC {h:ah}{f n m i j:Int}(A:wK f n m i)(F:jB j):ag prog rP #[af f,af n,af m,af i,af j] h λr h'=>
  r=.bool (decide (rA f n m i≤j∧j<oH f n m i))∧h'=h:=
 (zdH A F).mono λv h1 ⟨e,w⟩=>⟨by rw[e];congr 1;exact ir.2 (YS A),w⟩
theorem zcd {h:ah}{p q:Int}(G: -4611686018427387904≤p∧p≤4611686018427387904)(hq:I64 q):ag prog AN #[af p,af q] h λr h'=>r=af (Jz p q)∧Ext h h':=by
 apply Qe;unfold Fj
 try simp only[go_sem]
 unfold Jz;refine ao (λh0=>?_) (λh0=>?_)
 ·rw[aA ae];exact⟨rfl,Ext.refl _⟩
 rw[w64 (n:=2*q) ae ae,w64 (n:= -2*q) ae ae];refine ao (λh1=>?_) (λh1=>?_)
 ·rw[aA ae];exact⟨rfl,Ext.refl _⟩
 rw[aq ae];refine bF (λF h'=>F=[af (max p (-p))]∧h'=h) ?_ ?_
 ·refine ao (λhc=>?_) (λhc=>?_)
  ·rw[w64 ae ae];exact⟨by rw[show max p (-p)=0-p by omega],rfl⟩
  ·exact⟨by rw[show max p (-p)=p by omega],rfl⟩
 rintro F ρj H ⟨rfl,hh⟩;have hh:=hh.symm;subst hh;generalize max p (-p)=a
 try simp only[go_sem]
 simp only[zU,FT,vR,q8,zT,FS];unfold Xu;refine ao (λh1=>?_) (λh1=>?_)
 ·rw[aq ae];have A:3*(a*a*a)-5*(a*a)*q+2*(q*q*q)=3*(a*a*a)-5*(a*a*q)+2*(q*q*q):=by grind
  rw[A];exact jD (kF _) (by unfold I64;omega) (kF _)
 ·rw[aA ae];have A:5*(a*a)*q-a*a*a-8*a*(q*q)+4*(q*q*q)=4*(q*q*q)+5*(a*a*q)-a*a*a-8*(a*q*q):=by grind
  rw[A];exact jD (kF _) (by unfold I64;omega) (kF _)
theorem XB {h:ah}{f n m i j:Int}(G:wK f n m i)(W:jB j):ag prog xc #[af f,af n,af m,af i,af j] h λr h'=>
  r=af (zY f n m i j)∧Ext h h':=by
 apply LK;unfold Bg
 try simp only[go_sem]
 have H:=G;have hb:=W1 G;obtain⟨b1,b2,b3,b4,b5⟩:=hb;obtain⟨f0,f1,n0,n1,m0,m1,i0,i1⟩:=G;unfold zY;have ab:=L5 (a:=j) (A:=137438953472) (b:=m) (B:=65536) ae ae ae ae;have ad:(j+1)*m=j*m+m:=by rw[iZ,kR]
 have aa:2*m*j=2*(j*m):=by rw[pI,fM m j]
 refine ao (λI=>?_) (λI=>?_)
 ·rw[aA I];rw[w64 (n:=i+1) ae ae,w64 (n:=(i+1)*n) ae ae,w64 (n:=j+1) ae ae,w64 (n:=(j+1)*m) ae ae,w64 (n:=i*n) ae ae,w64 (n:=j*m) ae ae];refine bF (λL h'=>L=[af (max (i*n) (j*m))]∧h'=h) ?_ ?_
  ·refine ao (λhc=>?_) (λhc=>?_)
   ·exact⟨by rw[show max (i*n) (j*m)=j*m by omega],rfl⟩
   ·exact⟨by rw[show max (i*n) (j*m)=i*n by omega],rfl⟩
  rintro L ρj h2 ⟨rfl,hh⟩;have hh:=hh.symm;subst hh;simp only[go_sem];refine ao (λhc=>?_) (λhc=>?_)
  ·rw[w64 ae ae,show min ((i+1)*n) ((j+1)*m)=(j+1)*m by omega];exact jD (by unfold I64;omega) (by unfold I64;omega) (by unfold I64;omega)
  ·rw[w64 ae ae,show min ((i+1)*n) ((j+1)*m)=(i+1)*n by omega];exact jD (by unfold I64;omega) (by unfold I64;omega) (by unfold I64;omega)
 rw[aq I];refine(JM H W).mono λv1 h1 ⟨U,w1⟩=>?_
 have w1:=w1.symm;subst U w1;simp only[go_sem];refine ao (λF=>?_) (λF=>?_)
 ·rw[aA F];exact zcd ae (by unfold I64;omega)
 ·rw[aq F];exact VR (by unfold I64;omega) (by unfold I64;omega)
theorem zdF {h:ah}{f n m i:Int}:ag prog yn #[af f,af n,af m,af i] h λr h'=>
  ∃v,r=.tuple #[af (fW f n m i),v]∧New (Rp.int .i64) h h' v (dw f n m i):=by
 apply SA;unfold HM;refine zdG.mono λv1 h1 ⟨W,w1⟩=>?_
 have w1:=w1.symm;subst W w1;unfold fW dw;by_cases A:wK f n m i
 ·rw[aA A,aA A];simp only[go_sem,A];have ar:=Om A;have al:=MK A;have ab:=W1 A;obtain⟨b1,b2,b3,b4,b5⟩:=ab;have ad:=A;obtain⟨f0,f1,n0,n1,m0,m1,i0,i1⟩:=ad;have au:=tP (a:=i*n) (b:=m) (L:=0) (U:=4294967296) ae ae ae ae ae;rw[w64 (n:=i*n) ae ae,mU _ _ _ _ ae,aj,xW b1.1,w64 ae ae];generalize F:rA f n m i=lo at*;generalize G:oH f n m i=hi at*;generalize i*n/m=j0 at*;refine me (λk=>[af (j0-(k:Int))]) (j0-lo).toNat 0 (by simp) (b9 _) λk again ρj _ hk H=>?_
  simp only[go_sem];rw[w64 (n:=j0-(k:Int)-1) ae ae];refine(XC A ae).mono λv1 h1 ⟨W,w1⟩=>?_
  have w1:=w1.symm;subst W w1;rw[F,G];refine ao (λhc=>?_) (λhc=>?_)
  ·have H:=H ae;rw[show j0-((k+1:Nat):Int)=j0-(k:Int)-1 by omega]at H;exact H
  have hk:j0-(k:Int)=lo:=ae;rw[hk];refine me (λk=>[af lo]) 0 0 rfl (cf _) λk2 aa ρj2 _ an _=>?_
  simp only[go_sem];refine(XC A ae).mono λv1 h1 ⟨W,w1⟩=>?_
  have w1:=w1.symm;subst W w1;rw[F,G,cL ae];simp only[go_sem];refine bK (hi-lo).toNat 0 (λk v=>[af (lo+(k:Int)),v]) (λk v h'=>New (Rp.int .i64) h h' v ((Ev f n m i).take k)) (.slice none 0 0) (by simp) (b9 _) (New.nil (Ext.refl _)) λk v h2 again ρj _ hk hI H=>?_
  simp only[go_sem];have hl:(Ev f n m i).length=(hi-lo).toNat:=by unfold Ev;rw[cS,ft,F,G]
  refine(XC A ae).mono λv1 h3 ⟨W,w1⟩=>?_
  have w1:=w1.symm;subst W w1;rw[F,G];refine ao (λh0=>?_) (λh0=>?_)
  ·refine(XB A ae).mono λv2 h3 ⟨e2,w2⟩=>?_
   subst e2;have I:((Ev f n m i).take k).length=k:=by rw[de];omega
   refine(hI.ext w2).push_int rfl (by rw[I];omega) (by rw[I];omega) λs' h' H'=>?_
   try simp only[go_sem]
   rw[w64 ae ae];have:=H s' h' ae (by
    have e:=oR (λk:Nat=>zY f n m i (rA f n m i+k)) (oH f n m i-rA f n m i).toNat k ae;unfold Ev at H' ⊢;rw[e,F];rw[F]at H';exact H')
   rw[show lo+((k+1:Nat):Int)=lo+(k:Int)+1 by omega]at this;exact this
  ·rw[fB ae]at hI;exact⟨v,rfl,hI⟩
 ·rw[aq A,aq A];simp only[go_sem,A];exact⟨_,rfl,New.nil (Ext.refl _)⟩
end Go.Proofs.YtjljhnandbbldaaGreatDoor
namespace Go.Proofs.YtjljhnandbbldaaGreatDoor
open Go Go.Crisp
attribute [local irreducible] ag du bh stK aE vK qK bO gK fR bA mkK dy GQ IQ DT bsK clK
open _root_.Go.Proofs.Tryz
theorem VP {h:ah}{a b:Int}(A:I64 a)(F:I64 b):ag prog vJ #[af a,af b] h λr h'=>r=af (EO a b)∧h'=h:=by
 apply P9;unfold Fe;simp only[go_sem,jw];unfold EO I64 at*;refine ao (λh0=>?_) (λh0=>?_)
 ·exact⟨by congr 1;omega,trivial⟩
 refine ao (λh1=>?_) (λh1=>?_)
 ·exact⟨by congr 1;omega,trivial⟩
 ·exact⟨by congr 1;omega,trivial⟩
theorem VQ {h:ah}{x:Int}(A:I64 x):ag prog vL #[af x] h λr h'=>r=af (oC x)∧h'=h:=by
 apply Qb;unfold Fg;rw[Hm A];simp only[go_sem,jw];unfold I64 at*;refine ao (λh0=>?_) (λh0=>?_)
 ·exact⟨by congr 1;omega,trivial⟩
 refine ao (λh1=>?_) (λh1=>?_)
 ·exact⟨by congr 1;omega,trivial⟩
 ·exact⟨by congr 1;omega,trivial⟩
theorem zdE {Z:Nat→Prop}{h:ah}{v:Value}{l:List Int}(H:SlI Z h v l)(G:∀x∈l,I64 x)(hl:l.length<4611686018427387904):ag prog DC #[v] h λr h'=>r=af (nK l)∧h'=h:=by
 apply Sy;unfold HI;obtain⟨a,cap,e⟩:=H.isSl;have U:aC v=some (af (l.length:Int)):=by rw[e];rfl
 rw[U,aj];refine me (λi=>[af ((l.take i).foldl EO 0),af (i:Int)]) l.length 0 rfl (b9 _) λi again ρj _ hi F=>?_
 simp only[go_sem];refine ao (λh0=>?_) (λh0=>?_)
 ·have A:i<l.length:=ae;obtain⟨p,W,I⟩:=H.int_at (k':=.i64) A;simp only[go_sem,W,I];refine(VP (rG zP _ _ zR) (G _ (cG _))).mono λv1 h1 ⟨L,w1⟩=>?_
  subst L w1;rw[w64 ae ae];have:=F A;rw[DM A]at this;exact this
 ·rw[fB ae];exact⟨rfl,trivial⟩
theorem zan {Z:Nat→Prop}{h:ah}{v:Value}{l:List Int}(H:SlI Z h v l)(I:∀x∈l,I64 x)(hl:l.length<4611686018427387904):ag prog yK #[v] h λr h'=>r=af (nN l)∧h'=h:=by
 apply Nr;unfold BU;obtain⟨a,cap,e⟩:=H.isSl;have W:aC v=some (af (l.length:Int)):=by rw[e];rfl
 rw[W,aj];refine me (λi=>[af ((l.take i).foldl (λs x=>EO s (oC x)) 0),af (i:Int)]) l.length 0 rfl (b9 _) λi again ρj _ hi G=>?_
 simp only[go_sem];refine ao (λh0=>?_) (λh0=>?_)
 ·have A:i<l.length:=ae;obtain⟨p,e3,U⟩:=H.int_at (k':=.i64) A;simp only[go_sem,e3,U];have L:=I _ (cG A);refine(VQ L).mono λv1 h1 ⟨F,w1⟩=>?_
  subst F w1;refine(VP (rG (λa b=>zP a (oC b)) _ _ zR) (QR L)).mono λv1 h1 ⟨F,w1⟩=>?_
  subst F w1
  try simp only[go_sem]
  rw[w64 ae ae];have:=G A;rw[DM A]at this;exact this
 ·rw[fB ae];exact⟨rfl,trivial⟩
theorem PJ (l:List Int):0≤nN l∨¬ ∀x∈l,I64 x:=by
 by_cases h:∀x∈l,I64 x
 ·left;unfold nN;have:∀(l:List Int) (s:Int),(∀x∈l,I64 x)→0≤s→0≤l.foldl (λs x=>EO s (oC x)) s:=by
   intro l;induction l with
   |nil=>intro s _ A;exact A
   |cons x l F=>
    intro s h A;refine F _ (λy G=>h y (by simp[G])) ?_;have H:=Hm (h x (by simp));show 0≤EO s (oC x);rw[H];unfold EO;omega
  exact this l 0 h (dT _)
 ·exact .inr h
theorem Pe {Z:Nat→Prop}{h:ah}{v:Value}{l:List Int}(H:SlI Z h v l)(G:∀x∈l,I64 x)(hl:l.length<4611686018427387904):
  ag prog qw #[v] h λr h'=>∃u,r=.tuple #[u,af (BL l)]∧New (Rp.int .i64) h h' u (sP l):=by
 apply Qa;unfold Ff;refine(zan H G hl).mono λv1 h1 ⟨e1,w1⟩=>?_
 have w1:=w1.symm;subst e1 w1;obtain⟨a,cap,e⟩:=H.isSl;have W:aC v=some (af (l.length:Int)):=by rw[e];rfl
 simp only[go_sem,W];rw[em _ _ _ _ ae,aj,kz ae];simp only[go_sem,W];unfold BL sP;have hs:=ML l;have aa:0≤nN l:=(PJ l).resolve_right λhh=>hh G
 refine ao (λh0=>?_) (λh0=>?_)
 ·have:kq l:=by unfold kq;omega
  rw[aA this,aA this];exact⟨_,rfl,New.nil (Ext.refl _)⟩
 ·have U:¬kq l:=by unfold kq;omega
  rw[aq U,aq U];refine bK l.length 0 (λk u=>[u,af (k:Int)]) (λk u h'=>New (Rp.int .i64) h h' u ((l.map λx=>cZ x 1073741824 (nN l)).take k)) (.slice none 0 0) rfl (b9 _) (New.nil (Ext.refl _)) λk u h2 again ρj _ hk I L=>?_
  simp only[go_sem];refine ao (λh0=>?_) (λh0=>?_)
  ·have F:k<l.length:=ae;obtain⟨p,e3,e4⟩:=(H.ext I.2.1).int_at (k':=.i64) F;simp only[go_sem,e3,e4];refine(jD (G _ (cG _)) (by unfold I64;omega) hs).mono λv2 h3 ⟨e5,w5⟩=>?_
   subst e5;have A:((l.map λx=>cZ x 1073741824 (nN l)).take k).length=k:=by rw[de,cS];omega
   unfold kq at U;refine(I.ext w5).push_int rfl (by rw[A];omega) (by rw[A];omega) λs' h' H'=>?_
   try rw[dC,aj]
   rw[w64 ae ae];have:=L s' h' F (by rw[FM _ _ F];exact H');exact this
  ·rw[fB (by rw[cS];omega)]at I;exact⟨u,rfl,I⟩
theorem T0 {h:ah}{s:Int}(hs:I64 s):ag prog rO #[af s] h λr h'=>∃u,r=.tuple #[u,af (GK s)]∧New (Rp.int .i64) h h' u (pS s):=by
 apply IC;unfold xz;simp only[go_sem];unfold GK pS;refine ao (λh0=>?_) (λh0=>?_)
 ·have:mT s:=h0;rw[aA this,aA this];exact⟨_,rfl,New.nil (Ext.refl _)⟩
 ·have L:¬mT s:=h0;rw[aq L,aq L];have hr:0≤ie s∧ie s≤193∧65536*ie s≥3*s∧65536*(ie s-1)<3*s:=by unfold ie;omega
  generalize ie s=q at*;refine me (λk=>[af (k:Int)]) q.toNat 0 rfl (b9 _) λk again ρj _ hk F=>?_
  simp only[go_sem];rw[w64 (n:=(k:Int)*65536) ae ae,w64 (n:=3*s) ae ae];refine ao (λh1=>?_) (λh1=>?_)
  ·rw[w64 ae ae];exact F ae
  have I:(k:Int)=q:=ae;rw[I,w64 (n:=0-q) ae ae];obtain⟨N,hN⟩:∃N,N=(2*q+1).toNat:=⟨_,rfl⟩
  rw[←hN];refine bK N 0 (λk u=>[u,af ((k:Int)-q)]) (λk u h'=>New (Rp.int .i64) h h' u (((List.range N).map λk:Nat=>Dd ((k:Int)-q) s).take k)) (.slice none 0 0) rfl (b9 _) (New.nil (Ext.refl _)) λk u h2 again ρj _ hk H F=>?_
  simp only[go_sem];refine ao (λU=>?_) (λU=>?_)
  ·have G:k<N:=ae;refine(zap (by unfold I64;omega) hs).mono λv2 U ⟨e5,w5⟩=>?_
   subst e5;have A:(((List.range N).map λk:Nat=>Dd ((k:Int)-q) s).take k).length=k:=by rw[de,cS,ft];omega
   refine(H.ext w5).push_int rfl (by rw[A];omega) (by rw[A];omega) λW h' H'=>?_
   try rw[dC,aj]
   rw[w64 ae ae];have:=F W h' G (by rw[oR _ _ _ G];exact H');rw[show((k+1:Nat):Int)-q=(k:Int)-q+1 by omega]at this;exact this
  ·rw[fB (by rw[cS,ft];omega)]at H;exact⟨u,rfl,H⟩
theorem zcc {h:ah}{r:Int}(hr:I64 r):ag prog AM #[af r] h λw h'=>∃u,w=.tuple #[u,af (RN r)]∧New (Rp.int .i64) h h' u (zN r):=by
 apply Qd;unfold Fi
 try simp only[go_sem]
 unfold RN zN;refine ao (λh0=>?_) (λh0=>?_)
 ·have:vE r:=h0;rw[aA this,aA this];exact⟨_,rfl,New.nil (Ext.refl _)⟩
 ·have G:¬vE r:=h0;rw[aq G,aq G];rw[w64 (n:=2*r) ae ae]
  try simp only[go_sem]
  rw[w64 (n:=2*r+1) ae ae];obtain⟨N,W⟩:∃N:Nat,N=(2*r+1).toNat:=⟨_,rfl⟩
  rw[←W,show 2*r+1=(N:Int)by omega];refine bK N 0 (λk u=>[u,af (k:Int)]) (λk u h'=>New (Rp.int .i64) h h' u (List.replicate k 1)) (.slice none 0 0) rfl (b9 _) (New.nil (Ext.refl _)) λk u h2 again ρj _ hk F A=>?_
  simp only[go_sem];refine ao (λI=>?_) (λI=>?_)
  ·refine F.push_int rfl (by rw[pM];omega) (by rw[pM];omega) λL h' H=>?_
   try rw[dC,aj]
   rw[w64 ae ae];rw[←List.replicate_succ']at H;exact A L h' ae H
  ·have:k=N:=ae;subst this;refine(Pe F.sl (λx hx=>by rw[(Ma.1 hx).2];unfold I64;omega) (by rw[pM];omega)).mono λw I ⟨u,e,U⟩=>?_
   subst e
   try simp only[go_sem]
   exact⟨u,rfl,U.before F.2.1⟩
theorem Si {k:IntKind}{Z:Nat→Prop}{h:ah}{v:Value}{l:List Int}(H:Rp.Ow (Rp.int k) Z h v l):Own 1 h v l.length (l.map λn=>Value.int k n):=by
 obtain⟨ds,F,_,G⟩:=H;have L:ds.length=l.length*1:=F.sl.1;have e:ds=l.map λn=>Value.int k n:=by
  apply rE
  ·simp;omega
  ·intro i h1 U;have I:=G i ae;have A:Rp.el 1 ds i=[Value.int k (l[i]'ae)]:=I;rw[Rp.el_one h1]at A;simpa using A
 rw[←e];exact F
structure PE (h0 h:ah)(x y:Value)(l m:List Int):Prop where
 ext:Ext h0 h
 ox:Rp.Ow (Rp.int .i64) (λ_=>False) h x l
 oy:Rp.Ow (Rp.int .i64) (λ_=>False) h y m
 nx:∀b,blk x b→h0.size≤b
 ny:∀b,blk y b→h0.size≤b
 dis:∀b,blk x b→¬blk y b
theorem PE.more {h0 h h':ah}{x y:Value}{l m:List Int}(T:PE h0 h x y l m)(e:Ext h h'):PE h0 h' x y l m:=⟨T.ext.trans e,T.ox.ext e,T.oy.ext e,T.nx,T.ny,T.dis⟩
theorem PE.push_x {h0 h:ah}{x y:Value}{l m:List Int}{n:Int}{t U:TypeId}{bytes:Nat}{K:Value→ah→Prop}(T:PE h0 h x y l m)(A:(l.length+1)*bytes≤140737488355328)(W:l.length+1≤9223372036854775807)
  (H:∀G h',PE h0 h' G y (l++[n]) m→K G h'):du #[ai] t 1 [(0,1,af n)] h λv2 h3=>dy ai U 1 bytes x v2 h3 K:=by
 refine Rp.push_ow1 (e:=Rp.int .i64) rfl T.ox (x:=n) rfl rfl A W (λb A=>A.elim) λL h' o' I n'=>H L h' ⟨T.ext.then_fr I T.nx,o',T.oy.fr I (λ_ _=>False.elim) λb A hx=>T.dis b hx A,λb A=>?_,T.ny,λb A F=>?_⟩
 ·rcases n' b A with h1|h1
  ·exact T.nx b h1
  ·exact bB T.ext.1 h1
 ·rcases n' b A with h1|h1
  ·exact T.dis b h1 F
  ·have:=T.oy.lt F;omega
theorem PE.swap {h0 h:ah}{x y:Value}{l m:List Int}(T:PE h0 h x y l m):PE h0 h y x m l:=⟨T.ext,T.oy,T.ox,T.ny,T.nx,λb A F=>T.dis b F A⟩
theorem uf {β:Type}(g:Nat→β)(n k:Nat)(h:k<n):(List.range (k+1)).map g=(List.range k).map g++[g k]:=by
 rw[mA,jA];rfl
theorem FP {Z:Nat→Prop}{h:ah}{v:Value}{l:List Int}(H:SlI Z h v l)(ab:∀x∈l,I64 x)(hl:l.length<4611686018427387904):
  ag prog jk #[v] h λr h'=>∃u,r=.tuple #[u,af (df l)]∧New (Rp.int .i64) h h' u (cD l):=by
 apply Gm;unfold wh;obtain⟨a,cap,e⟩:=H.isSl;have e2:aC v=some (af (l.length:Int)):=by rw[e];rfl
 simp only[go_sem,e2];refine ao (λh0=>?_) (λh0=>?_)
 ·have hB:GZ l:=by unfold GZ;rcases h0 with h2|h2;exact .inl ae;exact .inr (.inl ae)
  have hc:df l=7:=by unfold df;rw[aA hB]
  unfold cD;rw[hc,aq ae];exact⟨_,rfl,New.nil (Ext.refl _)⟩
 refine bK (α:=Unit) l.length 0 (λi _=>[af (i:Int)]) (λi _ h'=>(∀j (W:j<l.length),j<i→¬1099511627776<oC l[j])∧h'=h) () rfl (b9 _) ⟨λj _ W=>absurd W ae,rfl⟩ λi _ h1 again ρj _ hi ⟨hs,eh⟩ al=>?_
 have eh:=eh.symm;subst eh;simp only[go_sem];refine ao (λh2=>?_) (λh2=>?_)
 ·have L:i<l.length:=ae;obtain⟨p,e3,e4⟩:=H.int_at (k':=.i64) L;simp only[go_sem,e3,e4];have hx:=ab _ (cG L);refine(VQ hx).mono λv1 h1 ⟨e1,w1⟩=>?_
  have w1:=w1.symm;subst e1 w1;simp only[go_sem];refine ao (λF=>?_) (λF=>?_)
  ·have hB:GZ l:=.inr (.inr ⟨_,cG L,F⟩);have hc:df l=7:=by unfold df;rw[aA hB]
   unfold cD;rw[hc,aq ae];exact⟨_,rfl,New.nil (Ext.refl _)⟩
  ·rw[w64 ae ae];refine al () h L ⟨λj W cp=>?_,rfl⟩;by_cases b3:j=i
   ·subst b3;exact F
   ·exact hs j W ae
 have bg:i=l.length:=ae;subst bg;have hB:¬GZ l:=by
  unfold GZ;rintro(F|F|⟨x,hx,F⟩)
  ·omega
  ·omega
  ·obtain⟨j,W,rfl⟩:=List.getElem_of_mem hx;exact hs j W W F
 refine(zdE H ab hl).mono λv1 h1 ⟨e1,w1⟩=>?_
 have w1:=w1.symm;subst e1 w1;simp only[go_sem];refine ao (λF=>?_) (λF=>?_)
 ·have hc:df l=8:=by unfold df;rw[aq hB,aA F]
  unfold cD;rw[hc,aq ae];exact⟨_,rfl,New.nil (Ext.refl _)⟩
 have hc:df l=0:=Lj.2 ⟨hB,ae⟩;have G:=zbE ab hc;have s1:=G.sum;have b8:=Uv l;have hn:=G.len;have be:=G.pos;unfold cD;rw[aA hc,hc];refine bK (α:=Value×Value) l.length 0 (λk a=>[a.1,a.2,af (wS l k),af (k:Int)]) (λk a h'=>PE h h' a.1 a.2 ((List.range k).map (gT l)) ((List.range k).map (eG l))) (.slice none 0 0,.slice none 0 0) rfl (b9 _)
  ⟨Ext.refl _,Rp.Ow.nil,Rp.Ow.nil,λb A=>A.elim,λb A=>A.elim,λb A=>A.elim⟩ λk a h1 again ρj _ hk T al=>?_
 obtain⟨x,y⟩:=a;have T:PE h h1 x y ((List.range k).map (gT l)) ((List.range k).map (eG l)):=T;simp only[go_sem];refine ao (λh4=>?_) (λh4=>?_)
 ·have ad:k<l.length:=ae;obtain⟨p,e3,e4⟩:=(H.ext T.ext).int_at (k':=.i64) ad;simp only[go_sem,e3,e4];have eg:l.getD k 0=l[k]:=by simp[dA,ad]
  have hx:=G.small k;rw[eg]at hx;rw[w64 (n:=l[k]*16384) ae ae];refine(RC (by unfold I64;omega) b8).mono λv1 h4 ⟨e5,w5⟩=>?_
  subst e5;rw[rH (by unfold I64;omega) ae];have eb:l[k]*16384/nK l=gT l k:=by unfold gT;rw[eg]
  have er:eG l k=l[k]*16384-gT l k*nK l:=by unfold eG;rw[←eb,eg,Int.emod_def,fM (nK l)]
  rw[eb];have a8:=zO G k;have ci:=Ot G k;have bd:=M9 G k;refine(T.more w5).push_x (by rw[cS,ft];omega) (by rw[cS,ft];omega) λx' h5 T=>?_
  try simp only[go_sem]
  have cr:gT l k*nK l=l[k]*16384-eG l k:=by rw[er];omega
  have ca:eG l k<nK l:=bd.2;have ct:nK l≤1152921504606846976:=by
   have h6:=Se G l.length;rw[←QO G]at h6;have:(l.length:Int)*1099511627776≤1048576*1099511627776:=ae;omega
  rw[w64 (n:=gT l k*nK l) ae ae,←er,w64 (n:=eG l k) ae ae];refine T.swap.push_x (by rw[cS,ft];omega) (by rw[cS,ft];omega) λy' h6 T=>?_
  try simp only[go_sem]
  rw[w64 (n:=wS l k-gT l k) ae ae,w64 (n:=(k:Int)+1) ae ae];refine al (x',y') h6 ad ?_;rw[uf _ (k+1) k ae,uf _ (k+1) k ae];exact T.swap
 have bc:k=l.length:=ae;subst bc;obtain⟨L0,L1⟩:=left_bd G;obtain⟨m,hm⟩:∃m:Nat,zG l=(m:Int):=⟨(zG l).toNat,ae⟩
 have b4:wS l l.length=(m:Int):=hm;rw[b4];have o1:=Si T.ox;have o2:=Si T.oy;rw[cS,ft,yg]at o1 o2;have au:=T.dis;have nx:=T.nx;have ny:=T.ny;have E1:=T.ext;obtain⟨ya,ax,ey⟩:=o2.isSl;have ey:y=.slice ya l.length ax:=ey;have bv:aC y=some (af (l.length:Int)):=by rw[ey];rfl
 refine bK (α:=Unit) m 0 (λk _=>[af ((m:Int)-(k:Int))])
  (λk _ h'=>Ext h h'∧Own 1 h' x l.length ((List.range l.length).map λi=>af (gT l i+(if(my (eG l) l.length i:Int)<(k:Int)then 1 else 0)))∧Own 1 h' y l.length ((List.range l.length).map λi=>af (ku (eG l) l.length k i)))
  () (by simp) (b9 _) ⟨E1,by
   rw[bS (f:=λi=>af (gT l i)) (λi hi=>by rw[aq ae,Int.add_zero])];exact o1,by rw[UR];exact o2⟩ λk _ h2 a7 ρj2 _ hk ⟨E2,q1,q2⟩ an=>?_
 simp only[go_sem];refine ao (λh5=>?_) (λh5=>?_)
 ·have bo:k<m:=ae;rw[bv,aj];have bk:∀i,i<l.length→0≤eG l i:=λi _=>(M9 G i).1
  refine bK (α:=Nat) l.length 0 (λj b=>[af (b:Int),af (j:Int)])
   (λj b h'=>h'=h2∧b<l.length∧(∀i,i<j→ku (eG l) l.length k i≤ku (eG l) l.length k b)∧(∀i,i<b→ku (eG l) l.length k i<ku (eG l) l.length k b)∧b≤j) 0 rfl (b9 _)
   ⟨rfl,be,λi hi=>absurd hi ae,λi hi=>absurd hi ae,cf _⟩ λj b F ay ρj3 _ W ⟨eh,A,p1,p2,cb⟩ U=>?_
  have eh:=eh.symm;subst eh;simp only[go_sem];refine ao (λh6=>?_) (λh6=>?_)
  ·have I:j<l.length:=ae;obtain⟨pj,j1,j2,_⟩:=Own.at_map q2 (k:=.i64) I;obtain⟨pb,b1,b2,_⟩:=Own.at_map q2 (k:=.i64) A;simp only[go_sem,j1,j2,b1,b2];rw[w64 (n:=(j:Int)+1) ae ae];refine ao (λh7=>?_) (λh7=>?_)
   ·refine U j h2 I ⟨rfl,I,λi hi=>?_,λi hi=>?_,ae⟩
    ·by_cases aa:i=j
     ·rw[aa];exact dT _
     ·have:=p1 i ae;omega
    ·have:=p1 i hi;omega
   ·refine U b h2 I ⟨rfl,A,λi hi=>?_,p2,ae⟩;by_cases aa:i=j
    ·rw[aa];omega
    ·exact p1 i ae
  have b7:j=l.length:=ae;subst b7;have ar:=zaL bk (k:=k) ae A p1 p2;obtain⟨px,x1,x2,x3⟩:=Own.at_map q1 (k:=.i64) A;simp only[go_sem,x1,x2];have a8:=zO G b;rw[w64 (n:=gT l b+(if(my (eG l) l.length b:Int)<(k:Int)then 1 else 0)+1) (by split<;>omega) (by split<;>omega)];refine x3 _ _ λF a9 f3=>?_
  have b0:=q2.fr f3 λc hc hx=>au c hx hc
  obtain⟨py,y1,y2,y3⟩:=Own.at_map b0 (k:=.i64) A;simp only[go_sem,y1];refine y3 _ _ λh4 b5 f4=>?_
  have b6:=a9.fr f4 λc hc hy=>au c hc hy
  rw[w64 ae ae,show(m:Int)-(k:Int)-1=(m:Int)-((k+1:Nat):Int)by omega];refine an () h4 bo ⟨(E2.then_fr f3 nx).then_fr f4 ny,?_,?_⟩
  ·rw[bS (f:=λj=>af (if j=b then gT l b+(if(my (eG l) l.length b:Int)<(k:Int)then 1 else 0)+1 else gT l j+if(my (eG l) l.length j:Int)<(k:Int)then 1 else 0)) (λi hi=>by
    congr 1
    by_cases he:i=b
    ·rw[aA he,he,aA ae,aq ae];omega
    ·rw[aq he];have cc:my (eG l) l.length i≠k:=λe=>he (Ix hi A (e.trans ar.symm))
     by_cases h8:my (eG l) l.length i<k
     ·rw[aA ae,aA ae]
     ·rw[aq ae,aq ae])]
   exact b6
  ·rw[bS (f:=λj=>af (if j=b then-1 else ku (eG l) l.length k j)) (λi hi=>by rw[US A ar hi])];exact b5
 ·have:k=m:=ae;subst this;refine⟨x,rfl,⟨(nJ l).map λn=>af n,?_,λc _=>id,λi hi=>?_⟩,E2,nx⟩
  ·rw[ri];unfold nJ;rw[yg];simp only[←hm]at q1;exact q1
  ·have e:Rp.el (Rp.int .i64).w ((nJ l).map λn=>af n) i=[af (nJ l)[i]]:=by
    have:=Rp.el_one (ds:=(nJ l).map λn=>af n) (i:=i) (by simpa using hi);rw[dX]at this;exact this
   exact e
end Go.Proofs.YtjljhnandbbldaaGreatDoor
namespace Go.Proofs.YtjljhnandbbldaaGreatDoor
open Go Go.Crisp
attribute [local irreducible] ag du bh stK aE vK qK bO gK fR bA mkK dy GQ IQ DT bsK
open _root_.Go.Proofs.Tryz
theorem KM (a:Option Addr)(n c:Nat):ak .sl .eql (.slice a n c) (.slice none 0 0)=some (.bool a.isNone):=by cases a<;>rfl
theorem zaH {h:ah}{Z:Nat→Prop}{v:Value}{l:List Int}(H:Rp.Sl rI Z h v l)(hl:l.length≤1000000000):
  ag prog dt #[v] h λr h'=>Rp.Sl rI (λb=>h.size≤b) h' r l∧Ext h h':=by
 apply jU;unfold gv;obtain⟨ds,⟨F,a,cap,rfl,G⟩,A,he⟩:=H;rw[KM,aj];cases a with
 | none=>
  have:l=[]:=by
   rcases G with G|⟨b,o,h0,_⟩
   ·subst G;have h2:([]:List Value).length=l.length*1:=F;exact nZ (by simpa using h2.symm)
   ·cases h0
  subst this;simp only[Tl,go_sem];exact⟨Rp.Sl.nil,Ext.refl _⟩
 | some a=>
  simp only[Tk,go_sem];refine di (c':=#[]) rfl λb h1 r1 I n1=>?_
  have O:Rp.Ow rI (λ_=>False) h1 (.slice (some ⟨b,0,none⟩) 0 0) []:=⟨[],.inr ⟨b,0,[],_,rfl,cf _,rfl,rfl,r1⟩,λb hb L=>L,λi hi=>absurd hi (by simp)⟩
  have S1:SlC 1 h1 (.slice (some a) l.length cap) l.length ds:=SlC.ext ⟨F,some a,cap,rfl,G⟩ I;refine Rp.app_ow (e:=rI) (l:=[]) (l2:=l) O S1 (λi hi=>he i hi) rfl (by simp;omega) (by simp;omega) (λb hb=>hb.elim) λv2 h2 W f2 n2=>?_
  rw[fX]at W;have nb:∀k,blk (.slice (some ⟨b,0,none⟩) 0 0) k→h.size≤k:=λk hk=>by have:k=b:=hk;omega
  refine⟨W.sl.mono λk hk A=>?_,I.then_fr f2 nb⟩;rcases A with A|A
  ·exact A.elim
  ·rcases n2 k A with U|U
   ·exact nb k U
   ·exact bB I.1 U
end Go.Proofs.YtjljhnandbbldaaGreatDoor
namespace Go.Crisp
open Go
def dN (g:Nat→Int):Nat→Int
 |0=>0
 |k+1=>if dN g k≠0 then dN g k else g k
theorem FN {g:Nat→Int}{k n:Nat}(h:dN g k≠0)(F:k≤n):dN g n=dN g k:=by
  induction n with
  | zero => have:k=0:=ae
            rw[this]
  | succ n A=>
    rcases pK n k with h1|h1
    · have:k=n+1:=ae
      rw[this]
    · have:=A h1
      show(if dN g n≠0 then dN g n else g n)=_;rw[this,aA h]
end Go.Crisp
namespace Go.Proofs.YtjljhnandbbldaaGreatDoor
open Go Go.Crisp
attribute [local irreducible] ag du bh stK aE vK qK bO gK fR bA mkK dy GQ IQ DT bsK clK
open _root_.Go.Proofs.Tryz
def bE (n:Int):Prop:=1≤n∧n≤65536
instance (n:Int):Decidable (bE n):=by unfold bE;infer_instance
theorem Vz (f:Int):VA f=[]↔ ¬(0≤f∧f<3):=by
 unfold VA;split
 ·constructor
  ·intro h;cases h
  ·intro h;omega
 split
 ·constructor
  ·intro h;cases h
  ·intro h;omega
 split
 ·constructor
  ·intro h;cases h
  ·intro h;omega
 ·constructor
  ·intro _;omega
  ·intro _;rfl
def dH (f n m:Int):Int:=if¬(0≤f∧f<3)∨¬bE n∨¬bE m then 6 else dN (λi=>df (dw f n m i)) m.toNat
def gn (f n m:Int):Tbl:=⟨n,(List.range m.toNat).map λi:Nat=>(fW f n m i,cD (dw f n m i))⟩
theorem wF (f n m i:Int):∀x∈dw f n m i,I64 x:=by
 unfold dw;split
 ·intro x A;unfold Ev at A;obtain⟨k,_,rfl⟩:=fO.1 A;exact Wr _ _ _ _ _
 ·simp
theorem M8 (f n m i:Int):(dw f n m i).length<4611686018427387904:=by
 unfold dw;split
 ·rename_i h;unfold Ev;rw[cS,ft];have:=Om h;omega
 ·simp
theorem rJ {l:List Int}(A:∀x∈l,I64 x):(cD l).length≤1048576∧∀x∈cD l, -67108864≤x∧x≤67108865:=by
 unfold cD;split
 ·rename_i h;have G:=zbE A h;exact⟨by rw[ri];exact G.len,Zx G⟩
 ·simp
theorem Ls {l:List Int}(A:∀x∈l,I64 x):∀x∈cD l,I64 x:=λx F=>by
 have:=(rJ A).2 x F;unfold I64;omega
def XV (h:ah)(code:Int)(t:Tbl)(r:Value)(h':ah):Prop:=∃p,r=.tuple #[p,.int .i64 code]∧Ext h h'∧(code≠0→p=.pointer none)∧(code=0→gi (λc=>h.size≤c∧c<h'.size) h' p t)
theorem Po {h:ah}(G:eW h){f n m:Int}(hf:I64 f)(hn:I64 n)(hm:I64 m):ag prog lT #[af f,af n,af m] h (XV h (dH f n m) (gn f n m)):=by
 apply LF;unfold Bb;refine(Ry G).mono λv1 h1 ⟨W,w1⟩=>?_
 subst W w1;rw[Zo,Pz,aj];unfold dH;have al:=Vz f;have L:(¬(0≤f∧f<3)∨¬bE n∨¬bE m)→XV h1 (if¬(0≤f∧f<3)∨¬bE n∨¬bE m then 6 else dN (λi=>df (dw f n m i)) m.toNat) (gn f n m) (.tuple #[.pointer none,af 6]) h1:=by
  intro hb;rw[aA hb];exact⟨_,rfl,Ext.refl _,λ_=>rfl,λh=>by cases h⟩
 by_cases h0:VA f=[]
 ·have A:=L (.inl (al.1 h0));simp only[go_sem,h0];exact A
 have ax:0≤f∧f<3:=cq λh=>h0 (al.2 h)
 simp only[go_sem,h0];refine Dl.mono λv1 h2 ⟨W,w1⟩=>?_
 subst W w1;by_cases H:¬bE n
 ·have A:=L (.inr (.inl H));have q:(1≤n∧n≤65536)=False:=gm H;simp only[go_sem,q];exact A
 have H:bE n:=cq H;have q:(1≤n∧n≤65536)=True:=jW H;simp only[go_sem,q];refine Dl.mono λv1 h3 ⟨W,w1⟩=>?_
 subst W w1;by_cases F:¬bE m
 ·have A:=L (.inr (.inr F));have q:(1≤m∧m≤65536)=False:=gm F;simp only[go_sem,q];exact A
 have F:bE m:=cq F;have q:(1≤m∧m≤65536)=True:=jW F;simp only[go_sem,q,YZ (a:=af n) rfl,cR];rw[aq (by rintro(h|h|h);exact h ax;exact h H;exact h F)]
 clear L q
 refine aJ λb h4 r4 e4 n4=>?_
 have ad:=H;have aa:=F;unfold bE at ad aa;have I:∀k:Nat,((List.range k).map λi:Nat=>(fW f n m i,cD (dw f n m i))).length=k:=λk=>by simp
 refine bK m.toNat 0 (λk (_:Unit)=>[af (k:Int)]) (λk _ h'=>dN (λi=>df (dw f n m i)) k=0∧∃Z lv,FQ h3 Z h' b 224 lv n ((List.range k).map λi:Nat=>(fW f n m i,cD (dw f n m i)))) () rfl (b9 _)
  ⟨rfl,λ_=>False,_,e4,r4,Rp.Ow.nil,n4,λc hc=>hc.elim,id,id,λc hc=>hc.elim⟩ λk _ h5 again ρj _ hk ⟨hg,Z,lv,T⟩ ar=>?_
 try simp only[go_sem]
 refine ao (λh6=>?_) (λh6=>?_)
 ·have ab:k<m.toNat:=ae;have G5:=G.ext T.ext;refine(VM G5).mono λw h7 ⟨v,e,Nw⟩=>?_
  subst e
  try simp only[go_sem]
  refine(Dt Nw.sl (wF _ _ _ _) (M8 _ _ _ _)).mono λw h8 ⟨u,e,Nu⟩=>?_
  subst e
  try simp only[go_sem]
  refine ao (λU=>?_) (λU=>?_)
  ·have hc:dN (λi=>df (dw f n m i)) (k+1)=df (dw f n m k):=by
    show(if dN (λi=>df (dw f n m i)) k≠0 then _ else _)=_;rw[aq (by rw[hg];simp)]
   have hs:=FN (g:=λi=>df (dw f n m i)) (k:=k+1) (n:=m.toNat) (by rw[hc];exact U) ab;rw[hs,hc];exact⟨_,rfl,(T.ext.trans Nw.2.1).trans Nu.2.1,λ_=>rfl,λh=>absurd h U⟩
  ·have U:df (dw f n m k)=0:=cq U;have bd:=rJ (wF f n m k);have T2:FQ h3 (λc=>Z c∨blk u c) h8 b 224 lv n _:=T.more (Z':=λc=>Z c∨blk u c) (Nw.2.1.trans Nu.2.1) (λc=>.inl) λc hc hz=>by
    rcases hc with hc|hc
    ·exact absurd hc hz
    ·exact⟨bB Nw.2.1.1 (Nu.2.2 c hc),Nu.1.lt hc⟩
   refine(O9 T2 (Nu.sl.mono λc _ hc=>.inr hc) (Ls (wF _ _ _ _)) ae (by rw[I];omega)).mono λw au ⟨an,T3,_⟩=>?_
   rw[w64 ae ae];refine ar () au ab ⟨?_,λc=>Z c∨blk u c,an,?_⟩
   ·show(if dN (λi=>df (dw f n m i)) k≠0 then _ else _)=_;rw[aq (by rw[hg];simp)];exact U
   ·rw[mA,jA];exact T3
 ·have:k=m.toNat:=ae;subst this;exact⟨_,by rw[hg],T.ext,λh=>absurd hg h,λ_=>T.done⟩
def jh (l:List Int)(n:Int):Int:=if¬bE n then 6 else if l.length%2=0 then 7 else df l
def lz (l:List Int)(n:Int):Tbl:=⟨n,(List.range n.toNat).map λi:Nat=>((i:Int)-(l.length/2:Nat),cD l)⟩
theorem V0 {h:ah}{Z:Nat→Prop}{v:Value}{l:List Int}{n:Int}(H:SlI Z h v l)(I:∀x∈l,I64 x)(hl:l.length<4611686018427387904)(hn:I64 n):ag prog qf #[v,af n] h (XV h (jh l n) (lz l n)):=by
 apply LG;unfold Bc;refine Dl.mono λv1 h1 ⟨e1,w1⟩=>?_
 subst e1 w1;unfold jh;obtain⟨a,cap,e⟩:=H.isSl;have e2:aC v=some (af (l.length:Int)):=by rw[e];rfl
 by_cases A:¬bE n
 ·rw[aA A];have q:(1≤n∧n≤65536)=False:=gm A;simp only[go_sem,q];exact⟨_,rfl,Ext.refl _,λ_=>rfl,λh=>by cases h⟩
 rw[aq A];have A:bE n:=cq A;have q:(1≤n∧n≤65536)=True:=jW A;have U:=A;unfold bE at U;simp only[go_sem,q,e2];rw[em _ _ _ _ ae,aj,kz ae];simp only[go_sem];refine ao (λh0=>?_) (λh0=>?_)
 ·rw[aA ae];exact⟨_,rfl,Ext.refl _,λ_=>rfl,λh=>by cases h⟩
 rw[aq ae];refine(Dt H I hl).mono λw h2 ⟨u,e,G⟩=>?_
 subst e;simp only[go_sem];refine ao (λL=>?_) (λL=>?_)
 ·exact⟨_,rfl,G.2.1,λ_=>rfl,λh=>absurd h L⟩
 have L:df l=0:=cq L;have an:(cD l).length=l.length:=by unfold cD;rw[aA L,ri]
 have bd:=rJ I;simp only[YZ (a:=af n) rfl,cR,aj,bT];refine aJ λb h4 r4 e4 n4=>?_
 have F:∀k:Nat,((List.range k).map λi:Nat=>((i:Int)-(l.length/2:Nat),cD l)).length=k:=λk=>by simp
 refine bK n.toNat 0 (λk (_:Unit)=>[af (k:Int)]) (λk _ h'=>∃lv,FQ h1 (blk u) h' b 224 lv n ((List.range k).map λi:Nat=>((i:Int)-(l.length/2:Nat),cD l))∧SlI (blk u) h' u (cD l)) () rfl (b9 _)
  ⟨_,⟨G.2.1.trans e4,r4,Rp.Ow.nil,bB G.2.1.1 n4,λc hc=>hc.elim,λhc=>by have:=G.1.lt hc;omega,id,λc hc=>⟨G.2.2 c hc,by have:=G.1.lt hc;have:=e4.1;omega⟩⟩,G.sl.ext e4⟩ λk _ h5 again ρj _ hk ⟨lv,T,Hu⟩ aa=>?_
 try simp only[go_sem]
 refine ao (λh6=>?_) (λh6=>?_)
 ·have ab:k<n.toNat:=ae;obtain⟨au,cu,eu⟩:=Hu.isSl;have ad:aC u=some (af (l.length:Int)):=by rw[eu,an];rfl
  simp only[go_sem,ad];rw[mU _ _ _ _ ae,aj,xW ae,w64 (n:=(l.length:Int)/2) ae ae];simp only[go_sem];rw[w64 (n:=(k:Int)-(l.length:Int)/2) ae ae,show(k:Int)-(l.length:Int)/2=(k:Int)-(l.length/2:Nat)by omega];refine(O9 T Hu (Ls I) ae (by rw[F];omega)).mono λw al ⟨W,T3,F3⟩=>?_
  try simp only[go_sem]
  rw[w64 ae ae];have hd:∀c,blk u c→¬(c=b∨blk lv c):=λc hc hm=>by
   rcases hm with rfl|hm
   ·exact T.zb hc
   ·obtain⟨ds,_,h2,_⟩:=T.ow;exact h2 c hm hc
  refine aa () al ab ⟨W,?_,Hu.fr F3 λc _ hc=>hd c hc⟩;rw[mA,jA];exact T3
 ·have:k=n.toNat:=ae;subst this;exact⟨_,by rw[L],T.ext,λh=>absurd L h,λ_=>T.done⟩
theorem Ue {Z:Nat→Prop}{h:ah}{p:Value}{t:Tbl}(H:gi Z h p t):ag prog gx #[p] h λr h'=>r=af t.n∧h'=h:=by
 apply EB;unfold uM;obtain⟨b,lv,rfl,A,L,I,G,F,_⟩:=H.open;simp only[go_sem,A];exact⟨by simp,by simp⟩
theorem EN {Z:Nat→Prop}{h:ah}{p:Value}{t:Tbl}(H:gi Z h p t):ag prog bM #[p] h λr h'=>r=af (t.lines.length:Int)∧h'=h:=by
 apply Iz;unfold xv;obtain⟨b,lv,rfl,I,G,L,U,A,_⟩:=H.open;obtain⟨a,cap,e⟩:=A.isSl;have F:aC lv=some (af (t.lines.length:Int)):=by rw[e];rfl
 simp only[go_sem,G,F];exact⟨by simp,by simp⟩
theorem Ud {Z:Nat→Prop}{h:ah}{p:Value}{t:Tbl}(H:gi Z h p t):ag prog gw #[p] h λr h'=>r=af (cJ t.lines)∧h'=h:=by
 apply Ez;unfold uK;obtain⟨b,lv,rfl,F,L,A,I,G,_⟩:=H.open;simp only[go_sem,A];exact⟨by simp,by simp⟩
structure _root_.Go.Crisp.Tbl.Wf (t:Tbl):Prop where
 len:t.lines.length≤65536
 taps:∀x∈t.lines,x.2.length≤1048576∧ -70368744177664≤x.1∧x.1≤70368744177664
def bG (t:Tbl)(i:Int):Int×List Int:=if 0≤i then t.lines.getD i.toNat (0,[])else(0,[])
theorem Ds {Z:Nat→Prop}{h:ah}{p:Value}{t:Tbl}(H:gi Z h p t)(W:t.Wf){i:Int}:ag prog bI #[p,af i] h λr h'=>∃u,r=.agg #[af (bG t i).1,u]∧SlI (λb=>h.size≤b∧b<h'.size) h' u (bG t i).2∧Ext h h':=by
 apply EA;unfold uL;refine aJ λbv h1 r1 A n1=>?_
 obtain⟨b,lv,rfl,c0,c1,c2,c3,hl,_⟩:=gi.open (H.ext A);obtain⟨a,cap,e⟩:=hl.isSl;have e2:aC lv=some (af (t.lines.length:Int)):=by rw[e];rfl
 simp only[go_sem,c1,e2];unfold bG;refine ao (λh0=>?_) (λh0=>?_)
 ·have e3:(if 0≤i then t.lines.getD i.toNat (0,[])else((0,[]):Int×List Int))=(0,[]):=by
   split
   ·rw[dA,D3 ae];rfl
   ·rfl
  rw[e3,ia,cR,aj];refine da (l:=[ai,.slice none 0 0]) r1 rfl (az rfl (az rfl bi)) rfl λh2 r2 u2=>?_
  rw[aW r2 2 rfl,aj];exact⟨_,rfl,Rp.Sl.nil,A.upd n1 u2⟩
 ·obtain⟨k,rfl⟩:∃k:Nat,i=(k:Int):=⟨i.toNat,ae⟩
  have U:k<t.lines.length:=ae;have e3:(if(0:Int)≤(k:Int)then t.lines.getD (k:Int).toNat (0,[])else((0,[]):Int×List Int))=t.lines[k]:=by
   rw[aA ae,dW,dA,iI U];rfl
  rw[e3];obtain⟨b2,o2,cs,G,i2,i3,⟨u,rfl,hu⟩,F⟩:=Rp.Sl.atp (e:=mP) hl (show 0<2 by omega) (k:=.i64) U;have G:bu 2 lv (af (k:Int))=some (.pointer (some ⟨b2,o2,none⟩)):=G;have j0:=i3 0 (by simp);have j1:=i3 1 (by simp);simp only[Ed,List.getElem_cons_succ]at j0 j1;refine aS (λh'=>Ext h1 h') (Ext.refl _) ?_;refine aD lv (λh' e=>e.cell c1) ?_;rw[G];simp only[go_sem];refine aD _ (λh' e=>e.cell j0) ?_;refine aD lv (λh' e=>e.cell c1) ?_;rw[G];simp only[go_sem];refine aD _ (λh' e=>e.cell j1) ?_;have aa:=(W.taps _ (cG U)).1;refine(zaH hu ae).mono λw h3 ⟨hw,I⟩=>?_
  refine⟨I,?_⟩;have one:=hw.one;rw[AD (a:=af t.lines[k].1) rfl one,cR,aj];refine da (l:=[af t.lines[k].1,w]) (I.row r1) rfl (az rfl (az one bi)) rfl λh5 r5 u5=>?_
  rw[aW r5 2 rfl,aj];have hb:=bD r1;refine⟨w,rfl,?_,(A.trans I).upd n1 u5⟩;obtain⟨ds,hs,F,L⟩:=hw.fr (M:=λc=>c=bv) u5.fr λc hc F L=>by have:=L▸F;omega
  refine⟨ds,hs,λh0 c hc=>⟨?_,?_⟩,λi hi=>L i hi⟩
  ·have:=F h0 c hc;have:=A.1;omega
  ·exact hs.lt h0 hc
def F0 (ls:List (Int×List Int))(x0:Int):Int:=ls.foldl (λm x=>min m x.1) x0
def Kc (ls:List (Int×List Int))(x0:Int):Int:=ls.foldl (λm x=>max m (x.1+(x.2.length:Int))) x0
def RZ (t:Tbl)(i k:Nat):List (Int×List Int):=(t.lines.drop i).take (k-i)
def yv (t:Tbl)(i k:Int):Int×Int:=
 if(min k (t.lines.length:Int))≤max i 0 then(0,0)
 else let i':=(max i 0).toNat;let k':=(min k (t.lines.length:Int)).toNat;let x0:=(t.lines.getD i' (0,[])).1
  (F0 (RZ t i' k') x0,Kc (RZ t i' k') x0-F0 (RZ t i' k') x0)
theorem Df {β γ:Type}(f:γ→β→γ)(l:List β){k:Nat}(h:k<l.length)(s:γ):(l.take (k+1)).foldl f s=f ((l.take k).foldl f s) l[k]:=by
 rw[iY h,D5];rfl
theorem zba {ls:List (Int×List Int)}{x0:Int}(h0: -70368744177664≤x0∧x0≤70368744177664)(h:∀x∈ls,x.2.length≤1048576∧ -70368744177664≤x.1∧x.1≤70368744177664):
  (-70368744177664≤F0 ls x0∧F0 ls x0≤70368744177664)∧ -70368744177664≤Kc ls x0∧Kc ls x0≤70369000000000:=by
 unfold F0 Kc;have G:∀(ls:List (Int×List Int)) (m:Int),(∀x∈ls,x.2.length≤1048576∧ -70368744177664≤x.1∧x.1≤70368744177664)→ -70368744177664≤m∧m≤70368744177664→ -70368744177664≤ls.foldl (λm x=>min m x.1) m∧ls.foldl (λm x=>min m x.1) m≤70368744177664:=by
  intro ls;induction ls with
  |nil=>intro m _ h;exact h
  |cons x ls A=>intro m h H;have:=h x (by simp);exact A _ (λy F=>h y (by simp[F])) (by dsimp only;omega)
 have I:∀(ls:List (Int×List Int)) (m:Int),(∀x∈ls,x.2.length≤1048576∧ -70368744177664≤x.1∧x.1≤70368744177664)→ -70368744177664≤m∧m≤70369000000000→ -70368744177664≤ls.foldl (λm x=>max m (x.1+(x.2.length:Int))) m∧ls.foldl (λm x=>max m (x.1+(x.2.length:Int))) m≤70369000000000:=by
  intro ls;induction ls with
  |nil=>intro m _ h;exact h
  |cons x ls A=>intro m h H;have:=h x (by simp);exact A _ (λy F=>h y (by simp[F])) (by dsimp only;omega)
 exact⟨G ls x0 h h0,I ls x0 h ae⟩
theorem Ub {Z:Nat→Prop}{h:ah}{p:Value}{t:Tbl}(H:gi Z h p t)(W:t.Wf){i k:Int}(hi:I64 i)(hk:I64 k):ag prog ig #[p,af i,af k] h λr h'=>r=.tuple #[af (yv t i k).1,af (yv t i k).2]∧Ext h h':=by
 apply CS;unfold sU;obtain⟨b,lv,rfl,c0,c1,c2,c3,hl,_,_,⟨la,ln,lc,el,ax⟩⟩:=H.open;have e2:aC lv=some (af (t.lines.length:Int)):=by
  obtain⟨a,cap,e⟩:=hl.isSl;rw[e];rfl
 simp only[go_sem,c1,e2];unfold yv;refine ao (λh0=>?_) (λh0=>?_)
 ·rw[aA h0];exact⟨rfl,Ext.refl _⟩
 rw[aq h0];obtain⟨A,ay⟩:∃A:Nat,max i 0=(A:Int):=⟨(max i 0).toNat,ae⟩
 obtain⟨k',an⟩:∃k':Nat,min k (t.lines.length:Int)=(k':Int):=⟨(min k (t.lines.length:Int)).toNat,ae⟩
 simp only[ay,an,dW]at h0 ⊢;have a9:A<k':=ae;have al:k'≤t.lines.length:=ae;have L:A<t.lines.length:=ae;have eg:t.lines.getD A (0,[])=t.lines[A]:=by rw[dA,iI L];rfl
 rw[eg];obtain⟨b2,o2,cs,q1,q2,q3,⟨u,rfl,hu⟩,hz⟩:=Rp.Sl.atp (e:=mP) hl (show 0<2 by omega) (k:=.i64) L;have q1:bu 2 lv (af (A:Int))=some (.pointer (some ⟨b2,o2,none⟩)):=q1;have j0:=q3 0 (by simp);simp only[Ed]at j0;obtain⟨U,s1,s2⟩:=hl.part (show A≤k' by omega) al el ax (k:=.i64) (k':=.i64);have s1:yu 2 lv (some (af (A:Int))) (some (af (k':Int)))=some U:=s1;simp only[go_sem,q1,j0,c1,s1];have ab:(t.lines.drop A).take (k'-A)=RZ t A k':=rfl;rw[ab]at s2;have bc:(RZ t A k').length=k'-A:=by unfold RZ;rw[de,jC];omega
 have I:∀x∈RZ t A k',x∈t.lines:=λx hx=>Tp (Eb hx)
 obtain⟨a3,bd,e3⟩:=s2.isSl;have e4:aC U=some (af ((RZ t A k').length:Int)):=by rw[e3];rfl
 rw[e4,aj];generalize a8:t.lines[A].1=x0;have ad:=W.taps _ (cG L);rw[a8]at ad;generalize be:RZ t A k'=G at*;refine bK G.length 0 (λk (_:Unit)=>[af (F0 (G.take k) x0),af (Kc (G.take k) x0),af (k:Int)]) (λk _ h'=>Ext h h') () rfl (b9 _) (Ext.refl _) λk _ h2 again ρj _ hk E2 a7=>?_
 simp only[go_sem];refine ao (λh3=>?_) (λh3=>?_)
 ·have F:k<G.length:=ae;obtain⟨p2,bg,z1,z2,⟨u2,rfl,aa⟩⟩:=Rp.Sl.atw (e:=mP) (s2.ext E2) (show 0<2 by omega) (k:=.i64) F;have z1:bu 2 U (af (k:Int))=some p2:=z1;have z2:aR 2 h2 p2=some (.agg #[af G[k].1,u2]):=z2;rw[z1,aj,z2,aj];refine dh (cs:=[af G[k].1,u2]) rfl (az rfl (az aa.one bi)) rfl λbv h4 r4 e5 n5=>?_
  obtain⟨au,cu,eu⟩:=aa.isSl;have ar:aC u2=some (af (G[k].2.length:Int)):=by rw[eu];rfl
  have d0:aH h4 ⟨bv,0,none⟩=some (af G[k].1):=am r4;have d1:aH h4 ⟨bv,1,none⟩=some u2:=am r4;have hw:=W.taps _ (I _ (cG F));simp only[go_sem,d0,d1,ar];rw[w64 (n:=G[k].1+(G[k].2.length:Int)) ae ae,w64 (n:=(k:Int)+1) (by have:=W.len;omega) (by have:=W.len;omega)];have:=a7 () h4 F (E2.trans e5);unfold F0 Kc at this ⊢;rw[Df _ _ F,Df _ _ F]at this;exact this
 ·rw[fB ae];have:=zba (ls:=G) (x0:=x0) ad.2 (λx hx=>W.taps x (I x hx));rw[w64 ae ae];exact⟨rfl,E2⟩
theorem Wa (b:Int):PA b=[]↔ ¬(0≤b∧b<3):=by
 unfold PA;split
 ·constructor
  ·intro h;cases h
  ·intro h;omega
 split
 ·constructor
  ·intro h;cases h
  ·intro h;omega
 split
 ·constructor
  ·intro h;cases h
  ·intro h;omega
 ·constructor
  ·intro _;omega
  ·intro _;rfl
def lh (o:OpD):Prop:=(0≤o.kind∧o.kind<4)∧(0≤o.border∧o.border<3)∧(o.kind=3→bE o.w∧bE o.hh∧0≤o.filter∧o.filter<3)
instance (o:OpD):Decidable (lh o):=by unfold lh;infer_instance
theorem JN {h:ah}{n:Int}:ag prog vQ #[af n] h λr h'=>r=.bool (decide (bE n))∧h'=h:=by
 apply WX;unfold MQ;simp only[go_sem];exact⟨rfl,by first|rfl|trivial⟩
theorem zdM {Z:Nat→Prop}{h:ah}(G:eW h){cs:List Value}{o:OpD}(H:rOp.R Z h cs o):ag prog PG #[.agg cs.toArray] h λr h'=>r=.bool (decide (lh o))∧Ext h h':=by
 apply ZR;unfold QS;obtain⟨s,t,rfl,Hx,Hy⟩:=H;simp only[bT];refine aJ λb h1 r1 F n1=>?_
 have G1:=G.ext F;simp only[go_sem,am r1];have L:=Wa o.border;by_cases hk:o.kind<0∨4≤o.kind
 ·have q:lh o=False:=gm (by unfold lh;omega);simp only[go_sem,hk,q];exact⟨by simp,F⟩
 simp only[go_sem,hk];refine(JO G1).mono λv h2 ⟨e,w⟩=>?_
 subst e w
 try rw[Zo]
 rw[Pz,aj];by_cases hb:PA o.border=[]
 ·have q:lh o=False:=gm (by unfold lh;exact λh=>L.1 hb h.2.1);simp only[go_sem,hb,q];exact⟨by simp,F⟩
 have W:0≤o.border∧o.border<3:=cq λh=>hb (L.2 h)
 simp only[go_sem,hb,am r1];by_cases A:¬o.kind=3
 ·have q:lh o=True:=jW ⟨ae,W,λh=>absurd h A⟩;simp only[go_sem,A,q];exact⟨by simp,F⟩
 have A:o.kind=3:=cq A;simp only[go_sem,A,am r1];refine JN.mono λv h3 ⟨e,w⟩=>?_
 subst e w;by_cases I:¬bE o.w
 ·have q:lh o=False:=gm (λh=>I (h.2.2 A).1);simp only[go_sem,I,q];exact⟨by simp,F⟩
 have I:bE o.w:=cq I;simp only[go_sem,I,am r1];refine JN.mono λv h4 ⟨e,w⟩=>?_
 subst e w;by_cases hh:¬bE o.hh
 ·have q:lh o=False:=gm (λh=>hh (h.2.2 A).2.1);simp only[go_sem,hh,q];exact⟨by simp,F⟩
 have hh:bE o.hh:=cq hh;simp only[go_sem,hh,am r1];refine(Ry G1).mono λv h5 ⟨e,w⟩=>?_
 subst e w
 try rw[Zo]
 rw[Py,aj];have U:=Vz o.filter;simp only[go_sem];refine⟨?_,F⟩
 congr 1
 rw[ir];unfold lh;constructor
 ·intro hf;exact⟨ae,W,λ_=>⟨I,hh,cq λh=>hf (U.2 h)⟩⟩
 ·intro hf he;exact U.1 he (hf.2.2 A).2.2
def iD (o:OpD):Int:=if o.kind=0 then GK o.sigma else if o.kind=1 then RN o.radius else if BL o.x≠0 then BL o.x else BL o.y
def eM (o:OpD):List Int:=if o.kind=0 then pS o.sigma else if o.kind=1 then zN o.radius else sP o.x
def dm (o:OpD):List Int:=if o.kind=0 then pS o.sigma else if o.kind=1 then zN o.radius else sP o.y
theorem zX (o:OpD):∀x∈eM o,I64 x:=by
 unfold eM;split
 ·exact OM _
 split
 ·exact RM _
 ·exact JX _
theorem zW (o:OpD):∀x∈dm o,I64 x:=by
 unfold dm;split
 ·exact OM _
 split
 ·exact RM _
 ·exact JX _
theorem y4 (l:List Int):(sP l).length≤1024:=by
 unfold sP;split
 ·simp
 ·rename_i h;unfold kq at h;rw[cS];omega
theorem GJ (s:Int):(pS s).length≤1024:=by
 unfold pS;split
 ·simp
 ·rename_i h;unfold mT at h;rw[cS,ft];unfold ie;omega
theorem KL (r:Int):(zN r).length≤1024:=by
 unfold zN;split
 ·simp
 ·exact y4 _
theorem Hh (o:OpD):(eM o).length<4611686018427387904:=by
 unfold eM;split
 ·have:=GJ o.sigma;omega
 split
 ·have:=KL o.radius;omega
 ·have:=y4 o.x;omega
theorem Hf (o:OpD):(dm o).length<4611686018427387904:=by
 unfold dm;split
 ·have:=GJ o.sigma;omega
 split
 ·have:=KL o.radius;omega
 ·have:=y4 o.y;omega
abbrev gq (h h':ah)(c:Nat):Prop:=h.size≤c∧c<h'.size
theorem _root_.Go.Crisp.New.since {α:Type}{e:Rp α}{h0 h h':ah}{v:Value}{l:List α}(H:New e h h' v l)(k:Ext h0 h):Rp.Sl e (gq h0 h') h' v l:=H.sl.mono λb A F=>⟨bB k.1 (H.2.2 b F),A⟩
theorem zal {Z:Nat→Prop}{h:ah}{cs:List Value}{o:OpD}(H:rOp.R Z h cs o)(W:o.Wf)(lx:o.x.length<4611686018427387904)(ly:o.y.length<4611686018427387904):
  ag prog AT #[.agg cs.toArray] h λr h'=>∃u v,r=.tuple #[u,v,af (iD o)]∧Ext h h'∧(iD o=0→SlI (gq h h') h' u (eM o)∧SlI (gq h h') h' v (dm o)):=by
 apply Qq;unfold Fu;obtain⟨s,t,rfl,U,Hy⟩:=H;simp only[bT];refine aJ λb h1 r1 F n1=>?_
 simp only[go_sem,am r1];unfold iD eM dm;refine ao (λG=>?_) (λG=>?_)
 ·rw[aA G,aA G,aA G];refine(Pp W.sigma).mono λw I ⟨u,e,N⟩=>?_
  subst e;simp only[go_sem];exact⟨u,u,rfl,F.trans N.2.1,λ_=>⟨N.since F,N.since F⟩⟩
 rw[aq G,aq G,aq G];refine ao (λA=>?_) (λA=>?_)
 ·rw[aA A,aA A,aA A];refine(zfo W.radius).mono λw I ⟨u,e,N⟩=>?_
  subst e;simp only[go_sem];exact⟨u,u,rfl,F.trans N.2.1,λ_=>⟨N.since F,N.since F⟩⟩
 rw[aq A,aq A,aq A];refine(GT (U.ext F) W.x lx).mono λw I ⟨u,e,N⟩=>?_
 subst e;simp only[go_sem];refine ao (λhu=>?_) (λhu=>?_)
 ·rw[aA hu];exact⟨_,_,rfl,F.trans N.2.1,λh=>absurd h hu⟩
 rw[aq hu];simp only[go_sem,am (N.2.1.row r1)];refine(GT ((Hy.ext F).ext N.2.1) W.y ly).mono λw h3 ⟨v,e,M⟩=>?_
 subst e;simp only[go_sem];refine⟨u,v,rfl,(F.trans N.2.1).trans M.2.1,λ_=>⟨?_,M.since (F.trans N.2.1)⟩⟩;exact((N.since F).ext M.2.1).mono λc hc L=>⟨L.1,hc⟩
def jd (o:OpD)(w h:Int):Int:=
 if o.kind=3 then(if dH o.filter w o.w≠0 then dH o.filter w o.w else dH o.filter h o.hh)
 else if iD o≠0 then iD o else if jh (eM o) w≠0 then jh (eM o) w else jh (dm o) h
def kQ (o:OpD)(w:Int):Tbl:=if o.kind=3 then gn o.filter w o.w else lz (eM o) w
def fU (o:OpD)(h:Int):Tbl:=if o.kind=3 then gn o.filter h o.hh else lz (dm o) h
theorem zb7 {Z:Nat→Prop}{h:ah}(G:eW h){cs:List Value}{o:OpD}(H:rOp.R Z h cs o)(W:o.Wf)(lx:o.x.length<4611686018427387904)(ly:o.y.length<4611686018427387904){w hh:Int}(hw:I64 w)(aa:I64 hh):
  ag prog DH #[.agg cs.toArray,af w,af hh] h λr h'=>∃p q,r=.tuple #[p,q,af (jd o w hh)]∧Ext h h'∧(jd o w hh=0→gi (gq h h') h' p (kQ o w)∧gi (gq h h') h' q (fU o hh)):=by
 apply SL;unfold If;have H0:=H;obtain⟨s,t,rfl,Hx,Hy⟩:=H;simp only[bT];refine aJ λb h1 r1 A n1=>?_
 have G1:=G.ext A;simp only[go_sem,am r1];unfold jd kQ fU;refine ao (λL=>?_) (λL=>?_)
 ·rw[aA L,aA L,aA L];refine(Po G1 W.filter hw W.w).mono λr h2 ⟨p,e,F,p0,p1⟩=>?_
  subst e;simp only[go_sem];refine ao (λhc=>?_) (λhc=>?_)
  ·rw[aq (by simpa using hc)];simp only[go_sem,am (F.row r1)];refine(Po (G1.ext F) W.filter aa W.hh).mono λr h3 ⟨q,e,U,q0,q1⟩=>?_
   subst e;simp only[go_sem];refine⟨p,q,rfl,(A.trans F).trans U,λh0=>⟨?_,?_⟩⟩
   ·exact((p1 hc).ext U).mono λc hc I=>⟨bB A.1 I.1,hc⟩
   ·exact(q1 h0).mono λc hc I=>⟨bB (A.trans F).1 I.1,I.2⟩
  ·rw[aA (by simpa using hc)];exact⟨p,_,rfl,A.trans F,λh0=>absurd h0 hc⟩
 rw[aq L,aq L,aq L];rw[aW r1 9 rfl,aj];refine(zal (rOp.ext H0 A) W lx ly).mono λr h2 ⟨u,v,e,F,hu⟩=>?_
 subst e;simp only[go_sem];refine ao (λhc=>?_) (λhc=>?_)
 ·rw[aA hc];exact⟨_,_,rfl,A.trans F,λh0=>absurd h0 hc⟩
 have ab:iD o=0:=cq hc;rw[aq hc];obtain⟨Hu,Hv⟩:=hu ab;refine(V0 Hu (zX o) (Hh o) hw).mono λr h3 ⟨p,e,U,p0,p1⟩=>?_
 subst e;simp only[go_sem];refine ao (λhc=>?_) (λhc=>?_)
 ·rw[aq (by simpa using hc)];refine(V0 (Hv.ext U) (zW o) (Hf o) aa).mono λr h4 ⟨q,e,e4,q0,q1⟩=>?_
  subst e;simp only[go_sem];refine⟨p,q,rfl,((A.trans F).trans U).trans e4,λh0=>⟨?_,?_⟩⟩
  ·exact((p1 hc).ext e4).mono λc hc I=>⟨bB (A.trans F).1 I.1,hc⟩
  ·exact(q1 h0).mono λc hc I=>⟨bB ((A.trans F).trans U).1 I.1,I.2⟩
 ·rw[aA (by simpa using hc)];exact⟨p,_,rfl,(A.trans F).trans U,λh0=>absurd h0 hc⟩
structure Stg where
 x:Tbl
 y:Tbl
 border:Int
def qX (Z:Nat→Prop)(h:ah)(v:Value)(s:Stg):Prop:=∃p q,v=.agg #[p,q,.int .i64 s.border]∧gi Z h p s.x∧gi Z h q s.y
theorem qX.mono {Z Z':Nat→Prop}{h:ah}{v:Value}{s:Stg}(H:qX Z h v s)(q:∀b,b<h.size→Z b→Z' b):qX Z' h v s:=by
 obtain⟨p,r,rfl,h1,A⟩:=H;exact⟨p,r,rfl,h1.mono q,A.mono q⟩
theorem qX.ext {Z:Nat→Prop}{h h':ah}{v:Value}{s:Stg}(H:qX Z h v s)(e:Ext h h'):qX Z h' v s:=by
 obtain⟨p,r,rfl,h1,A⟩:=H;exact⟨p,r,rfl,h1.ext e,A.ext e⟩
theorem nC {α:Type}{e:Rp α}{Z:Nat→Prop}{h:ah}{v:Value}{x:α}(H:Rp.Pt e Z h v x):aV v=true:=by
 obtain⟨b,ds,t,rfl,_⟩:=H;rfl
theorem zeU {a b c x y z:Value}(A:aV a=true)(F:aV b=true)(hc:aV c=true):aQ #[x,y,z] [(0,1,a),(1,1,b),(2,1,c)]=some #[a,b,c]:=by
 simp only[aQ,cI A,cI F,cI hc];rfl
abbrev noStg:Value:=.agg #[.pointer none,.pointer none,.int .i64 0]
def fF (o:OpD)(w h:Int):Int:=if¬lh o∨¬bE w∨¬bE h then 6 else jd o w h
def cz (o:OpD)(w h:Int):Stg:=⟨kQ o w,fU o h,o.border⟩
def zcF (h:ah)(code:Int)(s:Stg)(r:Value)(h':ah):Prop:=∃v,r=.tuple #[v,.int .i64 code]∧Ext h h'∧(code≠0→v=noStg)∧(code=0→qX (gq h h') h' v s)
theorem KJ {Z:Nat→Prop}{h:ah}(G:eW h){cs:List Value}{o:OpD}(H:rOp.R Z h cs o)(W:o.Wf)(lx:o.x.length<4611686018427387904)(ly:o.y.length<4611686018427387904){w hh:Int}(hw:I64 w)(au:I64 hh):
  ag prog oN #[.agg cs.toArray,af w,af hh] h (zcF h (fF o w hh) (cz o w hh)):=by
 apply WZ;unfold MS;have H0:=H;obtain⟨s,t,rfl,Hx,Hy⟩:=H;simp only[bT];refine aJ λb h1 r1 e1 n1=>?_
 have l1:=bD r1;refine aJ λb2 h2 r2 e2 n2=>?_
 have r1:=e2.row r1;have F:=e1.trans e2;have l2:=bD r2;have hb:b≠b2:=ae;rw[aW r1 9 rfl,aj];refine(zdM (G.ext F) (rOp.ext H0 F)).mono λv h3 ⟨e,U⟩=>?_
 subst e;have aa:∀(code:Int) (h4:ah),fF o w hh=code→code≠0→Ext h2 h4→stK 3 (.pointer (some ⟨b2,0,none⟩)) (.agg #[.pointer none,.pointer none,ai]) h4 λ_ an=>vK (aR 3 an (.pointer (some ⟨b2,0,none⟩))) λar=>zcF h (fF o w hh) (cz o w hh) (.tuple #[ar,af code]) an:=by
  intro code h4 A hc e4;rw[A];refine da (l:=[.pointer none,.pointer none,ai]) (e4.row r2) rfl (az rfl (az rfl (az rfl bi))) rfl λh5 r5 u5=>?_
  rw[aW r5 3 rfl,aj];exact⟨_,rfl,(F.trans e4).upd (bB e1.1 n2) u5,λ_=>rfl,λh=>absurd h hc⟩
 by_cases hm:¬lh o
 ·have A:fF o w hh=6:=aA (.inl hm);simp only[go_sem,hm,ia,cR];exact aa 6 h3 A ae U
 have hm:lh o:=cq hm;simp only[go_sem,hm];refine JN.mono λv h4 ⟨e,w⟩=>?_
 subst e w;by_cases I:¬bE w
 ·have A:fF o w hh=6:=aA (.inr (.inl I));simp only[go_sem,I,ia,cR];exact aa 6 _ A ae U
 have I:bE w:=cq I;simp only[go_sem,I];refine JN.mono λv h5 ⟨e,w⟩=>?_
 subst e w;by_cases L:¬bE hh
 ·have A:fF o w hh=6:=aA (.inr (.inr L));simp only[go_sem,L,ia,cR];exact aa 6 _ A ae U
 have L:bE hh:=cq L;have A:fF o w hh=jd o w hh:=aq (by rintro(h|h|h);exact h hm;exact h I;exact h L);simp only[go_sem,L];rw[aW (U.row r1) 9 rfl,aj];refine(zb7 ((G.ext F).ext U) (rOp.ext (rOp.ext H0 F) U) W lx ly hw au).mono λr h6 ⟨p,q,e,e6,hp⟩=>?_
 subst e;simp only[go_sem];refine ao (λhc=>?_) (λhc=>?_)
 ·simp only[ia,cR,aj];exact aa _ _ A hc (U.trans e6)
 have ad:jd o w hh=0:=cq hc;obtain⟨ab,al⟩:=hp ad;have c1:aH h6 ⟨b,1,none⟩=some (af o.border):=am (e6.row (U.row r1));simp only[go_sem,c1];rw[zeU (nC ab) (nC al) rfl,cR,aj];refine da (l:=[p,q,af o.border]) (e6.row (U.row r2)) rfl (az (nC ab) (az (nC al) (az rfl bi))) rfl λh7 r7 u7=>?_
 rw[aW r7 3 rfl,aj];have hz:∀c,c<h6.size→gq h5 h6 c→¬c=b2:=λc _ hz he=>by
  have:=hz.1;have:=(U.1)
  subst he;omega
 have E:Ext h h6:=(F.trans U).trans e6;have fin:∀{t:Tbl} {p:Value},gi (gq h5 h6) h6 p t→gi (gq h h7) h7 p t:=λH=>by
  have:=Rp.Pt.fr H u7.fr hz;refine this.mono λc hc hz=>⟨?_,hc⟩
  exact bB (F.trans U).1 hz.1
 rw[A];exact⟨.agg #[p,q,af o.border],by rw[ad],E.upd (bB e1.1 n2) u7,λh=>absurd ad h,λ_=>⟨p,q,rfl,fin ab,fin al⟩⟩
def ka {α:Type}(e:Rp α)(h h':ah)(v:Value)(l:List α):Prop:=∃Z,Rp.Ow e Z h' v l∧Ext h h'∧(∀b,blk v b→h.size≤b)∧∀c,Z c→h.size≤c∧c<h'.size
theorem ka.nil {α:Type}{e:Rp α}{h h':ah}(k:Ext h h'):ka e h h' (.slice none 0 0) []:=⟨λ_=>False,Rp.Ow.nil,k,λb A=>A.elim,λc hc=>hc.elim⟩
theorem ka.ext {α:Type}{e:Rp α}{h h' A:ah}{v:Value}{l:List α}(H:ka e h h' v l)(k:Ext h' A):ka e h A v l:=by
 obtain⟨Z,o,x,n,z⟩:=H;exact⟨Z,o.ext k,x.trans k,n,λc hc=>⟨(z c hc).1,ce (z c hc).2 k.1⟩⟩
theorem ka.exts {α:Type}{e:Rp α}{h h':ah}{v:Value}{l:List α}(H:ka e h h' v l):Ext h h':=by obtain⟨Z,o,x,n,z⟩:=H;exact x
theorem ka.sl {α:Type}{e:Rp α}{h h':ah}{v:Value}{l:List α}(H:ka e h h' v l):Rp.Sl e (gq h h') h' v l:=by
 obtain⟨Z,o,x,n,z⟩:=H;exact o.sl.mono λc hc A=>by
  rcases A with A|A
  ·exact z c A
  ·exact⟨n c A,hc⟩
theorem ka.isSl {α:Type}{e:Rp α}{h h':ah}{v:Value}{l:List α}(H:ka e h h' v l):∃a cap,v=.slice a l.length cap:=by obtain⟨Z,o,x,n,z⟩:=H;exact o.isSl
theorem ka.push {α:Type}{e:Rp α}{z:Value}{c:Array Value}{t W:TypeId}{bytes:Nat}{h h1:ah}{v:Value}{l:List α}{cs:List Value}{x:α}{Y:Nat→Prop}{K:Value→ah→Prop}(H:ka e h h1 v l)
  (hx:e.R Y h1 cs x) (hY:∀b,Y b→h.size≤b∧b<h1.size∧¬blk v b) (hc:c.size=e.w) (F:z.cells.size=e.w) (A:(l.length+1)*bytes≤140737488355328) (hn:l.length+1≤9223372036854775807)
  (HK:∀G h',ka e h h' G (l++[x])→Fr (blk v) h1 h'→(∀b,blk G b→blk v b∨h1.size≤b)→K G h'):du c t 1 [(0,e.w,.agg cs.toArray)] h1 λv2 h3=>dy z W e.w bytes v v2 h3 K:=by
 obtain⟨Z,o,ex,n,zf⟩:=H;have U:∀b,blk v b→¬Z b:=by obtain⟨ds,_,d,_⟩:=o;exact d
 have o2:Rp.Ow e (λb=>Z b∨Y b) h1 v l:=o.mono (λb _ A=>.inl A) λb A F=>by
  rcases F with F|F
  ·exact U b A F
  ·exact(hY b F).2.2 A
 refine Rp.push_ow o2 (e.mono hx λb _ A=>.inr A) hc F A hn (λb A=>?_) λG h' o' I n'=>HK G h' ⟨λb=>Z b∨Y b,o',ex.then_fr I n,λb A=>?_,λb A=>?_⟩ I n'
 ·rcases A with A|A
  ·exact(zf b A).2
  ·exact(hY b A).2.1
 ·rcases n' b A with L|L
  ·exact n b L
  ·exact bB ex.1 L
 ·have hl:=I.1;rcases A with A|A
  ·have:=zf b A;omega
  ·have:=hY b A;omega
theorem ka.lt {α:Type}{e:Rp α}{h h':ah}{v:Value}{l:List α}(H:ka e h h' v l){b:Nat}(A:blk v b):b<h'.size:=by obtain⟨Z,o,x,n,z⟩:=H;exact o.lt A
theorem _root_.Go.Crisp.New.lt {α:Type}{e:Rp α}{h h':ah}{v:Value}{l:List α}(H:New e h h' v l){b:Nat}(A:blk v b):b<h'.size:=H.1.lt A
theorem Pb {h:ah}{n:Int}:ag prog qp #[af n] h λr h'=>r=.bool (decide (bE n))∧h'=h:=by
 apply P8;unfold Fc;simp only[go_sem];exact⟨rfl,trivial⟩
def Wl (h:ah)(code:Int)(ls:List (Int×List Int))(r:Value)(h':ah):Prop:=∃v,r=.tuple #[v,.int .i64 code]∧Ext h h'∧(code≠0→v=.slice none 0 0)∧(code=0→ka mP h h' v ls)
theorem Pc {h:ah}{f n m:Int}(hf:I64 f)(hn:I64 n)(hm:I64 m):ag prog qs #[af f,af n,af m] h (Wl h (dH f n m) (gn f n m).lines):=by
 apply LI;unfold Be;have rc:dH f n m=if¬(0≤f∧f<3)∨¬bE n∨¬bE m then 6 else dN (λi=>df (dw f n m i)) m.toNat:=rfl
 have U:∀b:Bool,(b=true↔(¬(0≤f∧f<3)∨¬bE n∨¬bE m))→∀X:Prop,((0≤f∧f<3)→bE n→bE m→X)→aE (.bool b)
   (Wl h (dH f n m) (gn f n m).lines (.tuple #[.slice none 0 0,af 6]) h) X:=by
  intro b W X hX;refine iK (λhc=>?_) (λhc=>?_)
  ·rw[rc,aA (W.1 hc)];exact⟨_,rfl,Ext.refl _,λ_=>rfl,λh=>by cases h⟩
  ·have I:¬(¬(0≤f∧f<3)∨¬bE n∨¬bE m):=λhh=>by rw[W.2 hh]at hc;cases hc
   exact hX (cq λhh=>I (.inl hh)) (cq λhh=>I (.inr (.inl hh))) (cq λhh=>I (.inr (.inr hh)))
 have rest:(0≤f∧f<3)→bE n→bE m→bA [.slice none 0 0,ai] h λF b2 ab G=>
   vK (ak .i .lss (ix F 1) (af m)) λbk=>aE bk (
    ag prog yn #[af f,af n,af m,(ix F 1)] ab λar a8=>
    vK (aP ar 0) λay=>vK (aP ar 1) λb0=>
    ag prog jk #[b0] a8 λax al=>
    vK (aP ax 0) λbd=>vK (aP ax 1) λan=>
    vK (ak .i .neq an ai) λa7=>aE a7 (
     Wl h (dH f n m) (gn f n m).lines (.tuple #[(.slice none 0 0),an]) al) (
     vK ((aQ #[ai,(.slice none 0 0)] [(0,1,ay),(1,1,bd)]).map .agg) λa9=>
     du #[ai,(.slice none 0 0)] 240 1 [(0,2,a9)] al λb1 be=>
     dy (.agg #[ai,.slice none 0 0]) 240 2 32 (ix F 0) b1 be λbg bo=>
     vK (ak .i .add (ix F 1) aG) λbv=>G [bg,bv] bo)) (
    Wl h (dH f n m) (gn f n m).lines (.tuple #[(ix F 0),ai]) ab):=by
  intro H A au;rw[aq (by rintro(h|h|h);exact h H;exact h A;exact h au)]at rc;rw[rc];have aa:=au;unfold bE at aa;refine bK m.toNat 0 (λk v=>[v,af (k:Int)]) (λk v h'=>dN (λi=>df (dw f n m i)) k=0∧ka mP h h' v ((List.range k).map λi:Nat=>(fW f n m i,cD (dw f n m i)))) (.slice none 0 0) rfl (b9 _)
   ⟨rfl,ka.nil (Ext.refl _)⟩ λk v h5 again ρj _ hk ⟨hg,T⟩ bc=>?_
  simp only[go_sem];refine ao (λh6=>?_) (λh6=>?_)
  ·have ad:k<m.toNat:=ae;refine zdF.mono λw h7 ⟨u,e,Nw⟩=>?_
   subst e
   try simp only[go_sem]
   refine(FP Nw.sl (wF _ _ _ _) (M8 _ _ _ _)).mono λw h8 ⟨u,e,L⟩=>?_
   subst e
   try simp only[go_sem]
   refine ao (λh9=>?_) (λh9=>?_)
   ·have hc:dN (λi=>df (dw f n m i)) (k+1)=df (dw f n m k):=by
     show(if dN (λi=>df (dw f n m i)) k≠0 then _ else _)=_;rw[aq (by rw[hg];simp)]
    have hs:=FN (g:=λi=>df (dw f n m i)) (k:=k+1) (n:=m.toNat) (by rw[hc];exact h9) ad;rw[hs,hc];exact⟨_,rfl,(T.exts.trans Nw.2.1).trans L.2.1,λ_=>rfl,λh=>absurd h h9⟩
   ·have h9:df (dw f n m k)=0:=cq h9;rw[AD (a:=af (fW f n m k)) (b:=u) rfl L.sl.one,cR,aj];have T2:=T.ext (Nw.2.1.trans L.2.1);refine ka.push (e:=mP) (cs:=[af (fW f n m k),u]) (x:=(fW f n m k,cD (dw f n m k))) (Y:=blk u) T2 ⟨u,rfl,L.sl⟩ (λb W=>⟨bB (T.exts.trans Nw.2.1).1 (L.2.2 b W),L.lt W,λhv=>?_⟩) rfl rfl (by simp;omega) (by simp;omega) λs' h' N' _ _=>?_
    ·have b4:=T.lt hv;have b3:=L.2.2 b W;have b5:=Nw.2.1.1;omega
    ·try simp only[go_sem]
     rw[w64 ae ae];refine bc s' h' ad ⟨?_,?_⟩
     ·show(if dN (λi=>df (dw f n m i)) k≠0 then _ else _)=_;rw[aq (by rw[hg];simp)];exact h9
     ·rw[mA,jA];exact N'
  ·have:k=m.toNat:=ae;subst this;exact⟨_,by rw[hg],T.exts,λh=>absurd hg h,λ_=>T⟩
 by_cases H:0≤f∧f<3
 ·have q1:(f<0)=False:=gm ae;have q2:(2<f)=False:=gm ae;simp only[go_sem,q1,q2];refine Pb.mono λv1 h2 ⟨e1,w1⟩=>?_
  have w1:=w1.symm;subst e1 w1;by_cases A:bE n
  ·simp only[go_sem,A];refine Pb.mono λv1 h2 ⟨e1,w1⟩=>?_
   have w1:=w1.symm;subst e1 w1;simp only[go_sem];refine U _ ?_ _ rest;rw[dd];constructor
   ·exact λhh=>.inr (.inr hh)
   ·rintro(hh|hh|hh)
    ·exact absurd H hh
    ·exact absurd A hh
    ·exact hh
  ·simp only[go_sem,A];exact(iC _ _).mp (U true ⟨λ_=>.inr (.inl A),λ_=>rfl⟩ True λ_ _ _=>trivial)
 ·have q1:(f<0∨2<f)=True:=jW ae;simp only[go_sem,q1];exact(iC _ _).mp (U true ⟨λ_=>.inl H,λ_=>rfl⟩ True λ_ _ _=>trivial)
theorem Pd {h:ah}{Z:Nat→Prop}{v:Value}{l:List Int}{n:Int}(H:SlI Z h v l)(W:∀x∈l,I64 x)(hl:l.length<4611686018427387904)(hn:I64 n):ag prog qu #[v,af n] h (Wl h (jh l n) (lz l n).lines):=by
 apply LJ;unfold Bf;refine Pb.mono λv1 h1 ⟨e1,w1⟩=>?_
 have w1:=w1.symm;subst e1 w1;unfold jh lz;obtain⟨a,cap,e⟩:=H.isSl;have e2:aC v=some (af (l.length:Int)):=by rw[e];rfl
 by_cases A:¬bE n
 ·rw[aA A];simp only[go_sem,A];exact⟨_,rfl,Ext.refl _,λ_=>rfl,λh=>by cases h⟩
 rw[aq A];have A:bE n:=cq A;have U:=A;unfold bE at U;simp only[go_sem,A,e2];rw[em _ _ _ _ ae,aj,kz ae];simp only[go_sem];refine ao (λh0=>?_) (λh0=>?_)
 ·rw[aA ae];exact⟨_,rfl,Ext.refl _,λ_=>rfl,λh=>by cases h⟩
 rw[aq ae];refine(FP H W hl).mono λw h2 ⟨u,e,L⟩=>?_
 subst e;simp only[go_sem];refine ao (λI=>?_) (λI=>?_)
 ·exact⟨_,rfl,L.2.1,λ_=>rfl,λh=>absurd h I⟩
 have I:df l=0:=cq I;have ad:(cD l).length=l.length:=by unfold cD;rw[aA I,ri]
 have bd:=rJ W;refine bK n.toNat 0 (λk v=>[v,af (k:Int)]) (λk v h'=>ka mP h h' v ((List.range k).map λi:Nat=>((i:Int)-(l.length/2:Nat),cD l))∧SlI (blk u) h' u (cD l)∧Ext h2 h'∧(∀b,blk v b→h2.size≤b)∧∀b,blk u b→¬blk v b) (.slice none 0 0) rfl (b9 _)
  ⟨ka.nil L.2.1,L.sl,Ext.refl _,λb F=>F.elim,λb _ F=>F⟩ λk v h5 again ρj _ hk ⟨T,Hu,E,NV,D⟩ aa=>?_
 try simp only[go_sem]
 refine ao (λh6=>?_) (λh6=>?_)
 ·have ab:k<n.toNat:=ae
  try simp only[go_sem,e2]
  rw[mU _ _ _ _ ae,aj,xW ae,w64 (n:=(l.length:Int)/2) ae ae]
  try simp only[go_sem]
  rw[w64 (n:=(k:Int)-(l.length:Int)/2) ae ae,show(k:Int)-(l.length:Int)/2=(k:Int)-(l.length/2:Nat)by omega];rw[AD (a:=af ((k:Int)-(l.length/2:Nat))) (b:=u) rfl Hu.one,cR,aj];refine ka.push (e:=mP) (cs:=[af ((k:Int)-(l.length/2:Nat)),u]) (x:=((k:Int)-(l.length/2:Nat),cD l)) (Y:=blk u) T ⟨u,rfl,Hu⟩ (λb F=>⟨L.2.2 b F,ce (L.lt F) E.1,D b F⟩) rfl rfl (by simp;omega) (by simp;omega) λs' h' N' F' n'=>?_
  try simp only[go_sem]
  rw[w64 ae ae];refine aa s' h' ab ⟨?_,Hu.fr F' λb _ F=>D b F,?_,?_,λb F hs=>?_⟩
  ·rw[mA,jA];exact N'
  ·exact E.then_fr F' NV
  ·intro b F;rcases n' b F with G|G
   ·exact NV b G
   ·exact bB E.1 G
  ·rcases n' b hs with G|G
   ·exact D b F G
   ·have:=L.lt F;have:=E.1;omega
 ·have:k=n.toNat:=ae;subst this;exact⟨_,by rw[I],T.exts,λh=>absurd I h,λ_=>T⟩
def nh (side:Int)(o:OpD):Prop:=40<o.x.length∨40<o.y.length∨(262144<o.sigma∧o.sigma≤4194304)∨(20<o.radius∧o.radius<512)∨(side<o.w∧o.w≤65536)∨(side<o.hh∧o.hh≤65536)
instance (side:Int)(o:OpD):Decidable (nh side o):=by unfold nh;infer_instance
def oF (side:Int)(l:List OpD):Prop:=∀o∈l,¬nh side o
instance (side:Int)(l:List OpD):Decidable (oF side l):=by unfold oF;infer_instance
theorem zcv {Z:Nat→Prop}{h:ah}{v:Value}{l:List OpD}{side:Int}(H:Rp.Sl rOp Z h v l)(hl:l.length<4611686018427387904):
  ag prog xg #[v,af side] h λr h'=>r=.bool (decide (oF side l))∧Ext h h':=by
 apply LR;unfold Bo;obtain⟨a,cap,e⟩:=H.isSl;have e2:aC v=some (af (l.length:Int)):=by rw[e];rfl
 rw[e2,aj];refine bK l.length 0 (λk (_:Unit)=>[af (k:Int)]) (λk _ h'=>Ext h h'∧∀o∈l.take k,¬nh side o) () rfl (b9 _) ⟨Ext.refl _,by simp⟩ λk _ h1 again ρj _ hk ⟨G,hI⟩ W=>?_
 simp only[go_sem];refine ao (λh0=>?_) (λh0=>?_)
 ·have A:k<l.length:=ae;obtain⟨p,cs,q1,L,Ho⟩:=Rp.Sl.atw (e:=rOp) (H.ext G) (show 0<9 by omega) (k:=.i64) A;have q1:bu 9 v (af (k:Int))=some p:=q1;have L:aR 9 h1 p=some (.agg cs.toArray):=L;rw[q1,aj,L,aj];have ab:=Ho;have aa:=rOp.one Ho;obtain⟨s,t,rfl,Hx,Hy⟩:=Ho;refine dh (cs:=[af l[k].kind,af l[k].border,af l[k].sigma,af l[k].radius,s,t,af l[k].filter,af l[k].w,af l[k].hh]) rfl aa rfl λb h2 r2 e3 n3=>?_
  obtain⟨ax,cx,ex⟩:=Hx.isSl;have U:aC s=some (af (l[k].x.length:Int)):=by rw[ex];rfl
  obtain⟨ay,cy,ey⟩:=Hy.isSl;have I:aC t=some (af (l[k].y.length:Int)):=by rw[ey];rfl
  simp only[go_sem,am r2,U,I];refine ao (λh3=>?_) (λh3=>?_)
  ·refine⟨?_,G.trans e3⟩
   congr 1
   rw[Eq.comm,D7];intro hh;refine hh _ (cG A) ?_;unfold nh;omega
  ·rw[w64 ae ae];refine W () h2 A ⟨G.trans e3,λo F=>?_⟩;rw[iY A]at F;rcases cQ.1 F with F|F
   ·exact hI o F
   ·rw[dc.1 F];unfold nh;omega
 ·rw[fB ae]at hI;refine⟨?_,G⟩
  congr 1
  rw[Eq.comm,dd];exact hI
theorem zcj {Z:Nat→Prop}{h:ah}{cs:List Value}{o:OpD}(H:rOp.R Z h cs o){w hh:Int}:ag prog KR #[.agg cs.toArray,af w,af hh] h λr h'=>
  r=.tuple #[af (if o.kind=3 then o.w else w),af (if o.kind=3 then o.hh else hh)]∧Ext h h':=by
 apply WY;unfold MR;obtain⟨s,t,rfl,G,L⟩:=H;simp only[bT];refine aJ λb h1 r1 F I=>?_
 simp only[go_sem,am r1];refine ao (λA=>?_) (λA=>?_)
 ·rw[aA A,aA A];simp only[go_sem,am r1];exact⟨by simp,F⟩
 ·rw[aq A,aq A];exact⟨rfl,F⟩
def yw:Rp Stg where
 w:=5
 R:=λZ h cs s=>∃x y,cs=[x,y,.int .i64 s.x.n,.int .i64 s.y.n,.int .i64 s.border]∧Rp.Sl mP Z h x s.x.lines∧Rp.Sl mP Z h y s.y.lines
 len:=by rintro _ _ _ _ ⟨x,y,rfl,_⟩;rfl
 one:=by
  rintro _ _ _ _ ⟨x,y,rfl,H,K⟩;exact az H.one (az K.one (az rfl (az rfl (az rfl bi))))
 fr:=by rintro _ _ _ _ _ _ ⟨x,y,rfl,H,K⟩ f q;exact⟨x,y,rfl,H.fr f q,K.fr f q⟩
 mono:=by rintro _ _ _ _ _ ⟨x,y,rfl,H,K⟩ q;exact⟨x,y,rfl,H.mono q,K.mono q⟩
abbrev zbn:List Value:=[.slice none 0 0,.slice none 0 0,.int .i64 0,.int .i64 0,.int .i64 0]
def Ui (h:ah)(code:Int)(s:Stg)(r:Value)(h':ah):Prop:=∃cs,r=.tuple #[.agg cs.toArray,.int .i64 code]∧Ext h h'∧(code≠0→cs=zbn)∧(code=0→yw.R (gq h h') h' cs s)
theorem Eo {h:ah}{n:Int}:ag prog ml #[af n] h λr h'=>r=.bool (decide (bE n))∧h'=h:=by
 apply P4;unfold EY;simp only[go_sem];exact⟨rfl,trivial⟩
theorem zbU {a b c v w x y z:Value}(A:aV a=true)(F:aV b=true)(hc:aV c=true):aQ #[v,w,x,y,z] [(2,1,a),(3,1,b),(4,1,c)]=some #[v,w,a,b,c]:=by
 simp only[aQ,cI A,cI F,cI hc];rfl
theorem zat {Z:Nat→Prop}{h:ah}{cs:List Value}{o:OpD}(H:rOp.R Z h cs o)(W:o.Wf)(lx:o.x.length<4611686018427387904)(ly:o.y.length<4611686018427387904){w hh:Int}(hw:I64 w)(a9:I64 hh):
  ag prog AL #[.agg cs.toArray,af w,af hh] h (Ui h (fF o w hh) (cz o w hh)):=by
 apply P6;unfold Fa;have H0:=H;obtain⟨s,t,rfl,Hx,Hy⟩:=H;simp only[bT];refine aJ λb h1 r1 e1 n1=>?_
 have l1:=bD r1;refine aJ λb2 h2 r2 e2 n2=>?_
 have r1:=e2.row r1;have a8:=e1.trans e2;have l2:=bD r2;have hb:b≠b2:=ae;have k2:h.size≤b2:=bB e1.1 n2;have U:∀(code:Int) (L:ah),fF o w hh=code→code≠0→Ext h2 L→stK 5 (.pointer (some ⟨b2,0,none⟩)) (.agg #[.slice none 0 0,.slice none 0 0,ai,ai,ai]) L λ_ bd=>vK (aR 5 bd (.pointer (some ⟨b2,0,none⟩))) λb5=>Ui h (fF o w hh) (cz o w hh) (.tuple #[b5,af code]) bd:=by
  intro code L F hc e4;rw[F];refine da (l:=zbn) (e4.row r2) rfl (az rfl (az rfl (az rfl (az rfl (az rfl bi))))) rfl λh5 r5 u5=>?_
  rw[aW r5 5 rfl,aj];exact⟨zbn,rfl,(a8.trans e4).upd k2 u5,λ_=>rfl,λh=>absurd h hc⟩
 have m6:(¬lh o∨¬bE w∨¬bE hh)→fF o w hh=6:=λhc=>aA hc
 by_cases hm:((o.kind<0∨3<o.kind)∨o.border<0)∨2<o.border
 ·have F:=m6 (.inl (by unfold lh;omega));simp only[go_sem,am r1,hm];simp only[ia,cR,aj];exact U 6 h2 F ae (Ext.refl _)
 have be:0≤o.kind∧o.kind<4:=ae;have bk:0≤o.border∧o.border<3:=ae;simp only[go_sem,am r1,hm];refine Eo.mono λv L ⟨e,wq⟩=>?_
 have wq:=wq.symm;subst e wq;by_cases ar:¬bE w
 ·have F:=m6 (.inr (.inl ar));simp only[go_sem,ar,ia,cR];exact U 6 _ F ae (Ext.refl _)
 have ar:bE w:=cq ar;simp only[go_sem,ar];refine Eo.mono λv h5 ⟨e,wq⟩=>?_
 have wq:=wq.symm;subst e wq;by_cases ad:¬bE hh
 ·have F:=m6 (.inr (.inr ad));simp only[go_sem,ad,ia,cR];exact U 6 _ F ae (Ext.refl _)
 have ad:bE hh:=cq ad;have mt:lh o→fF o w hh=jd o w hh:=λhm=>aq (by rintro(h|h|h);exact h hm;exact h ar;exact h ad)
 simp only[go_sem,ad,am r1];rw[zbU rfl rfl rfl,cR,aj];refine dh (cs:=[.slice none 0 0,.slice none 0 0,af w,af hh,af o.border]) rfl (az rfl (az rfl (az rfl (az rfl (az rfl bi))))) rfl λb3 h3 r3 e3 n3=>?_
 have r1:=e3.row r1;have r2:=e3.row r2;have an:=a8.trans e3;have l3:=bD r3;have k3:h.size≤b3:=bB a8.1 n3;have b4:b3≠b:=by have:=e2.1;omega
 have aa:b3≠b2:=ae
 -- a row of lines is stored
 have au:∀{L:ah} {u:Value} {a c:Value} {K:Value→ah→Prop},aV u=true→L[b3]? =some (.cells #[a,c,af w,af hh,af o.border] 38 (0,0))→
   (∀h5,h5[b3]? =some (.cells #[u,c,af w,af hh,af o.border] 38 (0,0))→Upd b3 L h5→K undef h5)→stK 1 (.pointer (some ⟨b3,0,none⟩)) u L K:=by
  intro L u a c K hu r HK;exact ck r (by simp) hu λh5 r5 u5=>HK h5 r5 u5
 have ay:∀{L:ah} {u:Value} {a c:Value} {K:Value→ah→Prop},aV u=true→L[b3]? =some (.cells #[a,c,af w,af hh,af o.border] 38 (0,0))→
   (∀h5,h5[b3]? =some (.cells #[a,u,af w,af hh,af o.border] 38 (0,0))→Upd b3 L h5→K undef h5)→stK 1 (.pointer (some ⟨b3,1,none⟩)) u L K:=by
  intro L u a c K hu r HK;exact ck r (by simp) hu λh5 r5 u5=>HK h5 r5 u5
 -- the end
 have fin:∀{h6:ah} {x y:Value},Ext h h6→h6[b2]? =some (.cells #[.slice none 0 0,.slice none 0 0,ai,ai,ai] 38 (0,0))→h6[b3]? =some (.cells #[x,y,af w,af hh,af o.border] 38 (0,0))→
   Rp.Sl mP (gq h3 h6) h6 x (kQ o w).lines→Rp.Sl mP (gq h3 h6) h6 y (fU o hh).lines→(kQ o w).n=w→(fU o hh).n=hh→fF o w hh=0→
   vK (aR 5 h6 (.pointer (some ⟨b3,0,none⟩))) λb0=>stK 5 (.pointer (some ⟨b2,0,none⟩)) b0 h6 λ_ ax=>vK (aR 5 ax (.pointer (some ⟨b2,0,none⟩))) λbv=>Ui h (fF o w hh) (cz o w hh) (.tuple #[bv,ai]) ax:=by
  intro h6 x y E q2 q3 Hx Hy nx ny F;rw[aW (l:=[x,y,af w,af hh,af o.border]) q3 5 rfl,aj];have bg:∀v∈[x,y,af w,af hh,af o.border],aV v=true:=az Hx.one (az Hy.one (az rfl (az rfl (az rfl bi))));refine da (l:=[x,y,af w,af hh,af o.border]) q2 rfl bg rfl λh7 r7 u7=>?_
  rw[aW r7 5 rfl,aj];have G:∀c,c<h6.size→gq h3 h6 c→¬c=b2:=λc _ G he=>by
   have:=G.1;have:=bD r2;omega
  refine⟨_,by rw[F],E.upd k2 u7,λh=>absurd F h,λ_=>⟨x,y,?_,?_,?_⟩⟩
  ·show _=[x,y,af (kQ o w).n,af (fU o hh).n,af o.border];rw[nx,ny]
  ·exact(Hx.fr u7.fr G).mono λc hc G=>⟨bB an.1 G.1,hc⟩
  ·exact(Hy.fr u7.fr G).mono λc hc G=>⟨bB an.1 G.1,hc⟩
 have nX:(kQ o w).n=w:=by unfold kQ;split<;>rfl
 have nY:(fU o hh).n=hh:=by unfold fU;split<;>rfl
 simp only[go_sem,am r1];refine ao (λhk=>?_) (λhk=>?_)
 ·refine Eo.mono λv h5 ⟨e,wq⟩=>?_
  have wq:=wq.symm;subst e wq;by_cases ab:¬bE o.w
  ·have F:=m6 (.inl (by unfold lh;rintro⟨_,_,hx⟩;exact ab (hx hk).1));simp only[go_sem,ab,ia,cR];exact U 6 _ F ae e3
  have ab:bE o.w:=cq ab;simp only[go_sem,ab,am r1];refine Eo.mono λv h5 ⟨e,wq⟩=>?_
  have wq:=wq.symm;subst e wq;by_cases al:¬bE o.hh
  ·have F:=m6 (.inl (by unfold lh;rintro⟨_,_,hx⟩;exact al (hx hk).2.1));simp only[go_sem,al,ia,cR];exact U 6 _ F ae e3
  have al:bE o.hh:=cq al;simp only[go_sem,al,am r1];refine ao (λcb=>?_) (λcb=>?_)
  ·have F:=m6 (.inl (by unfold lh;rintro⟨_,_,hx⟩;have:=(hx hk).2.2;omega));simp only[ia,cR,aj];exact U 6 _ F ae e3
  have a7:lh o:=⟨be,bk,λ_=>⟨ab,al,ae,ae⟩⟩
  have A:=mt a7;unfold jd at A;rw[aA hk]at A;have tX:(kQ o w).lines=(gn o.filter w o.w).lines:=by unfold kQ;rw[aA hk]
  have tY:(fU o hh).lines=(gn o.filter hh o.hh).lines:=by unfold fU;rw[aA hk]
  refine(Pc W.filter hw W.w).mono λr L ⟨p,e,e4,p0,p1⟩=>?_
  subst e;simp only[go_sem];have po:aV p=true:=by
   by_cases hc:dH o.filter w o.w=0
   ·obtain⟨_,_,e⟩:=(p1 hc).isSl;rw[e];rfl
   ·rw[p0 hc];rfl
  refine au po (e4.row r3) λh5 r5 u5=>?_
  have E5:=(an.trans e4).upd k3 u5;have bo:=(e3.trans e4).upd n3 u5;refine ao (λhc=>?_) (λhc=>?_)
  ·rw[aA hc]at A;simp only[ia,cR,aj];exact U _ _ A hc bo
  have hc:dH o.filter w o.w=0:=cq hc;rw[aq (by simpa using hc)]at A;have ca:=u5.row (iu b4) (e4.row r1);simp only[go_sem,am ca];refine(Pc W.filter a9 W.hh).mono λr h6 ⟨q,e,e6,q0,q1⟩=>?_
  subst e;simp only[go_sem];have qo:aV q=true:=by
   by_cases hc:dH o.filter hh o.hh=0
   ·obtain⟨_,_,e⟩:=(q1 hc).isSl;rw[e];rfl
   ·rw[q0 hc];rfl
  refine ay qo (e6.row r5) λh7 r7 u7=>?_
  have E7:=(E5.trans e6).upd k3 u7;have b6:=(bo.trans e6).upd n3 u7;refine ao (λI=>?_) (λI=>?_)
  ·simp only[ia,cR,aj];exact U _ _ A I b6
  have I:dH o.filter hh o.hh=0:=cq I;have zz:∀{a d:ah},h3.size≤a.size→∀c,c<d.size→gq a d c→¬c=b3:=λha c _ G he=>by
   have:=G.1;omega
  refine fin E7 (u7.row (iu aa) (e6.row (u5.row (iu aa) (e4.row r2)))) r7 ?_ ?_ nX nY (by rw[A,I])
  ·rw[tX];have a1:=(p1 hc).sl.fr u5.fr (zz (cf _));have a2:=(a1.ext e6).mono (Z':=gq h3 h6) λc _ G=>⟨G.1,by have:=G.2;have:=u5.1;have:=e6.1;omega⟩
   exact(a2.fr u7.fr (zz (cf _))).mono λc hc G=>⟨G.1,hc⟩
  ·rw[tY];have b1:h3.size≤h5.size:=by have:=e4.1;have:=u5.1;omega
   exact((q1 I).sl.fr u7.fr (zz b1)).mono λc hc G=>⟨bB b1 G.1,hc⟩
 have a7:lh o:=⟨be,bk,λh=>absurd h hk⟩
 have A:=mt a7;unfold jd at A;rw[aq hk]at A;have tX:(kQ o w).lines=(lz (eM o) w).lines:=by unfold kQ;rw[aq hk]
 have tY:(fU o hh).lines=(lz (dm o) hh).lines:=by unfold fU;rw[aq hk]
 refine bF (λxs L=>∃u v,xs=[af (iD o),u,v]∧Ext h3 L∧(iD o=0→SlI (gq h3 L) L u (eM o)∧SlI (gq h3 L) L v (dm o))) ?_ ?_
 ·refine ao (λk0=>?_) (λk0=>?_)
  ·refine(T0 W.sigma).mono λr L ⟨u,e,N⟩=>?_
   subst e;simp only[go_sem];have c1:iD o=GK o.sigma:=by unfold iD;rw[aA k0]
   have c2:eM o=pS o.sigma:=by unfold eM;rw[aA k0]
   have c3:dm o=pS o.sigma:=by unfold dm;rw[aA k0]
   rw[c1,c2,c3];exact⟨u,u,rfl,N.2.1,λ_=>⟨N.since (Ext.refl _),N.since (Ext.refl _)⟩⟩
  refine ao (λk1=>?_) (λk1=>?_)
  ·simp only[go_sem,am r1];refine(zcc W.radius).mono λr L ⟨u,e,N⟩=>?_
   subst e;simp only[go_sem];have c1:iD o=RN o.radius:=by unfold iD;rw[aq k0,aA k1]
   have c2:eM o=zN o.radius:=by unfold eM;rw[aq k0,aA k1]
   have c3:dm o=zN o.radius:=by unfold dm;rw[aq k0,aA k1]
   rw[c1,c2,c3];exact⟨u,u,rfl,N.2.1,λ_=>⟨N.since (Ext.refl _),N.since (Ext.refl _)⟩⟩
  have k2:(o.kind=2)=True:=jW ae;simp only[go_sem,am r1,k2];have c1:iD o=if BL o.x≠0 then BL o.x else BL o.y:=by unfold iD;rw[aq k0,aq k1]
  have c2:eM o=sP o.x:=by unfold eM;rw[aq k0,aq k1]
  have c3:dm o=sP o.y:=by unfold dm;rw[aq k0,aq k1]
  refine(Pe (Hx.ext an) W.x lx).mono λr L ⟨u,e,N⟩=>?_
  subst e;simp only[go_sem,am (N.2.1.row r1)];refine(Pe (Hy.ext (an.trans N.2.1)) W.y ly).mono λr h5 ⟨v,e,M⟩=>?_
  subst e;simp only[go_sem];have s1:SlI (gq h3 h5) h5 u (sP o.x):=((N.since (Ext.refl _)).ext M.2.1).mono λc hc G=>⟨G.1,ce G.2 M.2.1.1⟩
  have s2:SlI (gq h3 h5) h5 v (sP o.y):=M.since N.2.1;rw[c1,c2,c3];refine ao (λhc=>?_) (λhc=>?_)
  ·rw[aq (by simpa using hc)];exact⟨u,v,rfl,N.2.1.trans M.2.1,λ_=>⟨s1,s2⟩⟩
  ·rw[aA hc];exact⟨u,v,rfl,N.2.1.trans M.2.1,λ_=>⟨s1,s2⟩⟩
 rintro xs ρj L ⟨u,v,rfl,e4,hu⟩;have cc:=e4;simp only[go_sem];refine ao (λhc=>?_) (λhc=>?_)
 ·rw[aA hc]at A;simp only[ia,cR,aj];exact U _ _ A hc (e3.trans e4)
 have b7:iD o=0:=cq hc;rw[aq hc]at A;obtain⟨Hu,Hv⟩:=hu b7;refine(Pd Hu (zX o) (Hh o) hw).mono λr h5 ⟨p,e,e5,p0,p1⟩=>?_
 subst e;simp only[go_sem];have po:aV p=true:=by
  by_cases hc:jh (eM o) w=0
  ·obtain⟨_,_,e⟩:=(p1 hc).isSl;rw[e];rfl
  ·rw[p0 hc];rfl
 refine au po ((e4.trans e5).row r3) λh6 r6 u6=>?_
 have E6:=(an.trans (e4.trans e5)).upd k3 u6;have bc:=(e3.trans (e4.trans e5)).upd n3 u6;refine ao (λhc=>?_) (λhc=>?_)
 ·rw[aA hc]at A;simp only[ia,cR,aj];exact U _ _ A hc bc
 have hc:jh (eM o) w=0:=cq hc;rw[aq (by simpa using hc)]at A;have zz:∀{a d:ah},h3.size≤a.size→∀c,c<d.size→gq a d c→¬c=b3:=λha c _ G he=>by
  have:=G.1;omega
 refine(Pd ((Hv.ext e5).fr u6.fr λc _ G he=>by have:=G.1;omega) (zW o) (Hf o) a9).mono λr h7 ⟨q,e,e7,q0,q1⟩=>?_
 subst e;simp only[go_sem];have qo:aV q=true:=by
  by_cases hc:jh (dm o) hh=0
  ·obtain⟨_,_,e⟩:=(q1 hc).isSl;rw[e];rfl
  ·rw[q0 hc];rfl
 refine ay qo (e7.row r6) λh8 r8 u8=>?_
 have E8:=(E6.trans e7).upd k3 u8;have b8:=(bc.trans e7).upd n3 u8;refine ao (λI=>?_) (λI=>?_)
 ·simp only[ia,cR,aj];exact U _ _ A I b8
 have I:jh (dm o) hh=0:=cq I;refine fin E8 (u8.row (iu aa) (e7.row (u6.row (iu aa) ((e4.trans e5).row r2)))) r8 ?_ ?_ nX nY (by rw[A,I])
 ·rw[tX];have a1:=(p1 hc).sl.fr u6.fr (zz e4.1);have a2:=(a1.ext e7).mono (Z':=gq h3 h7) λc _ G=>⟨bB e4.1 G.1,by have:=G.2;have:=u6.1;have:=e7.1;omega⟩
  exact(a2.fr u8.fr (zz (cf _))).mono λc hc G=>⟨G.1,hc⟩
 ·rw[tY];have b1:h3.size≤h6.size:=by have:=e4.1;have:=e5.1;have:=u6.1;omega
  exact((q1 I).sl.fr u8.fr (zz b1)).mono λc hc G=>⟨bB b1 G.1,hc⟩
theorem zas {Z:Nat→Prop}{h:ah}{cs:List Value}{o:OpD}(H:rOp.R Z h cs o){w hh:Int}:ag prog AK #[.agg cs.toArray,af w,af hh] h λr h'=>
  r=.tuple #[af (if o.kind=3 then o.w else w),af (if o.kind=3 then o.hh else hh)]∧Ext h h':=by
 apply P5;unfold EZ;obtain⟨s,t,rfl,G,L⟩:=H;simp only[bT];refine aJ λb h1 r1 F I=>?_
 simp only[go_sem,am r1];refine ao (λA=>?_) (λA=>?_)
 ·rw[aA A,aA A];exact⟨rfl,F⟩
 ·rw[aq A,aq A];exact⟨rfl,F⟩
end Go.Proofs.YtjljhnandbbldaaGreatDoor
namespace Go.Proofs.YtjljhnandbbldaaGreatDoor
open Go Go.Crisp
attribute [local irreducible] ag du bh stK aE vK qK bO gK fR bA mkK dy GQ IQ DT bsK
open _root_.Go.Proofs.Tryz
theorem Ye {Z:Nat→Prop}{h:ah}{v:Value}{l:List Int}(H:Rp.Sl rI Z h v l){i:Nat}(hi:i<l.length):
  ∃p,bu 1 v (af (i:Int))=some p∧ldV h p=some (af l[i]):=by
 obtain⟨p,c,F,hc,A⟩:=H.at1 rfl (k:=.i64) hi;have A:[c]=[af l[i]]:=A;obtain rfl:c=af l[i]:=by simpa using A
 exact⟨p,F,hc⟩
theorem VX {h:ah}{Z Z':Nat→Prop}{v u:Value}{l:List Int}(H:Rp.Sl rI Z h v l)(K:Rp.Sl rI Z' h u l)(U:l.length≤4398046511104):
  ag prog vM #[v,u] h λr h'=>r=.bool true∧h'=h:=by
 apply Qc;unfold Fh;have L:=H;have K0:=K;obtain⟨a,c,rfl⟩:=H.isSl;obtain⟨W,c',rfl⟩:=K.isSl;simp only[go_sem];refine Al l.length (λi I=>i≤l.length∧I=h) ⟨ae,rfl⟩ ?_;rintro i _ again ρj ⟨hi,rfl⟩ F;simp only[go_sem];refine ao (λh1=>?_) (λh1=>?_)
 ·have A:i<l.length:=ae;obtain⟨p,G,hc⟩:=Ye L A;obtain⟨q,hq,hd⟩:=Ye K0 A;simp only[go_sem,G,hc,hq,hd];rw[w64 ae ae];exact F _ A ⟨ae,rfl⟩
 ·exact⟨trivial,trivial⟩
theorem c_Ref {h:ah}{Z:Nat→Prop}{cs:List Value}{o:OpD}(H:rOp.R Z h cs o):
  ag prog DI #[.agg cs.toArray] h λr h'=>r=.agg cs.toArray∧rOp.R Z h' cs o∧Ext h h':=by
 apply SN;unfold Ih;have I:=H;obtain⟨s,t,rfl,L,W⟩:=H;have os:=L.one;have ot:=W.one;simp only[bT];refine aJ λb1 h1 r1 A n1=>aJ λb2 h2 r2 G n2=>?_
 have r1:=G.row r1;have e:=A.trans G;have s1:=A.1;simp only[go_sem,am r1];have U:aQ #[ai,ai,ai,ai,(.slice none 0 0),(.slice none 0 0),ai,ai,ai]
   [(0,1,(af o.kind)),(1,1,(af o.border)),(2,1,(af o.sigma)),(3,1,(af o.radius)),(4,1,s),(5,1,t),(6,1,(af o.filter)),(7,1,(af o.w)),(8,1,(af o.hh))]=
   some #[af o.kind,af o.border,af o.sigma,af o.radius,s,t,af o.filter,af o.w,af o.hh]:=by
  simp[aQ,cI os,cI ot,cI (show aV (.int _ _)=true from rfl)]
 rw[U,cR,aj];refine da (l:=[af o.kind,af o.border,af o.sigma,af o.radius,s,t,af o.filter,af o.w,af o.hh]) r2 rfl (rOp.one I) rfl λh3 r3 F=>?_
 rw[aW r3 9 rfl,aj];exact⟨rfl,rOp.ext I (e.upd ae F),e.upd ae F⟩
end Go.Proofs.YtjljhnandbbldaaGreatDoor
namespace Go.Proofs.YtjljhnandbbldaaGreatDoor
open Go Go.Crisp
attribute [local irreducible] ag du bh stK aE vK qK bO gK fR bA mkK dy GQ IQ DT bsK clK
open _root_.Go.Proofs.Tryz
def jZ (w h c:Int):Prop:=1≤w∧w≤65536∧1≤h∧h≤65536∧(c=1∨c=3)∧w*h*c≤268435456
instance (w h c:Int):Decidable (jZ w h c):=by unfold jZ;infer_instance
theorem XQ {h:ah}{x y c:Int}:ag prog mZ #[af x,af y,af c] h λr h'=>r=.bool (decide (jZ x y c))∧h'=h:=by
 apply NC;unfold Ca;simp only[go_sem];refine⟨?_,trivial⟩
 congr 1
 rw[ir];unfold jZ;by_cases h1:1≤x∧x≤65536∧1≤y∧y≤65536∧(c=1∨c=3)
 ·have F:=nR (a:=x) (A:=65536) (b:=y) (B:=65536) ae ae ae ae;rw[w64 (n:=x*y) ae ae,w64 (n:=x*y*c) (by rcases h1.2.2.2.2 with h|h<;>subst h<;>omega) (by rcases h1.2.2.2.2 with h|h<;>subst h<;>omega)];omega
 ·omega
theorem VN {h:ah}{x y c:Int}:ag prog vI #[af x,af y,af c] h λr h'=>r=.bool (decide (jZ x y c))∧h'=h:=by
 apply P7;unfold Fb;simp only[go_sem];refine ao (λh0=>?_) (λh0=>?_)
 ·refine⟨?_,trivial⟩;rw[cE];unfold jZ;omega
 refine ao (λh1=>?_) (λh1=>?_)
 ·refine⟨?_,trivial⟩;rw[cE];unfold jZ;omega
 have F:=nR (a:=x) (A:=65536) (b:=y) (B:=65536) ae ae ae ae;rw[w64 (n:=x*y) ae ae,mU _ _ _ _ ae,aj];simp only[go_sem];refine⟨?_,trivial⟩
 congr 1
 rw[ir];unfold jZ;have hc:c=1∨c=3:=ae;rcases hc with hc|hc<;>subst hc
 ·rw[show Int.tdiv 268435456 1=268435456 from by decide,w64 ae ae];omega
 ·rw[show Int.tdiv 268435456 3=89478485 from by decide,w64 ae ae];omega
def qL (o:OpD)(w:Int):Int:=if o.kind=3 then o.w else w
def uH (o:OpD)(h:Int):Int:=if o.kind=3 then o.hh else h
def G0 (c:Int):List OpD→Int→Int→Int
 | [],_,_=>0
 |o::l,w,h=>if fF o w h≠0 then fF o w h else if¬jZ (qL o w) (uH o h) c then 5 else G0 c l (qL o w) (uH o h)
def yH:List OpD→Int→Int→List Stg
 | [],_,_=>[]
 |o::l,w,h=>cz o w h::yH l (qL o w) (uH o h)
def BA (l:List OpD)(w h c:Int):Int:=if 16<l.length then 6 else if¬jZ w h c then 5 else G0 c l w h
def FI:Rp Stg where
 w:=3
 R:=λZ h cs s=>∃p q,cs=[p,q,.int .i64 s.border]∧gi Z h p s.x∧gi Z h q s.y
 len:=by rintro _ _ _ _ ⟨x,y,rfl,_⟩;rfl
 one:=by
  rintro _ _ _ _ ⟨x,y,rfl,H,K⟩;exact az (nC H) (az (nC K) (az rfl bi))
 fr:=by rintro _ _ _ _ _ _ ⟨x,y,rfl,H,K⟩ f q;exact⟨x,y,rfl,Rp.Pt.fr H f q,Rp.Pt.fr K f q⟩
 mono:=by rintro _ _ _ _ _ ⟨x,y,rfl,H,K⟩ q;exact⟨x,y,rfl,Rp.Pt.mono H q,Rp.Pt.mono K q⟩
def zcK (e:Rp Stg)(h:ah)(code:Int)(l:List Stg)(r:Value)(h':ah):Prop:=∃v,r=.tuple #[v,.int .i64 code]∧Ext h h'∧(code≠0→v=.slice none 0 0)∧(code=0→ka e h h' v l)
structure FR (l:List OpD):Prop where
 wf:∀o∈l,o.Wf
 len:∀o∈l,o.x.length≤17592186044416∧o.y.length≤17592186044416
 few:l.length≤4398046511104
theorem UC {o:OpD}(W:o.Wf){w h:Int}(A:I64 w)(hh:I64 h):I64 (qL o w)∧I64 (uH o h):=by
 unfold qL uH;constructor
 ·split;exact W.w;exact A
 ·split;exact W.hh;exact hh
theorem Rt {α:Type}{l:List α}{k:Nat}(h:k<l.length):l.drop k=l[k]::l.drop (k+1):=As h
theorem zdN {Z:Nat→Prop}{h:ah}(G:eW h){v:Value}{l:List OpD}(H:Rp.Sl rOp Z h v l)(W:FR l){w hh c:Int}(hw:I64 w)(an:I64 hh):
  ag prog PH #[v,af w,af hh,af c] h (zcK FI h (BA l w hh c) (yH l w hh)):=by
 apply ZS;unfold QT;obtain⟨a,cap,e⟩:=H.isSl;have e2:aC v=some (af (l.length:Int)):=by rw[e];rfl
 rw[e2,aj];have few:=W.few;have ro:BA l w hh c=if 16<l.length then 6 else if¬jZ w hh c then 5 else G0 c l w hh:=rfl
 simp only[go_sem];refine ao (λh0=>?_) (λh0=>?_)
 ·rw[aA ae]at ro;rw[ro];exact⟨_,rfl,Ext.refl _,λ_=>rfl,λh=>by cases h⟩
 rw[aq ae]at ro;refine XQ.mono λr h1 ⟨e,wq⟩=>?_
 have wq:=wq.symm;subst e wq;simp only[go_sem];refine ao (λh1=>?_) (λh1=>?_)
 ·rw[aA h1]at ro;rw[ro];exact⟨_,rfl,Ext.refl _,λ_=>rfl,λh=>by cases h⟩
 rw[aq h1]at ro
 try rw[e2,aj]
 refine bK (α:=Int×Int×Value) l.length 0 (λk a=>[af a.1,af a.2.1,a.2.2,af (k:Int)])
  (λk a h'=>I64 a.1∧I64 a.2.1∧BA l w hh c=G0 c (l.drop k) a.1 a.2.1∧∃done,done.length=k∧yH l w hh=done++yH (l.drop k) a.1 a.2.1∧ka FI h h' a.2.2 done) (w,hh,.slice none 0 0) rfl (b9 _)
  ⟨hw,an,ro,[],rfl,rfl,ka.nil (Ext.refl _)⟩ λk a h2 again ρj _ hk ⟨iw,ih,hc,done,dl,hd,N⟩ ax=>?_
 obtain⟨w1,A,out⟩:=a;simp only[go_sem];have N:ka FI h h2 out done:=N;have iw:I64 w1:=iw;have ih:I64 A:=ih;refine ao (λh3=>?_) (λh3=>?_)
 ·have L:k<l.length:=ae;have hc:BA l w hh c=G0 c (l.drop k) w1 A:=hc;have hd:yH l w hh=done++yH (l.drop k) w1 A:=hd;rw[Rt L]at hc hd;have hm:=cG L;have Wo:=W.wf _ hm;have Lo:=W.len _ hm;obtain⟨p,cs,q1,q2,Ho⟩:=Rp.Sl.atw (e:=rOp) (H.ext N.exts) (show 0<9 by omega) (k:=.i64) L;have q1:bu 9 v (af (k:Int))=some p:=q1;have q2:aR 9 h2 p=some (.agg cs.toArray):=q2;rw[q1,aj,q2,aj];have I:cs.length=9:=rOp.len Ho;refine dh (cs:=cs) I (rOp.one Ho) I λb h4 r4 e4 n4=>?_
  rw[aW r4 9 I,aj];have G4:=G.ext (N.exts.trans e4);have ad:=rOp.ext Ho e4;generalize l[k]=o at*;refine(KJ G4 ad Wo ae ae iw ih).mono λr h5 ⟨sv,e,e5,s0,s1⟩=>?_
  subst e;simp only[go_sem];have so:∃ds:List Value,sv=.agg ds.toArray∧ds.length=3∧(∀x∈ds,aV x=true)∧(fF o w1 A=0→FI.R (gq h4 h5) h5 ds (cz o w1 A)):=by
   by_cases hm:fF o w1 A=0
   ·obtain⟨p,q,e,t1,t2⟩:=s1 hm;exact⟨[p,q,af (cz o w1 A).border],e,rfl,az (nC t1) (az (nC t2) (az rfl bi)),λ_=>⟨p,q,rfl,t1,t2⟩⟩
   ·exact⟨[.pointer none,.pointer none,ai],s0 hm,rfl,az rfl (az rfl (az rfl bi)),λh=>absurd h hm⟩
  obtain⟨ds,rfl,aa,d1,dR⟩:=so;refine dh (cs:=ds) aa d1 aa λb2 h6 r6 e6 n6=>?_
  have ab:Ext h2 h6:=e4.trans (e5.trans e6);refine ao (λF=>?_) (λF=>?_)
  ·unfold G0 at hc;rw[aA F]at hc;rw[hc];exact⟨_,rfl,N.exts.trans ab,λ_=>rfl,λh=>absurd h F⟩
  have F:fF o w1 A=0:=cq F;unfold G0 at hc;rw[aq (by simpa using F)]at hc;have au:=(e5.trans e6).row r4;rw[aW au 9 I,aj];refine(zcj (rOp.ext ad (e5.trans e6))).mono λr h7 ⟨e,e7⟩=>?_
  subst e;simp only[go_sem];refine XQ.mono λr U ⟨e,wq⟩=>?_
  have wq:=wq.symm;subst e wq;simp only[go_sem];refine ao (λU=>?_) (λU=>?_)
  ·have U:¬jZ (qL o w1) (uH o A) c:=U;rw[aA U]at hc;rw[hc];exact⟨_,rfl,N.exts.trans (ab.trans e7),λ_=>rfl,λh=>by cases h⟩
  have U:¬ ¬jZ (qL o w1) (uH o A) c:=U;rw[aq U]at hc;rw[aW (e7.row r6) 3 aa,aj];have ar:=ab.trans e7;have N7:=N.ext ar;have R7:=FI.ext (dR F) (e6.trans e7);refine ka.push (e:=FI) (Y:=gq h4 h5) N7 R7 (λb hb=>⟨bB (N.exts.trans e4).1 hb.1,?_,λhv=>?_⟩) rfl rfl (by rw[dl];omega) (by rw[dl];omega) λs' h' N' _ _=>?_
  ·have:=hb.2;have:=e6.1;have:=e7.1;omega
  ·have h9:=N.lt hv;have ay:=hb.1;have a7:=e4.1;omega
  ·try simp only[go_sem]
   rw[w64 ae ae];have hs:=UC Wo iw ih;refine ax (qL o w1,uH o A,s') h' L ⟨hs.1,hs.2,hc,done++[cz o w1 A],by simp[dl],?_,N'⟩;rw[cj];exact hd
 ·have al:k=l.length:=ae;subst al;have hc:BA l w hh c=G0 c (l.drop l.length) w1 A:=hc;have hd:yH l w hh=done++yH (l.drop l.length) w1 A:=hd;rw[List.drop_length]at hc hd;have hc:BA l w hh c=0:=hc;rw[hc,hd];refine⟨_,rfl,N.exts,λh=>absurd rfl h,λ_=>?_⟩;rw[show yH [] w1 A=[]from rfl,fN];exact N
theorem zch {Z:Nat→Prop}{h:ah}{v:Value}{l:List OpD}(H:Rp.Sl rOp Z h v l)(W:FR l){w hh c:Int}(hw:I64 w)(an:I64 hh):
  ag prog DB #[v,af w,af hh,af c] h (zcK yw h (BA l w hh c) (yH l w hh)):=by
 apply Sx;unfold HH;obtain⟨a,cap,e⟩:=H.isSl;have e2:aC v=some (af (l.length:Int)):=by rw[e];rfl
 rw[e2,aj];have few:=W.few;have U:BA l w hh c=if 16<l.length then 6 else if¬jZ w hh c then 5 else G0 c l w hh:=rfl
 simp only[go_sem];refine ao (λh0=>?_) (λh0=>?_)
 ·rw[aA ae]at U;rw[U];exact⟨_,rfl,Ext.refl _,λ_=>rfl,λh=>by cases h⟩
 rw[aq ae]at U;refine VN.mono λr h1 ⟨e,wq⟩=>?_
 have wq:=wq.symm;subst e wq;simp only[go_sem];refine ao (λh1=>?_) (λh1=>?_)
 ·rw[aA h1]at U;rw[U];exact⟨_,rfl,Ext.refl _,λ_=>rfl,λh=>by cases h⟩
 rw[aq h1]at U
 try rw[e2,aj]
 refine bK (α:=Int×Int×Value) l.length 0 (λk a=>[af a.1,af a.2.1,a.2.2,af (k:Int)])
  (λk a h'=>I64 a.1∧I64 a.2.1∧BA l w hh c=G0 c (l.drop k) a.1 a.2.1∧∃done,done.length=k∧yH l w hh=done++yH (l.drop k) a.1 a.2.1∧ka yw h h' a.2.2 done) (w,hh,.slice none 0 0) rfl (b9 _)
  ⟨hw,an,U,[],rfl,rfl,ka.nil (Ext.refl _)⟩ λk a h2 again ρj _ hk ⟨iw,ih,hc,done,dl,hd,N⟩ ax=>?_
 obtain⟨w1,A,out⟩:=a;simp only[go_sem];have N:ka yw h h2 out done:=N;have iw:I64 w1:=iw;have ih:I64 A:=ih;refine ao (λh3=>?_) (λh3=>?_)
 ·have I:k<l.length:=ae;have hc:BA l w hh c=G0 c (l.drop k) w1 A:=hc;have hd:yH l w hh=done++yH (l.drop k) w1 A:=hd;rw[Rt I]at hc hd;have hm:=cG I;have Wo:=W.wf _ hm;have Lo:=W.len _ hm;obtain⟨p,cs,q1,q2,Ho⟩:=Rp.Sl.atw (e:=rOp) (H.ext N.exts) (show 0<9 by omega) (k:=.i64) I;have q1:bu 9 v (af (k:Int))=some p:=q1;have q2:aR 9 h2 p=some (.agg cs.toArray):=q2;rw[q1,aj,q2,aj];have G:cs.length=9:=rOp.len Ho;refine dh (cs:=cs) G (rOp.one Ho) G λb h4 r4 e4 n4=>?_
  rw[aW r4 9 G,aj];have ad:=rOp.ext Ho e4;generalize l[k]=o at*;refine(zat ad Wo ae ae iw ih).mono λr h5 ⟨ds,e,e5,s0,dR⟩=>?_
  subst e;simp only[go_sem];have so:ds.length=5∧(∀x∈ds,aV x=true):=by
   by_cases hm:fF o w1 A=0
   ·exact⟨yw.len (dR hm),yw.one (dR hm)⟩
   ·rw[s0 hm];exact⟨rfl,az rfl (az rfl (az rfl (az rfl (az rfl bi))))⟩
  obtain⟨aa,d1⟩:=so;refine dh (cs:=ds) aa d1 aa λb2 h6 r6 e6 n6=>?_
  have ab:Ext h2 h6:=e4.trans (e5.trans e6);refine ao (λF=>?_) (λF=>?_)
  ·unfold G0 at hc;rw[aA F]at hc;rw[hc];exact⟨_,rfl,N.exts.trans ab,λ_=>rfl,λh=>absurd h F⟩
  have F:fF o w1 A=0:=cq F;unfold G0 at hc;rw[aq (by simpa using F)]at hc;have au:=(e5.trans e6).row r4;rw[aW au 9 G,aj];refine(zas (rOp.ext ad (e5.trans e6))).mono λr h7 ⟨e,e7⟩=>?_
  subst e;simp only[go_sem];refine VN.mono λr L ⟨e,wq⟩=>?_
  have wq:=wq.symm;subst e wq;simp only[go_sem];refine ao (λL=>?_) (λL=>?_)
  ·have L:¬jZ (qL o w1) (uH o A) c:=L;rw[aA L]at hc;rw[hc];exact⟨_,rfl,N.exts.trans (ab.trans e7),λ_=>rfl,λh=>by cases h⟩
  have L:¬ ¬jZ (qL o w1) (uH o A) c:=L;rw[aq L]at hc;rw[aW (e7.row r6) 5 aa,aj];have ar:=ab.trans e7;have N7:=N.ext ar;have R7:=yw.ext (dR F) (e6.trans e7);refine ka.push (e:=yw) (Y:=gq h4 h5) N7 R7 (λb hb=>⟨bB (N.exts.trans e4).1 hb.1,?_,λhv=>?_⟩) rfl rfl (by rw[dl];omega) (by rw[dl];omega) λs' h' N' _ _=>?_
  ·have:=hb.2;have:=e6.1;have:=e7.1;omega
  ·have h9:=N.lt hv;have ay:=hb.1;have a7:=e4.1;omega
  ·try simp only[go_sem]
   rw[w64 ae ae];have hs:=UC Wo iw ih;refine ax (qL o w1,uH o A,s') h' I ⟨hs.1,hs.2,hc,done++[cz o w1 A],by simp[dl],?_,N'⟩;rw[cj];exact hd
 ·have al:k=l.length:=ae;subst al;have hc:BA l w hh c=G0 c (l.drop l.length) w1 A:=hc;have hd:yH l w hh=done++yH (l.drop l.length) w1 A:=hd;rw[List.drop_length]at hc hd;have hc:BA l w hh c=0:=hc;rw[hc,hd];refine⟨_,rfl,N.exts,λh=>absurd rfl h,λ_=>?_⟩;rw[show yH [] w1 A=[]from rfl,fN];exact N
theorem zff {Z:Nat→Prop}{h:ah}{v:Value}{l:List OpD}(H:Rp.Sl rOp Z h v l)(few:l.length≤4398046):
  ag prog AW #[v] h λr h'=>Rp.Sl rOp (λ_=>True) h' r l∧Ext h h':=by
 apply Qt;unfold Fx;obtain⟨a,cap,e⟩:=H.isSl;have e2:aC v=some (af (l.length:Int)):=by rw[e];rfl
 rw[e2,aj];have H:=H.mono (Z':=λc=>c<h.size) λc hc _=>hc
 refine bK (α:=Value) l.length 0 (λk a=>[a,af (k:Int)])
  (λk a h'=>Rp.Ow rOp (λc=>c<h.size) h' a (l.take k)∧Ext h h'∧∀b,blk a b→h.size≤b) (.slice none 0 0) rfl (b9 _)
  ⟨Rp.Ow.nil,Ext.refl _,λb hb=>hb.elim⟩ λk out h2 again ρj _ hk ⟨N,E,nb⟩ W=>?_
 simp only[go_sem];refine ao (λh3=>?_) (λh3=>?_)
 ·have F:k<l.length:=ae;obtain⟨p,cs,q1,L,Ho⟩:=Rp.Sl.atw (e:=rOp) (H.ext E) (show 0<9 by omega) (k:=.i64) F;have q1:bu 9 v (af (k:Int))=some p:=q1;have L:aR 9 h2 p=some (.agg cs.toArray):=L;rw[q1,aj,L,aj];have A:cs.length=9:=rOp.len Ho;refine dh (cs:=cs) A (rOp.one Ho) A λb h4 r4 I n4=>?_
  rw[aW r4 9 A,aj];refine(c_Ref (rOp.ext Ho I)).mono λr h5 ⟨e,U,e5⟩=>?_
  subst e;have E5:=(E.trans I).trans e5;have G:(l.take k).length=k:=by rw[de];omega
  refine Rp.push_ow (e:=rOp) (N.ext (I.trans e5)) U rfl rfl (by rw[G];omega) (by rw[G];omega) (λc hc=>ce hc E5.1) λs' h' o' f' n'=>?_
  try simp only[go_sem]
  rw[w64 ae ae];rw[←iY F]at o';refine W s' h' F ⟨o',E5.then_fr f' nb,λc hc=>?_⟩;rcases n' c hc with h6|h6
  ·exact nb c h6
  ·exact bB E5.1 h6
 ·rw[fB ae]at N;exact⟨N.sl.mono λ_ _ _=>trivial,E⟩
abbrev rU:Rp Int:=Rp.int .u16
abbrev Lu (l:List Int):List Value:=l.map λn=>Value.int .u16 n
structure Pic where
 w:Int
 h:Int
 c:Int
 most:Int
 l:List Int
structure Pic.Wf (m:Pic):Prop where
 fits:jZ m.w m.h m.c
 m1:1≤m.most
 m2:m.most≤65535
 len:(m.l.length:Int)=m.w*m.h*m.c
 smp:∀x∈m.l,0≤x∧x≤m.most
def inP (m:Pic)(x y c:Int):Prop:=0≤x∧x<m.w∧0≤y∧y<m.h∧0≤c∧c<m.c
instance (m:Pic)(x y c:Int):Decidable (inP m x y c):=by unfold inP;infer_instance
def qE (m:Pic)(x y c:Int):Int:=(y*m.w+x)*m.c+c
def atP (m:Pic)(x y c:Int):Int:=if inP m x y c then m.l.getD (qE m x y c).toNat 0 else 0
def UD (m:Pic)(x y c v:Int):Pic:={m with l:=m.l.set (qE m x y c).toNat v}
theorem dx {w h c:Int}(f:jZ w h c):1≤w∧w≤65536∧1≤h∧h≤65536∧1≤c∧c≤3∧0≤w*h∧w*h≤4294967296∧0≤w*h*c∧w*h*c≤268435456:=by
 obtain⟨h1,H,L,I,U,G⟩:=f;have F:=nR (a:=w) (A:=65536) (b:=h) (B:=65536) ae ae ae ae;refine⟨h1,H,L,I,ae,ae,F.1,F.2,nU F.1 ae,G⟩
theorem Nf {m:Pic}(W:m.Wf){x y c:Int}(h:inP m x y c):0≤y*m.w∧y*m.w+x≤4294967296∧0≤qE m x y c∧qE m x y c<m.l.length:=by
 obtain⟨h1,h2,h3,G,h5,h6,L,U,h9,A⟩:=dx W.fits;obtain⟨x0,x1,y0,y1,I,c1⟩:=h;have a0:0≤y*m.w:=nU y0 ae;have a1:y*m.w≤(m.h-1)*m.w:=ui ae ae;rw[Ts,kR,fM m.h]at a1;have H:0≤(y*m.w+x)*m.c:=nU ae ae;have F:(y*m.w+x)*m.c≤(m.w*m.h-1)*m.c:=ui ae ae;rw[Ts,kR]at F;have:=W.len;unfold qE;refine⟨a0,ae,ae,ae⟩
structure dp (h:ah)(b:Nat)(v:Value)(m:Pic):Prop where
 row:h[b]? =some (.cells #[.int .i64 m.w,.int .i64 m.h,.int .i64 m.c,.int .i64 m.most,v] 110 (0,0))
 own:Own 1 h v m.l.length (Lu m.l)
 ap:¬blk v b
abbrev ptr (b:Nat):Value:=.pointer (some ⟨b,0,none⟩)
theorem dp.fr {M:Nat→Prop}{h h':ah}{b:Nat}{v:Value}{m:Pic}(H:dp h b v m)(f:Fr M h h')(A:¬M b)(q:∀c,blk v c→¬M c):dp h' b v m:=⟨f.row H.row A,H.own.fr f q,H.ap⟩
theorem dp.ext {h h':ah}{b:Nat}{v:Value}{m:Pic}(H:dp h b v m)(e:Ext h h'):dp h' b v m:=H.fr (M:=λ_=>False) e.fr id λ_ _=>id
theorem dp.lt {h:ah}{b:Nat}{v:Value}{m:Pic}(H:dp h b v m):b<h.size:=bD H.row
theorem dp.ltv {h:ah}{b:Nat}{v:Value}{m:Pic}(H:dp h b v m){c:Nat}(hc:blk v c):c<h.size:=H.own.lt hc
theorem sA {h:ah}{b:Nat}{v:Value}{m:Pic}(H:dp h b v m):ag prog bL #[ptr b] h λr h'=>r=af m.w∧h'=h:=by
 apply BE;unfold qP;simp only[go_sem,am H.row];exact⟨by simp,by simp⟩
theorem pV {h:ah}{b:Nat}{v:Value}{m:Pic}(H:dp h b v m):ag prog bN #[ptr b] h λr h'=>r=af m.h∧h'=h:=by
 apply Ag;unfold oW;simp only[go_sem,am H.row];exact⟨by simp,by simp⟩
theorem eB {h:ah}{b:Nat}{v:Value}{m:Pic}(H:dp h b v m):ag prog aU #[ptr b] h λr h'=>r=af m.c∧h'=h:=by
 apply yz;unfold mM;simp only[go_sem,am H.row];exact⟨by simp,by simp⟩
theorem vP {h:ah}{b:Nat}{v:Value}{m:Pic}(H:dp h b v m):ag prog dF #[ptr b] h λr h'=>r=af m.most∧h'=h:=by
 apply CT;unfold sV;simp only[go_sem,am H.row];exact⟨by simp,by simp⟩
theorem Y7 {h:ah}{b:Nat}{v:Value}{m:Pic}(H:dp h b v m)(W:m.Wf){x y c:Int}:ag prog jp #[ptr b,af x,af y,af c] h λr h'=>
  r=af (if inP m x y c then qE m x y c else-1)∧h'=h:=by
 apply BD;unfold qO;have I:aH h ⟨b,0,none⟩=some (af m.w):=am H.row;have G:aH h ⟨b,1,none⟩=some (af m.h):=am H.row;have F:aH h ⟨b,2,none⟩=some (af m.c):=am H.row;simp only[go_sem,aO,I,G,F];refine ao (λh0=>?_) (λh0=>?_)
 ·rw[aq (by unfold inP;omega)];exact⟨rfl,trivial⟩
 ·have hi:inP m x y c:=by unfold inP;omega
  have L:=Nf W hi;have hf:=dx W.fits;have U:=W.len;rw[aA hi];have e:(y*m.w+x)*m.c+c=qE m x y c:=rfl;have A:=hi;unfold inP at A;rw[w64 (n:=y*m.w) ae ae,w64 (n:=y*m.w+x) ae ae,w64 (n:=(y*m.w+x)*m.c) ae ae,w64 ae ae];exact⟨rfl,trivial⟩
theorem zd6 {h:ah}{b:Nat}{v:Value}{m:Pic}(H:dp h b v m)(W:m.Wf){x y c:Int}:ag prog gW #[ptr b,af x,af y,af c] h λr h'=>
  r=.int .u16 (atP m x y c)∧h'=h:=by
 apply Gn;unfold wj;refine(Y7 H W).mono λr h1 ⟨e,F⟩=>?_
 have F:=F.symm;subst e F;unfold atP;have U:aH h ⟨b,4,none⟩=some v:=am H.row;by_cases hi:inP m x y c
 ·have I:=Nf W hi;rw[aA hi,aA hi];simp only[go_sem,aO,U];rw[cL I.2.2.1,iC];obtain⟨i,G⟩:∃i:Nat,qE m x y c=(i:Int):=⟨(qE m x y c).toNat,ae⟩
  rw[G,dW];have A:i<m.l.length:=ae;obtain⟨p,L,p2,_⟩:=H.own.at1 (k:=.i64) A;rw[L,aj,p2,aj];refine⟨?_,trivial⟩;rw[dX];simp[dA,A]
 ·rw[aq hi,aq hi];simp only[go_sem];rw[show decide ((0:Int)≤ -1)=false from rfl,cA];exact⟨by simp,by simp⟩
theorem Za {h:ah}{b:Nat}{v:Value}{m:Pic}(H:dp h b v m)(W:m.Wf){x y c n:Int}(n0:0≤n)(n1:n≤65535):ag prog gB #[ptr b,af x,af y,af c,.int .u16 n] h λr h'=>
  r=.bool (decide (inP m x y c∧n≤m.most))∧dp h' b v (if inP m x y c∧n≤m.most then UD m x y c n else m)∧Fr (blk v) h h'∧h'.size=h.size:=by
 apply EC;unfold uN;refine(Y7 H W).mono λr h1 ⟨e,G⟩=>?_
 have G:=G.symm;subst e G;have q3:aH h ⟨b,3,none⟩=some (af m.most):=am H.row;have q4:aH h ⟨b,4,none⟩=some v:=am H.row;simp only[go_sem,aO,q3,q4];rw[w64 ae ae];by_cases hi:inP m x y c
 ·have hp:=Nf W hi;rw[aA hi];refine ao (λh0=>?_) (λh0=>?_)
  ·have F:¬(inP m x y c∧n≤m.most):=by rintro⟨_,_⟩;omega
   rw[aq F,cE F];exact⟨rfl,H,Fr.refl _ _,trivial⟩
  ·have L:inP m x y c∧n≤m.most:=⟨hi,ae⟩
   rw[aA L,cL L];obtain⟨i,A⟩:∃i:Nat,qE m x y c=(i:Int):=⟨(qE m x y c).toNat,ae⟩
   have hs:UD m x y c n={m with l:=m.l.set i n}:=by unfold UD;rw[A,dW]
   rw[A,hs];have I:i<m.l.length:=ae;obtain⟨p,p1,p2,p3⟩:=H.own.at1 (k:=.i64) I;rw[p1,aj];refine p3 _ _ rfl λh2 o2 f2 U=>⟨rfl,⟨f2.row H.row H.ap,?_,H.ap⟩,f2,U⟩
   show Own 1 h2 v (m.l.set i n).length (Lu (m.l.set i n));rw[IY,Lu,Mf];exact o2
 ·have F:¬(inP m x y c∧n≤m.most):=λhh=>hi hh.1
  rw[aq hi,aq F,cE F];rw[show decide ((-1:Int)<0∨m.most<n)=true from cL ae,iC];exact⟨rfl,H,Fr.refl _ _,trivial⟩
theorem X9 {m:Pic}(W:m.Wf){x y c n:Int}(F:0≤n)(A:n≤m.most):(UD m x y c n).Wf:=by
 refine⟨W.fits,W.m1,W.m2,?_,λz G=>?_⟩
 ·show((m.l.set _ n).length:Int)=_;rw[IY];exact W.len
 ·rcases Yu G with h|h
  ·exact W.smp z h
  ·rw[h];exact⟨F,A⟩
theorem Gb {k:IntKind}{h:ah}{v:Value}{l:List Int}(H:Own 1 h v l.length (l.map λn=>Value.int k n)):Rp.Sl (Rp.int k) (blk v) h v l:=
 (Yi H).sl.mono λb _ A=>A.elim False.elim id
theorem V5 {h:ah}{Z:Nat→Prop}{v:Value}{l:List Int}(H:Rp.Sl rU Z h v l)(hl:l.length≤1000000000):
  ag prog dI #[v] h λr h'=>New rU h h' r l:=by
 apply pD;unfold je;obtain⟨ds,⟨A,a,cap,rfl,F⟩,hz,he⟩:=H;rw[KM,aj];cases a with
 | none=>
  have:l=[]:=by
   rcases F with F|⟨b,o,h0,_⟩
   ·subst F;have h2:([]:List Value).length=l.length*1:=A;exact nZ (by simpa using h2.symm)
   ·cases h0
  subst this;simp only[Tl,go_sem];exact New.nil (Ext.refl _)
 |some a=>
  simp only[Tk,go_sem];refine di (c':=#[]) rfl λb h1 r1 G n1=>?_
  have O:Rp.Ow rU (λ_=>False) h1 (.slice (some ⟨b,0,none⟩) 0 0) []:=⟨[],.inr ⟨b,0,[],_,rfl,cf _,rfl,rfl,r1⟩,λb hb L=>L,λi hi=>absurd hi (by simp)⟩
  have S1:SlC 1 h1 (.slice (some a) l.length cap) l.length ds:=SlC.ext ⟨A,some a,cap,rfl,F⟩ G;refine Rp.app_ow (e:=rU) (l:=[]) (l2:=l) O S1 (λi hi=>he i hi) rfl (by simp;omega) (by simp;omega) (λb hb=>hb.elim) λv2 h2 W f2 n2=>?_
  rw[fX]at W;have nb:∀k,blk (.slice (some ⟨b,0,none⟩) 0 0) k→h.size≤k:=λk I=>by have:k=b:=I;omega
  refine⟨W,G.then_fr f2 nb,λk I=>?_⟩;rcases n2 k I with U|U
  ·exact nb k U
  ·exact bB G.1 U
theorem zaE {h:ah}{b:Nat}{v:Value}{m:Pic}(H:dp h b v m)(W:m.Wf):ag prog kE #[ptr b] h λr h'=>New rU h h' r m.l:=by
 apply zy;unfold oE;have A:aH h ⟨b,4,none⟩=some v:=am H.row;simp only[go_sem,aO,A];have F:=dx W.fits;have:=W.len;exact V5 (Gb H.own) ae
theorem zbT {a b c d e v w x y z:Value}(A:aV a=true)(G:aV b=true)(hc:aV c=true)(hd:aV d=true)(F:aV e=true):aQ #[v,w,x,y,z] [(0,1,a),(1,1,b),(2,1,c),(3,1,d),(4,1,e)]=some #[a,b,c,d,e]:=by
 simp only[aQ,cI A,cI G,cI hc,cI hd,cI F];rfl
def C9 (w h c most:Int):Int:=if most<1∨65535<most∨(c≠1∧c≠3)then 2 else if¬jZ w h c then 5 else 0
def vD (w h c most:Int):Pic:=⟨w,h,c,most,List.replicate (w*h*c).toNat 0⟩
def uw (h h':ah)(p:Value)(m:Pic):Prop:=∃b v,p=ptr b∧dp h' b v m∧h.size≤b∧(∀c,blk v c→h.size≤c)∧Ext h h'
theorem zK {w h c most:Int}:C9 w h c most=0↔jZ w h c∧1≤most∧most≤65535:=by
 unfold C9;split
 ·constructor
  ·intro h;cases h
  ·rintro⟨⟨_,_,_,_,_,_⟩,_,_⟩;omega
 ·split
  ·constructor
   ·intro h;cases h
   ·rintro⟨h,_⟩;contradiction
  ·rename_i h1 A;exact⟨λ_=>⟨cq A,ae,ae⟩,λ_=>rfl⟩
theorem Ek {w h c most:Int}(H:C9 w h c most=0):(vD w h c most).Wf:=by
 obtain⟨h1,A,G⟩:=zK.1 H;have I:=dx h1;refine⟨h1,A,G,?_,λx F=>?_⟩
 ·show((List.replicate (w*h*c).toNat (0:Int)).length:Int)=w*h*c;rw[pM];omega
 ·have:x=0:=(Ma.1 F).2;subst this;show 0≤(0:Int)∧(0:Int)≤most;omega
theorem zL {h:ah}{w hh c most:Int}:ag prog jn #[af w,af hh,af c,af most] h λr h'=>
  ∃p,r=.tuple #[p,af (C9 w hh c most)]∧Ext h h'∧(C9 w hh c most≠0→p=.pointer none)∧(C9 w hh c most=0→uw h h' p (vD w hh c most)):=by
 apply Qn;unfold Fs;simp only[go_sem];have A:C9 w hh c most=if most<1∨65535<most∨(c≠1∧c≠3)then 2 else if¬jZ w hh c then 5 else 0:=rfl
 refine ao (λh0=>?_) (λh0=>?_)
 ·rw[aA ae]at A;rw[A];exact⟨_,rfl,Ext.refl _,λ_=>rfl,λh=>by cases h⟩
 rw[aq ae]at A;refine XQ.mono λr h1 ⟨e,G⟩=>?_
 have G:=G.symm;subst e G;simp only[go_sem];refine ao (λh1=>?_) (λh1=>?_)
 ·rw[aA h1]at A;rw[A];exact⟨_,rfl,Ext.refl _,λ_=>rfl,λh=>by cases h⟩
 rw[aq h1]at A;have hf:=dx (cq h1);rw[w64 (n:=w*hh) ae ae,w64 (n:=w*hh*c) ae ae];obtain⟨n,I⟩:∃n:Nat,w*hh*c=(n:Int):=⟨(w*hh*c).toNat,ae⟩
 rw[I];refine pF rfl ae ae λv h2 o2 F U=>?_
 obtain⟨av,cv,ev⟩:=o2.isSl;rw[zbT rfl rfl rfl rfl (by rw[ev];rfl),cR,aj];refine aJ (c:=#[af w,af hh,af c,af most,v]) λb h3 r3 H W=>?_
 rw[A];refine⟨_,rfl,F.trans H,λh=>absurd rfl h,λ_=>⟨b,v,rfl,⟨r3,?_,λL=>?_⟩,bB F.1 W,U,F.trans H⟩⟩
 ·show Own 1 h3 v (List.replicate (w*hh*c).toNat (0:Int)).length (Lu (List.replicate (w*hh*c).toNat 0));rw[I,dW,pM,Lu,Tj];exact o2.fr (M:=λ_=>False) H.fr λ_ _=>id
 ·have:=o2.lt L;omega
theorem SY {l m:List Int}(h:l.length=m.length)(H:∀i (h1:i<l.length) (A:i<m.length),l[i]=m[i]):l=m:=rE h λi h1 A=>H i h1 A
theorem New.img {h h0:ah}{u:Value}{m:Pic}{b:Nat}{h':ah}(N:New rU h h0 u m.l)(r:h'[b]? =some (.cells #[af m.w,af m.h,af m.c,af m.most,u] 110 (0,0)))(e:Ext h0 h')(n:h0.size≤b):uw h h' (ptr b) m:=
 ⟨b,u,rfl,⟨r,(Si N.1).fr (M:=λ_=>False) e.fr λ_ _=>id,λA=>by have:=N.1.lt A;omega⟩,bB N.2.1.1 n,N.2.2,N.2.1.trans e⟩
theorem zfn {h:ah}{b:Nat}{v:Value}{m:Pic}(H:dp h b v m)(W:m.Wf):ag prog mJ #[ptr b] h λr h'=>uw h h' r m:=by
 apply CU;unfold sW;simp only[go_sem,aO];have q:∀h',Ext h h'→_:=λh' e=>e.row H.row
 refine aS (Ext h) (Ext.refl _) ?_;refine aD (af m.w) (λh' e=>am (q h' e)) ?_;refine aD (af m.h) (λh' e=>am (q h' e)) ?_;refine aD (af m.c) (λh' e=>am (q h' e)) ?_;refine aD (af m.most) (λh' e=>am (q h' e)) ?_;refine aD v (λh' e=>am (q h' e)) ?_;have I:=dx W.fits;have:=W.len;refine(V5 (Gb H.own) ae).mono λu h1 N=>⟨N.2.1,?_⟩
 obtain⟨av,cv,ev⟩:=N.isSl;rw[zbT rfl rfl rfl rfl (by rw[ev];rfl),cR,aj];refine aJ (c:=#[af m.w,af m.h,af m.c,af m.most,u]) λL U F G A=>?_
 exact New.img N F G A
theorem zfl {h:ah}{Z:Nat→Prop}{v:Value}{l:List Int}(H:Rp.Sl rU Z h v l)(h0:0<l.length)(hl:l.length≤1000000000):
  ag prog gQ #[v] h λr h'=>(∃x∈l,r=.int .u16 x)∧h'=h:=by
 apply ru;unfold jS;obtain⟨a,c,e⟩:=H.isSl;have U:aC v=some (af (l.length:Int)):=by rw[e];rfl
 refine bF (λxs h'=>h'=h) ?_ ?_
 ·simp only[go_sem,U];rw[cE ae,cA];trivial
 rintro xs ρj h1 hh;have hh:=hh.symm;subst hh;obtain⟨p,G,p2⟩:=H.int_at (k':=.i64) h0;have G:bu 1 v ai=some p:=G;rw[G,aj,p2,aj];refine bK (α:=Int) l.length 1 (λi x=>[.int .u16 x,af (i:Int)]) (λi x h'=>x∈l∧h'=h) l[0] rfl ae ⟨cG _,rfl⟩ λi x h1 again ρj aa hi ⟨W,I⟩ F=>?_
 have I:=I.symm;subst I;simp only[go_sem,U];refine ao (λh2=>?_) (λh2=>?_)
 ·have A:i<l.length:=ae;obtain⟨q,q1,q2⟩:=H.int_at (k':=.i64) A;simp only[go_sem,q1,q2];rw[w64 ae ae];refine F _ h A ⟨?_,rfl⟩;rcases D8 x l[i]with L|L
  ·rw[Int.max_eq_right L];exact cG _
  ·rw[Int.max_eq_left L];exact W
 ·exact⟨⟨x,W,rfl⟩,trivial⟩
theorem T7 {h:ah}{Z:Nat→Prop}{v:Value}{l:List Int}{w hh c most:Int}(H:Rp.Sl rU Z h v l)(hc:C9 w hh c most=0)(hl:(l.length:Int)=w*hh*c)(hs:∀x∈l,0≤x∧x≤most):
  ag prog tZ #[af w,af hh,af c,af most,v] h λr h'=>∃p,r=.tuple #[p,ai]∧uw h h' p ⟨w,hh,c,most,l⟩:=by
 apply SH;unfold Ia;refine zL.mono λr h1 ⟨p,e,F,_,s1⟩=>?_
 subst e;obtain⟨b,u,rfl,I,nb,nu,_⟩:=s1 hc;obtain⟨f1,f2,f3⟩:=zK.1 hc;have hf:=dx f1;have W:=Ek hc;obtain⟨a,ca,e⟩:=H.isSl;have e2:aC v=some (af (l.length:Int)):=by rw[e];rfl
 obtain⟨au,cu,eu⟩:=I.own.isSl;have il:((vD w hh c most).l.length:Int)=w*hh*c:=W.len;have L:aC u=some (af (l.length:Int)):=by rw[eu,hl,←il];rfl
 have q4:aH h1 ⟨b,4,none⟩=some u:=am I.row;simp only[go_sem,hc,e2,aO,q4,L];have h0:0<l.length:=by
  have a1:1≤w*hh:=by
   have:=rB (show(1:Int)≤w by omega) (show(1:Int)≤hh by omega) ae ae;omega
  have:=rB a1 (show(1:Int)≤c by omega) ae ae;omega
 refine(zfl (H.ext F) h0 ae).mono λr h2 ⟨⟨x,hx,e⟩,G⟩=>?_
 have G:=G.symm;subst e G;have ab:=hs x hx;simp only[go_sem];rw[w64 ae ae,cE ae,cA];simp only[go_sem,aO,q4];have hn:(vD w hh c most).l.length=l.length:=ae;have A:=I.own;rw[hn]at A;obtain⟨ds,S,_,he⟩:=H.ext F;have U:ds=Lu l:=by
  have aa:ds.length=l.length*1:=S.1;apply rE
  ·simp;omega
  ·intro i h3 h4;have h5:=he i (by simpa using h4);have h6:Rp.el 1 ds i=[Value.int .u16 (l[i]'(by simpa using h4))]:=h5;rw[Rp.el_one h3]at h6;simpa using h6
 subst U;refine JL A S (λy hy=>by obtain⟨z,_,rfl⟩:=fO.1 hy;rfl) λh3 o3 f3 s3=>?_
 refine⟨_,rfl,b,u,rfl,⟨f3.row I.row I.ap,?_,I.ap⟩,nb,nu,F.then_fr f3 nu⟩;show Own 1 h3 u l.length (Lu l);have e5:(Lu l).take l.length++(Lu (vD w hh c most).l).drop l.length=Lu l:=by
  rw[fB (by simp),rC (by simp;omega),fN]
 rw[←e5];exact o3
def Dh (w h c most:Int)(l:List Int):Pic:=
 ⟨1+w%20,1+h%20,1+2*(c%2),1+most%65535,(List.range ((1+w%20)*(1+h%20)*(1+2*(c%2))).toNat).map λi=>if 0<l.length then(l.getD (i%l.length) 0+((i/l.length:Nat):Int))%(1+most%65535+1)else 0⟩
theorem VE (w h c:Int):1≤(1+w%20)*(1+h%20)*(1+2*(c%2))∧(1+w%20)*(1+h%20)*(1+2*(c%2))≤1200:=by
 have h1:=nR (a:=1+w%20) (A:=20) (b:=1+h%20) (B:=20) ae ae ae ae;have F:=rB (show(1:Int)≤1+w%20 by omega) (show(1:Int)≤1+h%20 by omega) ae ae;generalize(1+w%20)*(1+h%20)=a at*;have:c%2=0∨c%2=1:=ae;rcases this with h|h<;>rw[h]<;>omega
theorem VF (w h c most:Int)(l:List Int):(Dh w h c most l).Wf:=by
 have F:=VE w h c;refine⟨⟨?_,?_,?_,?_,?_,?_⟩,?_,?_,?_,λx A=>?_⟩
 ·show 1≤1+w%20;omega
 ·show 1+w%20≤65536;omega
 ·show 1≤1+h%20;omega
 ·show 1+h%20≤65536;omega
 ·show 1+2*(c%2)=1∨1+2*(c%2)=3;omega
 ·show(1+w%20)*(1+h%20)*(1+2*(c%2))≤268435456;omega
 ·show 1≤1+most%65535;omega
 ·show 1+most%65535≤65535;omega
 ·show((List.map _ (List.range _)).length:Int)=(1+w%20)*(1+h%20)*(1+2*(c%2));rw[cS,ft];omega
 ·obtain⟨i,_,rfl⟩:=fO.1 A;show 0≤_∧_≤1+most%65535;split
  ·have:=kA (l.getD (i%l.length) 0+((i/l.length:Nat):Int)) (show 1+most%65535+1≠0 by omega);have:=iJ (l.getD (i%l.length) 0+((i/l.length:Nat):Int)) (show 0<1+most%65535+1 by omega);omega
  ·omega
theorem Own.at_mapU {h:ah}{v:Value}{n:Nat}{g:Nat→Int}(H:Own 1 h v n ((List.range n).map λi=>Value.int .u16 (g i))){k:IntKind}{i:Nat}(hi:i<n):
  ∃p,bu 1 v (.int k (i:Int))=some p∧∀(x:Int) (K:Value→ah→Prop),
   (∀h',Own 1 h' v n ((List.range n).map λj=>Value.int .u16 (if j=i then x else g j))→Fr (blk v) h h'→K undef h')→stK 1 p (.int .u16 x) h K:=by
 obtain⟨p,h1,G,F⟩:=Own.at1 H (k:=k) hi;refine⟨p,h1,λx K A=>F _ _ rfl λh' o f _=>A h' ?_ f⟩;rw[FF _ _ _ _ hi]at o;have e:(λj=>if j=i then Value.int .u16 x else Value.int .u16 (g j))=λj=>Value.int .u16 (if j=i then x else g j):=by
  funext j;split<;>rfl
 rw[e]at o;exact o
abbrev U16 (n:Int):Prop:=0≤n∧n≤65535
theorem zck {h:ah}{Z:Nat→Prop}{v:Value}{l:List Int}{w hh c most:Int}(H:Rp.Sl rU Z h v l)(hw:U16 w)(a8:U16 hh)(hc:U16 c)(hm:U16 most)(a9:∀x∈l,U16 x)(hl:l.length≤4611686018427387904):
  ag prog AX #[.int .u16 w,.int .u16 hh,.int .u16 c,.int .u16 most,v] h λr h'=>uw h h' r (Dh w hh c most l):=by
 apply Qu;unfold Fy;rw[em _ _ _ _ ae,aj,em _ _ _ _ ae];simp only[go_sem];rw[em _ _ _ _ ae];simp only[go_sem];rw[kz hw.1,kz a8.1,kz hc.1];rw[w64 (n:=w%20) ae ae,w64 (n:=hh%20) ae ae,w64 (n:=c%2) ae ae,w64 (n:=2*(c%2)) ae ae,w64 (n:=1+2*(c%2)) ae ae,w64 (n:=most) ae ae,
  w64 (n:=1+w%20) ae ae,w64 (n:=1+hh%20) ae ae]
 rw[em _ _ _ _ ae,aj,kz hm.1];simp only[go_sem];have hb:=VE w hh c;have h1:=nR (a:=1+w%20) (A:=20) (b:=1+hh%20) (B:=20) ae ae ae ae;rw[w64 (n:=1+most%65535) ae ae,w64 (n:=(1+w%20)*(1+hh%20)) ae ae,w64 (n:=(1+w%20)*(1+hh%20)*(1+2*(c%2))) ae ae];have PW:=VF w hh c most l;obtain⟨n,hn⟩:∃n:Nat,(1+w%20)*(1+hh%20)*(1+2*(c%2))=(n:Int):=⟨((1+w%20)*(1+hh%20)*(1+2*(c%2))).toNat,ae⟩
 have an:(Dh w hh c most l).l=(List.range n).map λi=>if 0<l.length then(l.getD (i%l.length) 0+((i/l.length:Nat):Int))%(1+most%65535+1)else 0:=by unfold Dh;rw[hn];rfl
 rw[hn];obtain⟨F,G⟩:∃F,1+most%65535=F:=⟨_,rfl⟩
 rw[G]at an ⊢;have ar:1≤F∧F≤65535:=ae;refine pF rfl ae ae λu h2 o2 e2 n2=>?_
 obtain⟨au,cu,eu⟩:=o2.isSl;have bo:aC u=some (af (n:Int)):=by rw[eu];rfl
 obtain⟨al,cl,el⟩:=H.isSl;have U:aC v=some (af (l.length:Int)):=by rw[el];rfl
 rw[bo,aj];have H:=H.mono (Z':=λc=>c<h.size) λc hc _=>hc
 generalize hg:(λi:Nat=>if 0<l.length then(l.getD (i%l.length) 0+((i/l.length:Nat):Int))%(F+1)else 0)=g at*;have a7:∀i,g i=if 0<l.length then(l.getD (i%l.length) 0+((i/l.length:Nat):Int))%(F+1)else 0:=λi=>by rw[←hg]
 refine bK (α:=Unit) n 0 (λi _=>[af (i:Int)]) (λi _ h'=>Ext h h'∧Own 1 h' u n ((List.range n).map λj=>Value.int .u16 (if j<i then g j else 0))) () rfl (b9 _)
  ⟨e2,by
   have e:List.replicate n (Value.int .u16 0)=(List.range n).map λj=>Value.int .u16 (if j<0 then g j else 0):=by apply rE<;>simp
   rw[←e];exact o2⟩ λi _ h3 again ρj _ hi ⟨E3,o3⟩ ax=>?_
 simp only[go_sem];have ad:∀j,(if j=i then g i else if j<i then g j else 0)=if j<i+1 then g j else 0:=λj=>by
  by_cases h1:j=i
  ·subst h1;simp
  ·rw[aq h1];by_cases h2:j<i
   ·rw[aA h2,aA ae]
   ·rw[aq h2,aq ae]
 refine ao (λh4=>?_) (λh4=>?_)
 ·have W:i<n:=ae;rw[U,aj];simp only[go_sem];refine ao (λh5=>?_) (λh5=>?_)
  ·have ab:0<l.length:=ae;refine aS (λh'=>h'=h3) rfl ?_;refine aD (af (l.length:Int)) (λh' e=>by first|exact U|rfl) ?_;rw[em _ _ _ _ ae,aj,kz ae,show(i:Int)%(l.length:Int)=((i%l.length:Nat):Int)by omega];have L:i%l.length<l.length:=iy _ ab;obtain⟨p,p1,p2⟩:=(H.ext E3).int_at (k':=.i64) L;rw[p1,aj];refine aD _ (λh' e=>by rw[e];exact p2) ?_;have hx:=a9 _ (cG L);simp only[go_sem];refine aD (af (l.length:Int)) (λh' e=>by first|exact U|rfl) ?_;have bd:i/l.length≤i:=jX _ _;have I:=a7 i;rw[mU _ _ _ _ ae,aj,xW ae,show(i:Int)/(l.length:Int)=((i/l.length:Nat):Int)by omega];generalize i/l.length=dq at bd I ⊢;rw[w64 (n:=(dq:Int)) ae ae];simp only[go_sem];rw[w64 (n:=l[i%l.length]) ae ae,w64 (n:=l[i%l.length]+(dq:Int)) ae ae,w64 (n:=F+1) ae ae];rw[em _ _ _ _ ae,aj,kz ae];simp only[go_sem];have m1:=kA (l[i%l.length]+(dq:Int)) (show F+1≠0 by omega);have m2:=iJ (l[i%l.length]+(dq:Int)) (show 0<F+1 by omega);rw[wu16 m1 ae];have bv:(l[i%l.length]+(dq:Int))%(F+1)=g i:=by
    rw[I,aA ab];simp[dA,L]
   rw[bv];obtain⟨q,q1,q2⟩:=Own.at_mapU o3 (k:=.i64) W;rw[q1,aj];refine q2 _ _ λh6 o6 f6=>?_
   rw[w64 ae ae];refine ax () h6 W ⟨E3.then_fr f6 n2,?_⟩;simp only[ad]at o6;exact o6
  ·rw[w64 ae ae];refine ax () h3 W ⟨E3,?_⟩;have bk:g i=0:=by rw[a7,aq ae]
   rw[←bS (g:=λj=>Value.int .u16 (if j<i then g j else 0)) λj _=>by
    congr 1
    rw[←ad j,bk];by_cases h1:j=i
    ·rw[aA h1,aq ae]
    ·rw[aq h1]]
   exact o3
 ·have bc:i=n:=ae;subst bc;have o4:Own 1 h3 u (Dh w hh c most l).l.length (Lu (Dh w hh c most l).l):=by
   rw[an,cS,ft,Lu,yg];rw[←bS (g:=λj=>Value.int .u16 (if j<i then g j else 0)) λj hj=>by rw[aA hj];rfl];exact o3
  have aa:C9 (1+w%20) (1+hh%20) (1+2*(c%2)) F=0:=zK.2 ⟨PW.fits,ar.1,ar.2⟩;have ay:=PW.len;refine(T7 (Gb o4) aa ay λx hx=>by have:=PW.smp x hx;rw[show(Dh w hh c most l).most=F from G]at this;exact this).mono λr h5 ⟨p,e,N⟩=>?_
  subst e;simp only[go_sem];have N2:uw h3 h5 p (Dh w hh c most l):=by
   have:Dh w hh c most l=⟨1+w%20,1+hh%20,1+2*(c%2),F,(Dh w hh c most l).l⟩:=by rw[←G];rfl
   rw[this];exact N
  obtain⟨b,x,e1,be,b1,b0,bg⟩:=N2;exact⟨b,x,e1,be,bB E3.1 b1,λc hc=>bB E3.1 (b0 c hc),E3.trans bg⟩
end Go.Proofs.YtjljhnandbbldaaGreatDoor
