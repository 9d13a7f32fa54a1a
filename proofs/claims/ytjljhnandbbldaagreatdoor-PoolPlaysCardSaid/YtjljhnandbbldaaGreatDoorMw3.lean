/- Several texts of this session, one behind the other, without what this claim does not need (put together by its program pack.py). Conditions: none. -/
import Derived.Test.YtjljhnandbbldaaGreatDoorMw2
import Derived.MapKept
import Derived.Test.YtjljhnandbbldaaGreatDoorProg
import Derived.Shelf.SlIterI.Sorted
import Derived.Shelf.Slices.Delete
set_option linter.unusedVariables false
set_option linter.unusedSimpArgs false
set_option maxRecDepth 100000
namespace Go.Proofs.YtjljhnandbbldaaGreatDoor
open Go Go.Crisp
attribute [local irreducible] ag cO aT stK aG vK qK bL gK eM bC mkK cR HA JA Ep bsK clK
open _root_.Go.Proofs.Tryz
abbrev rU:Rp Int:=Rp.int .u16
abbrev Mq (l:List Int):List Value:=l.map λn=>Value.int .u16 n
structure Pic where
 w:Int
 h:Int
 c:Int
 most:Int
 l:List Int
structure Pic.Wf (m:Pic):Prop where
 fits:gR m.w m.h m.c
 m1:1≤m.most
 m2:m.most≤65535
 len:(m.l.length:Int)=m.w*m.h*m.c
 smp:∀x∈m.l,0≤x∧x≤m.most
def inP (m:Pic)(x y c:Int):Prop:=0≤x∧x<m.w∧0≤y∧y<m.h∧0≤c∧c<m.c
instance (m:Pic)(x y c:Int):Decidable (inP m x y c):=by unfold inP;infer_instance
def qM (m:Pic)(x y c:Int):Int:=(y*m.w+x)*m.c+c
def atP (m:Pic)(x y c:Int):Int:=if inP m x y c then m.l.getD (qM m x y c).toNat 0 else 0
def Vr (m:Pic)(x y c v:Int):Pic:={m with l:=m.l.set (qM m x y c).toNat v}
theorem dB {w h c:Int}(f:gR w h c):1≤w∧w≤65536∧1≤h∧h≤65536∧1≤c∧c≤3∧0≤w*h∧w*h≤4294967296∧0≤w*h*c∧w*h*c≤268435456:=by
 obtain⟨h1,G,H,I,L,F⟩:=f;have D:=kz (a:=w) (A:=65536) (b:=h) (B:=65536) ae ae ae ae;refine⟨h1,G,H,I,ae,ae,D.1,D.2,mR D.1 ae,F⟩
theorem Oj {m:Pic}(W:m.Wf){x y c:Int}(h:inP m x y c):0≤y*m.w∧y*m.w+x≤4294967296∧0≤qM m x y c∧qM m x y c<m.l.length:=by
 obtain⟨h1,h2,h3,L,U,F,h7,h8,h9,D⟩:=dB W.fits;obtain⟨x0,I,y0,y1,G,H⟩:=h;have a0:0≤y*m.w:=mR y0 ae;have a1:y*m.w≤(m.h-1)*m.w:=uu ae ae;rw[Um,kZ,gv m.h]at a1;have b0:0≤(y*m.w+x)*m.c:=mR ae ae;have A:(y*m.w+x)*m.c≤(m.w*m.h-1)*m.c:=uu ae ae;rw[Um,kZ]at A;have:=W.len;unfold qM;refine⟨a0,ae,ae,ae⟩
structure du (h:ai)(b:Nat)(v:Value)(m:Pic):Prop where
 row:h[b]? =some (.cells #[.int .i64 m.w,.int .i64 m.h,.int .i64 m.c,.int .i64 m.most,v] 110 (0,0))
 own:Own 1 h v m.l.length (Mq m.l)
 ap:¬blk v b
abbrev ptr (b:Nat):Value:=.pointer (some ⟨b,0,none⟩)
theorem du.fr {M:Nat→Prop}{h h':ai}{b:Nat}{v:Value}{m:Pic}(H:du h b v m)(f:Fr M h h')(A:¬M b)(q:∀c,blk v c→¬M c):du h' b v m:=⟨f.row H.row A,H.own.fr f q,H.ap⟩
theorem du.ext {h h':ai}{b:Nat}{v:Value}{m:Pic}(H:du h b v m)(e:Ext h h'):du h' b v m:=H.fr (M:=λ_=>False) e.fr id λ_ _=>id
theorem du.lt {h:ai}{b:Nat}{v:Value}{m:Pic}(H:du h b v m):b<h.size:=aW H.row
theorem du.ltv {h:ai}{b:Nat}{v:Value}{m:Pic}(H:du h b v m){c:Nat}(hc:blk v c):c<h.size:=H.own.lt hc
theorem vP {h:ai}{b:Nat}{v:Value}{m:Pic}(H:du h b v m):ag prog cf #[ptr b] h λr h'=>r=af m.w∧h'=h:=by
 apply Cb;unfold qV;simp only[go_sem,ao H.row];exact⟨by simp,by simp⟩
theorem uh {h:ai}{b:Nat}{v:Value}{m:Pic}(H:du h b v m):ag prog cj #[ptr b] h λr h'=>r=af m.h∧h'=h:=by
 apply AC;unfold pD;simp only[go_sem,ao H.row];exact⟨by simp,by simp⟩
theorem fZ {h:ai}{b:Nat}{v:Value}{m:Pic}(H:du h b v m):ag prog bu #[ptr b] h λr h'=>r=af m.c∧h'=h:=by
 apply yS;unfold nj;simp only[go_sem,ao H.row];exact⟨by simp,by simp⟩
theorem wu {h:ai}{b:Nat}{v:Value}{m:Pic}(H:du h b v m):ag prog dG #[ptr b] h λr h'=>r=af m.most∧h'=h:=by
 apply De;unfold tz;simp only[go_sem,ao H.row];exact⟨by simp,by simp⟩
theorem ZZ {h:ai}{b:Nat}{v:Value}{m:Pic}(H:du h b v m)(W:m.Wf){x y c:Int}:ag prog ju #[ptr b,af x,af y,af c] h λr h'=>
  r=af (if inP m x y c then qM m x y c else-1)∧h'=h:=by
 apply Ca;unfold qU;have D:aE h ⟨b,0,none⟩=some (af m.w):=ao H.row;have G:aE h ⟨b,1,none⟩=some (af m.h):=ao H.row;have F:aE h ⟨b,2,none⟩=some (af m.c):=ao H.row;simp only[go_sem,aO,D,G,F];refine aq (λh0=>?_) (λh0=>?_)
 ·rw[aA (by unfold inP;omega)];exact⟨rfl,trivial⟩
 ·have hi:inP m x y c:=by unfold inP;omega
  have L:=Oj W hi;have I:=dB W.fits;have U:=W.len;rw[aB hi];have e:(y*m.w+x)*m.c+c=qM m x y c:=rfl;have A:=hi;unfold inP at A;rw[w64 (n:=y*m.w) ae ae,w64 (n:=y*m.w+x) ae ae,w64 (n:=(y*m.w+x)*m.c) ae ae,w64 ae ae];exact⟨rfl,trivial⟩
theorem zeQ {h:ai}{b:Nat}{v:Value}{m:Pic}(H:du h b v m)(W:m.Wf){x y c:Int}:ag prog gY #[ptr b,af x,af y,af c] h λr h'=>
  r=.int .u16 (atP m x y c)∧h'=h:=by
 apply GW;unfold wN;refine(ZZ H W).mono λr h1 ⟨e,D⟩=>?_
 have D:=D.symm;subst e D;unfold atP;have G:aE h ⟨b,4,none⟩=some v:=ao H.row;by_cases hi:inP m x y c
 ·have I:=Oj W hi;rw[aB hi,aB hi];simp only[go_sem,aO,G];rw[cH I.2.2.1,fK];obtain⟨i,F⟩:∃i:Nat,qM m x y c=(i:Int):=⟨(qM m x y c).toNat,ae⟩
  rw[F,dJ];have A:i<m.l.length:=ae;obtain⟨p,L,U,_⟩:=H.own.at1 (k:=.i64) A;rw[L,ah,U,ah];refine⟨?_,trivial⟩;rw[eE];simp[dr,A]
 ·rw[aA hi,aA hi];simp only[go_sem];rw[show decide ((0:Int)≤ -1)=false from rfl,cg];exact⟨by simp,by simp⟩
theorem zab {h:ai}{b:Nat}{v:Value}{m:Pic}(H:du h b v m)(W:m.Wf){x y c n:Int}(n0:0≤n)(n1:n≤65535):ag prog gB #[ptr b,af x,af y,af c,.int .u16 n] h λr h'=>
  r=.bool (decide (inP m x y c∧n≤m.most))∧du h' b v (if inP m x y c∧n≤m.most then Vr m x y c n else m)∧Fr (blk v) h h'∧h'.size=h.size:=by
 apply Fg;unfold uS;refine(ZZ H W).mono λr h1 ⟨e,G⟩=>?_
 have G:=G.symm;subst e G;have q3:aE h ⟨b,3,none⟩=some (af m.most):=ao H.row;have L:aE h ⟨b,4,none⟩=some v:=ao H.row;simp only[go_sem,aO,q3,L];rw[w64 ae ae];by_cases hi:inP m x y c
 ·have hp:=Oj W hi;rw[aB hi];refine aq (λh0=>?_) (λh0=>?_)
  ·have A:¬(inP m x y c∧n≤m.most):=by rintro⟨_,_⟩;omega
   rw[aA A,b9 A];exact⟨rfl,H,Fr.refl _ _,trivial⟩
  ·have I:inP m x y c∧n≤m.most:=⟨hi,ae⟩
   rw[aB I,cH I];obtain⟨i,D⟩:∃i:Nat,qM m x y c=(i:Int):=⟨(qM m x y c).toNat,ae⟩
   have hs:Vr m x y c n={m with l:=m.l.set i n}:=by unfold Vr;rw[D,dJ]
   rw[D,hs];have F:i<m.l.length:=ae;obtain⟨p,p1,p2,p3⟩:=H.own.at1 (k:=.i64) F;rw[p1,ah];refine p3 _ _ rfl λh2 o2 f2 U=>⟨rfl,⟨f2.row H.row H.ap,?_,H.ap⟩,f2,U⟩
   show Own 1 h2 v (m.l.set i n).length (Mq (m.l.set i n));rw[vw,Mq,Nb];exact o2
 ·have A:¬(inP m x y c∧n≤m.most):=λhh=>hi hh.1
  rw[aA hi,aA A,b9 A];rw[show decide ((-1:Int)<0∨m.most<n)=true from cH ae,fK];exact⟨rfl,H,Fr.refl _ _,trivial⟩
theorem Y3 {m:Pic}(W:m.Wf){x y c n:Int}(A:0≤n)(F:n≤m.most):(Vr m x y c n).Wf:=by
 refine⟨W.fits,W.m1,W.m2,?_,λz D=>?_⟩
 ·show((m.l.set _ n).length:Int)=_;rw[vw];exact W.len
 ·rcases Zo D with h|h
  ·exact W.smp z h
  ·rw[h];exact⟨A,F⟩
theorem GI {k:IntKind}{h:ai}{v:Value}{l:List Int}(H:Own 1 h v l.length (l.map λn=>Value.int k n)):Rp.Sl (Rp.int k) (blk v) h v l:=
 (Za H).sl.mono λb _ A=>A.elim False.elim id
theorem Xi {h:ai}{Z:Nat→Prop}{v:Value}{l:List Int}(H:Rp.Sl rU Z h v l)(hl:l.length≤1000000000):
  ag prog dN #[v] h λr h'=>New rU h h' r l:=by
 apply pL;unfold jg;obtain⟨ds,⟨A,a,cap,rfl,D⟩,hz,he⟩:=H;rw[Lu,ah];cases a with
 | none=>
  have:l=[]:=by
   rcases D with D|⟨b,o,h0,_⟩
   ·subst D;have U:([]:List Value).length=l.length*1:=A;exact lg (by simpa using U.symm)
   ·cases h0
  subst this;simp only[Ud,go_sem];exact New.nil (Ext.refl _)
 |some a=>
  simp only[Uc,go_sem];refine cT (c':=#[]) rfl λb h1 r1 F n1=>?_
  have O:Rp.Ow rU (λ_=>False) h1 (.slice (some ⟨b,0,none⟩) 0 0) []:=⟨[],.inr ⟨b,0,[],_,rfl,ck _,rfl,rfl,r1⟩,λb W I=>I,λi hi=>absurd hi (by simp)⟩
  have S1:SlC 1 h1 (.slice (some a) l.length cap) l.length ds:=SlC.ext ⟨A,some a,cap,rfl,D⟩ F;refine Rp.app_ow (e:=rU) (l:=[]) (l2:=l) O S1 (λi hi=>he i hi) rfl (by simp;omega) (by simp;omega) (λb W=>W.elim) λv2 U O2 f2 n2=>?_
  rw[eZ]at O2;have nb:∀k,blk (.slice (some ⟨b,0,none⟩) 0 0) k→h.size≤k:=λk G=>by have:k=b:=G;omega
  refine⟨O2,F.then_fr f2 nb,λk G=>?_⟩;rcases n2 k G with L|L
  ·exact nb k L
  ·exact bA F.1 L
theorem zbt {h:ai}{b:Nat}{v:Value}{m:Pic}(H:du h b v m)(W:m.Wf):ag prog kK #[ptr b] h λr h'=>New rU h h' r m.l:=by
 apply Aa;unfold oP;have A:aE h ⟨b,4,none⟩=some v:=ao H.row;simp only[go_sem,aO,A];have D:=dB W.fits;have:=W.len;exact Xi (GI H.own) ae
theorem zcE {a b c d e v w x y z:Value}(D:aV a=true)(F:aV b=true)(hc:aV c=true)(hd:aV d=true)(A:aV e=true):aR #[v,w,x,y,z] [(0,1,a),(1,1,b),(2,1,c),(3,1,d),(4,1,e)]=some #[a,b,c,d,e]:=by
 simp only[aR,cJ D,cJ F,cJ hc,cJ hd,cJ A];rfl
def Dw (w h c most:Int):Int:=if most<1∨65535<most∨(c≠1∧c≠3)then 2 else if¬gR w h c then 5 else 0
def vO (w h c most:Int):Pic:=⟨w,h,c,most,List.replicate (w*h*c).toNat 0⟩
def uC (h h':ai)(p:Value)(m:Pic):Prop:=∃b v,p=ptr b∧du h' b v m∧h.size≤b∧(∀c,blk v c→h.size≤c)∧Ext h h'
theorem Ag {w h c most:Int}:Dw w h c most=0↔gR w h c∧1≤most∧most≤65535:=by
 unfold Dw;split
 ·constructor
  ·intro h;cases h
  ·rintro⟨⟨_,_,_,_,_,_⟩,_,_⟩;omega
 ·split
  ·constructor
   ·intro h;cases h
   ·rintro⟨h,_⟩;contradiction
  ·rename_i h1 A;exact⟨λ_=>⟨cA A,ae,ae⟩,λ_=>rfl⟩
theorem EN {w h c most:Int}(H:Dw w h c most=0):(vO w h c most).Wf:=by
 obtain⟨h1,A,D⟩:=Ag.1 H;have G:=dB h1;refine⟨h1,A,D,?_,λx F=>?_⟩
 ·show((List.replicate (w*h*c).toNat (0:Int)).length:Int)=w*h*c;rw[xc];omega
 ·have:x=0:=(M6.1 F).2;subst this;show 0≤(0:Int)∧(0:Int)≤most;omega
theorem Ah {h:ai}{w hh c most:Int}:ag prog js #[af w,af hh,af c,af most] h λr h'=>
  ∃p,r=.tuple #[p,af (Dw w hh c most)]∧Ext h h'∧(Dw w hh c most≠0→p=.pointer none)∧(Dw w hh c most=0→uC h h' p (vO w hh c most)):=by
 apply Rs;unfold F0;simp only[go_sem];have A:Dw w hh c most=if most<1∨65535<most∨(c≠1∧c≠3)then 2 else if¬gR w hh c then 5 else 0:=rfl
 refine aq (λh0=>?_) (λh0=>?_)
 ·rw[aB ae]at A;rw[A];exact⟨_,rfl,Ext.refl _,λ_=>rfl,λh=>by cases h⟩
 rw[aA ae]at A;refine YJ.mono λr h1 ⟨e,F⟩=>?_
 have F:=F.symm;subst e F;simp only[go_sem];refine aq (λh1=>?_) (λh1=>?_)
 ·rw[aB h1]at A;rw[A];exact⟨_,rfl,Ext.refl _,λ_=>rfl,λh=>by cases h⟩
 rw[aA h1]at A;have hf:=dB (cA h1);rw[w64 (n:=w*hh) ae ae,w64 (n:=w*hh*c) ae ae];obtain⟨n,H⟩:∃n:Nat,w*hh*c=(n:Int):=⟨(w*hh*c).toNat,ae⟩
 rw[H];refine pN rfl ae ae λv h2 o2 G n2=>?_
 obtain⟨av,cv,ev⟩:=o2.isSl;rw[zcE rfl rfl rfl rfl (by rw[ev];rfl),cU,ah];refine aI (c:=#[af w,af hh,af c,af most,v]) λb W I D L=>?_
 rw[A];refine⟨_,rfl,G.trans D,λh=>absurd rfl h,λ_=>⟨b,v,rfl,⟨I,?_,λU=>?_⟩,bA G.1 L,n2,G.trans D⟩⟩
 ·show Own 1 W v (List.replicate (w*hh*c).toNat (0:Int)).length (Mq (List.replicate (w*hh*c).toNat 0));rw[H,dJ,xc,Mq,Ub];exact o2.fr (M:=λ_=>False) D.fr λ_ _=>id
 ·have:=o2.lt U;omega
theorem TY {l m:List Int}(h:l.length=m.length)(H:∀i (h1:i<l.length) (A:i<m.length),l[i]=m[i]):l=m:=pU h λi h1 A=>H i h1 A
theorem New.img {h h0:ai}{u:Value}{m:Pic}{b:Nat}{h':ai}(N:New rU h h0 u m.l)(r:h'[b]? =some (.cells #[af m.w,af m.h,af m.c,af m.most,u] 110 (0,0)))(e:Ext h0 h')(n:h0.size≤b):uC h h' (ptr b) m:=
 ⟨b,u,rfl,⟨r,(Tn N.1).fr (M:=λ_=>False) e.fr λ_ _=>id,λA=>by have:=N.1.lt A;omega⟩,bA N.2.1.1 n,N.2.2,N.2.1.trans e⟩
theorem zf5 {h:ai}{b:Nat}{v:Value}{m:Pic}(H:du h b v m)(W:m.Wf):ag prog mY #[ptr b] h λr h'=>uC h h' r m:=by
 apply Df;unfold tC;simp only[go_sem,aO];have q:∀h',Ext h h'→_:=λh' e=>e.row H.row
 refine aQ (Ext h) (Ext.refl _) ?_;refine aF (af m.w) (λh' e=>ao (q h' e)) ?_;refine aF (af m.h) (λh' e=>ao (q h' e)) ?_;refine aF (af m.c) (λh' e=>ao (q h' e)) ?_;refine aF (af m.most) (λh' e=>ao (q h' e)) ?_;refine aF v (λh' e=>ao (q h' e)) ?_;have G:=dB W.fits;have:=W.len;refine(Xi (GI H.own) ae).mono λu h1 N=>⟨N.2.1,?_⟩
 obtain⟨av,cv,ev⟩:=N.isSl;rw[zcE rfl rfl rfl rfl (by rw[ev];rfl),cU,ah];refine aI (c:=#[af m.w,af m.h,af m.c,af m.most,u]) λI L A D F=>?_
 exact New.img N A D F
theorem zf2 {h:ai}{Z:Nat→Prop}{v:Value}{l:List Int}(H:Rp.Sl rU Z h v l)(h0:0<l.length)(hl:l.length≤1000000000):
  ag prog gT #[v] h λr h'=>(∃x∈l,r=.int .u16 x)∧h'=h:=by
 apply rF;unfold jT;obtain⟨a,c,e⟩:=H.isSl;have L:aD v=some (af (l.length:Int)):=by rw[e];rfl
 refine bB (λW h'=>h'=h) ?_ ?_
 ·simp only[go_sem,L];rw[b9 ae,cg];trivial
 rintro W ρj h1 hh;have hh:=hh.symm;subst hh;obtain⟨p,F,p2⟩:=H.int_at (k':=.i64) h0;have F:bh 1 v aj=some p:=F;rw[F,ah,p2,ah];refine bO (α:=Int) l.length 1 (λi x=>[.int .u16 x,af (i:Int)]) (λi x h'=>x∈l∧h'=h) l[0] rfl ae ⟨cQ _,rfl⟩ λi x h1 again ρj aa hi ⟨U,D⟩ G=>?_
 have D:=D.symm;subst D;simp only[go_sem,L];refine aq (λh2=>?_) (λh2=>?_)
 ·have A:i<l.length:=ae;obtain⟨q,q1,q2⟩:=H.int_at (k':=.i64) A;simp only[go_sem,q1,q2];rw[w64 ae ae];refine G _ h A ⟨?_,rfl⟩;rcases Ey x l[i]with I|I
  ·rw[Int.max_eq_right I];exact cQ _
  ·rw[Int.max_eq_left I];exact U
 ·exact⟨⟨x,U,rfl⟩,trivial⟩
theorem UV {h:ai}{Z:Nat→Prop}{v:Value}{l:List Int}{w hh c most:Int}(H:Rp.Sl rU Z h v l)(hc:Dw w hh c most=0)(hl:(l.length:Int)=w*hh*c)(hs:∀x∈l,0≤x∧x≤most):
  ag prog um #[af w,af hh,af c,af most,v] h λr h'=>∃p,r=.tuple #[p,aj]∧uC h h' p ⟨w,hh,c,most,l⟩:=by
 apply TI;unfold IJ;refine Ah.mono λr h1 ⟨p,e,L,_,s1⟩=>?_
 subst e;obtain⟨b,u,rfl,I,nb,nu,_⟩:=s1 hc;obtain⟨f1,f2,f3⟩:=Ag.1 hc;have hf:=dB f1;have W:=EN hc;obtain⟨a,ca,e⟩:=H.isSl;have e2:aD v=some (af (l.length:Int)):=by rw[e];rfl
 obtain⟨au,cu,eu⟩:=I.own.isSl;have il:((vO w hh c most).l.length:Int)=w*hh*c:=W.len;have D:aD u=some (af (l.length:Int)):=by rw[eu,hl,←il];rfl
 have q4:aE h1 ⟨b,4,none⟩=some u:=ao I.row;simp only[go_sem,hc,e2,aO,q4,D];have h0:0<l.length:=by
  have a1:1≤w*hh:=by
   have:=lV (show(1:Int)≤w by omega) (show(1:Int)≤hh by omega) ae ae;omega
  have:=lV a1 (show(1:Int)≤c by omega) ae ae;omega
 refine(zf2 (H.ext L) h0 ae).mono λr h2 ⟨⟨x,hx,e⟩,G⟩=>?_
 have G:=G.symm;subst e G;have ad:=hs x hx;simp only[go_sem];rw[w64 ae ae,b9 ae,cg];simp only[go_sem,aO,q4];have hn:(vO w hh c most).l.length=l.length:=ae;have A:=I.own;rw[hn]at A;obtain⟨ds,S,_,he⟩:=H.ext L;have F:ds=Mq l:=by
  have aa:ds.length=l.length*1:=S.1;apply pU
  ·simp;omega
  ·intro i U h4;have h5:=he i (by simpa using h4);have h6:Rp.el 1 ds i=[Value.int .u16 (l[i]'(by simpa using h4))]:=h5;rw[Rp.el_one U]at h6;simpa using h6
 subst F;refine Ku A S (λy hy=>by obtain⟨z,_,rfl⟩:=gQ.1 hy;rfl) λU o3 f3 s3=>?_
 refine⟨_,rfl,b,u,rfl,⟨f3.row I.row I.ap,?_,I.ap⟩,nb,nu,L.then_fr f3 nu⟩;show Own 1 U u l.length (Mq l);have e5:(Mq l).take l.length++(Mq (vO w hh c most).l).drop l.length=Mq l:=by
  rw[fg (by simp),oC (by simp;omega),iC]
 rw[←e5];exact o3
def DD (w h c most:Int)(l:List Int):Pic:=
 ⟨1+w%20,1+h%20,1+2*(c%2),1+most%65535,(List.range ((1+w%20)*(1+h%20)*(1+2*(c%2))).toNat).map λi=>if 0<l.length then(l.getD (i%l.length) 0+((i/l.length:Nat):Int))%(1+most%65535+1)else 0⟩
theorem WK (w h c:Int):1≤(1+w%20)*(1+h%20)*(1+2*(c%2))∧(1+w%20)*(1+h%20)*(1+2*(c%2))≤1200:=by
 have h1:=kz (a:=1+w%20) (A:=20) (b:=1+h%20) (B:=20) ae ae ae ae;have D:=lV (show(1:Int)≤1+w%20 by omega) (show(1:Int)≤1+h%20 by omega) ae ae;generalize(1+w%20)*(1+h%20)=a at*;have:c%2=0∨c%2=1:=ae;rcases this with h|h<;>rw[h]<;>omega
theorem WL (w h c most:Int)(l:List Int):(DD w h c most l).Wf:=by
 have D:=WK w h c;refine⟨⟨?_,?_,?_,?_,?_,?_⟩,?_,?_,?_,λx A=>?_⟩
 ·show 1≤1+w%20;omega
 ·show 1+w%20≤65536;omega
 ·show 1≤1+h%20;omega
 ·show 1+h%20≤65536;omega
 ·show 1+2*(c%2)=1∨1+2*(c%2)=3;omega
 ·show(1+w%20)*(1+h%20)*(1+2*(c%2))≤268435456;omega
 ·show 1≤1+most%65535;omega
 ·show 1+most%65535≤65535;omega
 ·show((List.map _ (List.range _)).length:Int)=(1+w%20)*(1+h%20)*(1+2*(c%2));rw[da,fF];omega
 ·obtain⟨i,_,rfl⟩:=gQ.1 A;show 0≤_∧_≤1+most%65535;split
  ·have:=kD (l.getD (i%l.length) 0+((i/l.length:Nat):Int)) (show 1+most%65535+1≠0 by omega);have:=iP (l.getD (i%l.length) 0+((i/l.length:Nat):Int)) (show 0<1+most%65535+1 by omega);omega
  ·omega
theorem Own.at_mapU {h:ai}{v:Value}{n:Nat}{g:Nat→Int}(H:Own 1 h v n ((List.range n).map λi=>Value.int .u16 (g i))){k:IntKind}{i:Nat}(hi:i<n):
  ∃p,bh 1 v (.int k (i:Int))=some p∧∀(x:Int) (K:Value→ai→Prop),
   (∀h',Own 1 h' v n ((List.range n).map λj=>Value.int .u16 (if j=i then x else g j))→Fr (blk v) h h'→K undef h')→stK 1 p (.int .u16 x) h K:=by
 obtain⟨p,h1,F,A⟩:=Own.at1 H (k:=k) hi;refine⟨p,h1,λx K D=>A _ _ rfl λh' o f _=>D h' ?_ f⟩;rw[Gm _ _ _ _ hi]at o;have e:(λj=>if j=i then Value.int .u16 x else Value.int .u16 (g j))=λj=>Value.int .u16 (if j=i then x else g j):=by
  funext j;split<;>rfl
 rw[e]at o;exact o
abbrev U16 (n:Int):Prop:=0≤n∧n≤65535
theorem zc4 {h:ai}{Z:Nat→Prop}{v:Value}{l:List Int}{w hh c most:Int}(H:Rp.Sl rU Z h v l)(hw:U16 w)(a8:U16 hh)(hc:U16 c)(hm:U16 most)(b0:∀x∈l,U16 x)(hl:l.length≤4611686018427387904):
  ag prog Bt #[.int .u16 w,.int .u16 hh,.int .u16 c,.int .u16 most,v] h λr h'=>uC h h' r (DD w hh c most l):=by
 apply Rz;unfold Gf;rw[dS _ _ _ _ ae,ah,dS _ _ _ _ ae];simp only[go_sem];rw[dS _ _ _ _ ae];simp only[go_sem];rw[jY hw.1,jY a8.1,jY hc.1];rw[w64 (n:=w%20) ae ae,w64 (n:=hh%20) ae ae,w64 (n:=c%2) ae ae,w64 (n:=2*(c%2)) ae ae,w64 (n:=1+2*(c%2)) ae ae,w64 (n:=most) ae ae,
  w64 (n:=1+w%20) ae ae,w64 (n:=1+hh%20) ae ae]
 rw[dS _ _ _ _ ae,ah,jY hm.1];simp only[go_sem];have hb:=WK w hh c;have h1:=kz (a:=1+w%20) (A:=20) (b:=1+hh%20) (B:=20) ae ae ae ae;rw[w64 (n:=1+most%65535) ae ae,w64 (n:=(1+w%20)*(1+hh%20)) ae ae,w64 (n:=(1+w%20)*(1+hh%20)*(1+2*(c%2))) ae ae];have PW:=WL w hh c most l;obtain⟨n,hn⟩:∃n:Nat,(1+w%20)*(1+hh%20)*(1+2*(c%2))=(n:Int):=⟨((1+w%20)*(1+hh%20)*(1+2*(c%2))).toNat,ae⟩
 have am:(DD w hh c most l).l=(List.range n).map λi=>if 0<l.length then(l.getD (i%l.length) 0+((i/l.length:Nat):Int))%(1+most%65535+1)else 0:=by unfold DD;rw[hn];rfl
 rw[hn];obtain⟨D,F⟩:∃D,1+most%65535=D:=⟨_,rfl⟩
 rw[F]at am ⊢;have ax:1≤D∧D≤65535:=ae;refine pN rfl ae ae λu h2 o2 e2 n2=>?_
 obtain⟨au,cu,eu⟩:=o2.isSl;have bo:aD u=some (af (n:Int)):=by rw[eu];rfl
 obtain⟨al,cl,el⟩:=H.isSl;have L:aD v=some (af (l.length:Int)):=by rw[el];rfl
 rw[bo,ah];have H:=H.mono (Z':=λc=>c<h.size) λc hc _=>hc
 generalize hg:(λi:Nat=>if 0<l.length then(l.getD (i%l.length) 0+((i/l.length:Nat):Int))%(D+1)else 0)=g at*;have ar:∀i,g i=if 0<l.length then(l.getD (i%l.length) 0+((i/l.length:Nat):Int))%(D+1)else 0:=λi=>by rw[←hg]
 refine bO (α:=Unit) n 0 (λi _=>[af (i:Int)]) (λi _ h'=>Ext h h'∧Own 1 h' u n ((List.range n).map λj=>Value.int .u16 (if j<i then g j else 0))) () rfl (bZ _)
  ⟨e2,by
   have e:List.replicate n (Value.int .u16 0)=(List.range n).map λj=>Value.int .u16 (if j<0 then g j else 0):=by apply pU<;>simp
   rw[←e];exact o2⟩ λi _ h3 again ρj _ hi ⟨E3,o3⟩ ad=>?_
 simp only[go_sem];have aa:∀j,(if j=i then g i else if j<i then g j else 0)=if j<i+1 then g j else 0:=λj=>by
  by_cases h1:j=i
  ·subst h1;simp
  ·rw[aA h1];by_cases h2:j<i
   ·rw[aB h2,aB ae]
   ·rw[aA h2,aA ae]
 refine aq (λh4=>?_) (λh4=>?_)
 ·have W:i<n:=ae;rw[L,ah];simp only[go_sem];refine aq (λh5=>?_) (λh5=>?_)
  ·have an:0<l.length:=ae;refine aQ (λh'=>h'=h3) rfl ?_;refine aF (af (l.length:Int)) (λh' e=>by first|exact L|rfl) ?_;rw[dS _ _ _ _ ae,ah,jY ae,show(i:Int)%(l.length:Int)=((i%l.length:Nat):Int)by omega];have I:i%l.length<l.length:=iO _ an;obtain⟨p,p1,p2⟩:=(H.ext E3).int_at (k':=.i64) I;rw[p1,ah];refine aF _ (λh' e=>by rw[e];exact p2) ?_;have hx:=b0 _ (cQ I);simp only[go_sem];refine aF (af (l.length:Int)) (λh' e=>by first|exact L|rfl) ?_;have bk:i/l.length≤i:=ka _ _;have G:=ar i;rw[nD _ _ _ _ ae,ah,yt ae,show(i:Int)/(l.length:Int)=((i/l.length:Nat):Int)by omega];generalize i/l.length=dq at bk G ⊢;rw[w64 (n:=(dq:Int)) ae ae];simp only[go_sem];rw[w64 (n:=l[i%l.length]) ae ae,w64 (n:=l[i%l.length]+(dq:Int)) ae ae,w64 (n:=D+1) ae ae];rw[dS _ _ _ _ ae,ah,jY ae];simp only[go_sem];have m1:=kD (l[i%l.length]+(dq:Int)) (show D+1≠0 by omega);have m2:=iP (l[i%l.length]+(dq:Int)) (show 0<D+1 by omega);rw[wu16 m1 ae];have be:(l[i%l.length]+(dq:Int))%(D+1)=g i:=by
    rw[G,aB an];simp[dr,I]
   rw[be];obtain⟨q,q1,q2⟩:=Own.at_mapU o3 (k:=.i64) W;rw[q1,ah];refine q2 _ _ λh6 o6 f6=>?_
   rw[w64 ae ae];refine ad () h6 W ⟨E3.then_fr f6 n2,?_⟩;simp only[aa]at o6;exact o6
  ·rw[w64 ae ae];refine ad () h3 W ⟨E3,?_⟩;have b1:g i=0:=by rw[ar,aA ae]
   rw[←ch (g:=λj=>Value.int .u16 (if j<i then g j else 0)) λj _=>by
    congr 1
    rw[←aa j,b1];by_cases h1:j=i
    ·rw[aB h1,aA ae]
    ·rw[aA h1]]
   exact o3
 ·have bg:i=n:=ae;subst bg;have o4:Own 1 h3 u (DD w hh c most l).l.length (Mq (DD w hh c most l).l):=by
   rw[am,da,fF,Mq,AZ];rw[←ch (g:=λj=>Value.int .u16 (if j<i then g j else 0)) λj hj=>by rw[aB hj];rfl];exact o3
  have U:Dw (1+w%20) (1+hh%20) (1+2*(c%2)) D=0:=Ag.2 ⟨PW.fits,ax.1,ax.2⟩;have ay:=PW.len;refine(UV (GI o4) U ay λx hx=>by have:=PW.smp x hx;rw[show(DD w hh c most l).most=D from F]at this;exact this).mono λr h5 ⟨p,e,N⟩=>?_
  subst e;simp only[go_sem];have N2:uC h3 h5 p (DD w hh c most l):=by
   have:DD w hh c most l=⟨1+w%20,1+hh%20,1+2*(c%2),D,(DD w hh c most l).l⟩:=by rw[←F];rfl
   rw[this];exact N
  obtain⟨b,x,e1,a9,bd,bv,a7⟩:=N2;exact⟨b,x,e1,a9,bA E3.1 bd,λc hc=>bA E3.1 (bv c hc),E3.trans a7⟩
theorem En {k:IntKind}{h:ai}{b:Nat}{t:TypeId}{l:List Int}{n:Nat}(F:l.length=n)(G:h[b]? =some (.cells (l.map λn=>Value.int k n).toArray t (0,0))):Rp.Sl (Rp.int k) (λk=>k=b) h (.slice (some ⟨b,0,none⟩) n n) l:=by
 subst F;refine⟨l.map (Value.int k),⟨by simp[Rp.int],_,_,rfl,.inr ⟨b,0,rfl,λj A=>?_⟩⟩,λ_ k D=>D,λi hi=>?_⟩
 ·rw[aO,ao G];simp at A;simp[A]
 ·show Rp.el 1 _ i=[.int k l[i]];rw[Rp.el_one (by simpa using hi),eE]
theorem zbo {h:ai}(G:fC h):ag prog zy #[] h λr h'=>r=.bool true∧Ext h h':=by
 apply OX;unfold CS;refine(WV G).mono λw h1 ⟨u,e,N⟩=>?_
 subst e;have U:fI 0 4 2 1=2:=by decide+kernel
 have W:dp 0 4 2 1=[536870912,536870912]:=by decide+kernel
 rw[U];rw[W]at N;obtain⟨a,c,eu⟩:=N.isSl;have L:aD u=some (af 2):=by rw[eu];rfl
 obtain⟨p,F,H⟩:=N.sl.int_at (k':=.i64) (i:=0) (by simp);obtain⟨q,I,D⟩:=N.sl.int_at (k':=.i64) (i:=1) (by simp);have F:bh 1 u aj=some p:=F;have I:bh 1 u aJ=some q:=I;have H:ldV h1 p=some (af 536870912):=H;have D:ldV h1 q=some (af 536870912):=D;simp only[go_sem,L,F,H,I,D,lU,gM];refine(YI ae (by unfold I64;omega)).mono λw h2 ⟨e,A⟩=>?_
 have A:=A.symm;subst e A;have k1:Kh 0 1=1073741824:=by decide+kernel
 have k2:Kh 1 2=603979776:=by decide+kernel
 rw[k1];simp only[go_sem,lU,gM];refine(YI ae (by unfold I64;omega)).mono λw h2 ⟨e,A⟩=>?_
 have A:=A.symm;subst e A;rw[k2];simp only[go_sem,lU,gM];exact⟨by simp,N.2.1⟩
theorem zbn {h:ai}:ag prog zv #[] h λr h'=>r=.bool true∧Ext h h':=by
 apply OW;unfold CR;refine cT (c':=#[af 536870912,af 536870912,af 536870912]) rfl λb1 h1 r1 L n1=>?_
 have W:=En (k:=.i64) (l:=[536870912,536870912,536870912]) (n:=3) rfl r1;have w1:∀x∈[(536870912:Int),536870912,536870912],I64 x:=by simp[I64]
 refine(DN W w1 (by simp)).mono λw h2 ⟨u,e,N⟩=>?_
 subst e;have a1:dj [536870912,536870912,536870912]=0:=by decide+kernel
 have a2:cC [536870912,536870912,536870912]=[5462,5461,5461]:=by decide+kernel
 rw[a1];rw[a2]at N;simp only[go_sem];refine(Qm (by unfold I64;omega)).mono λw h3 ⟨x,e,M⟩=>?_
 subst e;have G:Hq 65536=0:=by decide+kernel
 have A:(pW 65536).length=7:=by decide+kernel
 rw[G];obtain⟨ax,cx,ex⟩:=M.isSl;have F:aD x=some (af 7):=by rw[ex,A];rfl
 simp only[go_sem,lU,gM];refine cT (c':=#[af 5462,af 5461,af 5461]) rfl λb4 h4 U H n4=>?_
 have I:=En (k:=.i64) (l:=[5462,5461,5461]) (n:=3) rfl U;refine(Xd (N.sl.ext (M.2.1.trans H)) I (by simp)).mono λw h5 ⟨e,D⟩=>?_
 have D:=D.symm;subst e D;simp only[go_sem,lU,gM,F];exact⟨by simp,L.trans (N.2.1.trans (M.2.1.trans H))⟩
theorem Sh:fX 0 4 2=⟨4,[(0,[8192,8192]),(2,[8192,8192])]⟩:=by
 have e:(fX 0 4 2).lines=[(0,[8192,8192]),(2,[8192,8192])]:=by decide+kernel
 show(⟨4,(fX 0 4 2).lines⟩:Tbl)=_;rw[e]
theorem Lb:(⟨4,[(0,[8192,8192]),(2,[8192,8192])]⟩:Tbl).Wf:=by
 constructor<;>simp
theorem zbm {h:ai}(G:fC h):ag prog zt #[] h λr h'=>r=.bool true∧Ext h h':=by
 apply OV;unfold CQ;refine(zbo G).mono λw h1 ⟨e,W⟩=>?_
 subst e;simp only[go_sem];refine zbn.mono λw h2 ⟨e,e2⟩=>?_
 subst e;simp only[go_sem];refine(Qj (G.ext (W.trans e2)) (by unfold I64;omega) (by unfold I64;omega) (by unfold I64;omega)).mono λw h3 ⟨p,e,e3,_,s1⟩=>?_
 subst e;have a1:dK 0 4 2=0:=by decide+kernel
 have T:=s1 a1;rw[Sh]at T;rw[a1];obtain⟨pb,_,_,hp,_⟩:=T;have T:=s1 a1;rw[Sh]at T;have np:ak .p .eql p (.pointer none)=some (.bool false):=by rw[hp];rfl
 simp only[go_sem,lU,gM,np];refine(DM T Lb).mono λw h4 ⟨u,e,U,F⟩=>?_
 subst e;have l1:bK ⟨4,[(0,[8192,8192]),(2,[8192,8192])]⟩ 1=(2,[8192,8192]):=by rfl
 rw[l1]at U ⊢;refine cX (cs:=[af 2,u]) rfl (az rfl (az U.one aU)) rfl λb5 h5 r5 A n5=>?_
 refine(UZ (T.ext (F.trans A)) Lb (by unfold I64;omega) (by unfold I64;omega)).mono λw h6 ⟨e,D⟩=>?_
 subst e;have l2:yO ⟨4,[(0,[8192,8192]),(2,[8192,8192])]⟩ 0 2=(0,4):=by decide+kernel
 rw[l2];simp only[go_sem];refine(DM (T.ext (F.trans (A.trans D))) Lb).mono λw h7 ⟨u2,e,U2,L⟩=>?_
 subst e;have l0:bK ⟨4,[(0,[8192,8192]),(2,[8192,8192])]⟩ 0=(0,[8192,8192]):=by rfl
 rw[l0];have pv:rh false 1 0 (.agg #[aj,u2])=some aj:=rfl;have I:=(D.trans L).row r5;simp only[go_sem,pv,lU,gM,ao I];refine cT (c':=#[af 8192,af 8192]) rfl λb8 h8 r8 e8 n8=>?_
 have S8:=En (k:=.i64) (l:=[8192,8192]) (n:=2) rfl r8;refine(Xd (U.ext (A.trans (D.trans (L.trans e8)))) S8 (by simp)).mono λw h9 ⟨e,H⟩=>?_
 have H:=H.symm;subst e H;simp only[go_sem,lU,gM];exact⟨by simp,W.trans (e2.trans (e3.trans (F.trans (A.trans (D.trans (L.trans e8))))))⟩
theorem C8 {Z:Nat→Prop}{h:ai}{k b s r f w hh:Int}:rOp.R Z h [af k,af b,af s,af r,.slice none 0 0,.slice none 0 0,af f,af w,af hh] ⟨k,b,s,r,[],[],f,w,hh⟩:=⟨_,_,rfl,Rp.Sl.nil,Rp.Sl.nil⟩
theorem C7 {k b s r f w hh:Int}(h:∀x∈[k,b,s,r,f,w,hh],I64 x):OpD.Wf ⟨k,b,s,r,[],[],f,w,hh⟩:=by
 constructor<;>first|exact h _ (by simp)|simp
theorem Qf {h:ai}(G:fC h):ag prog sX #[] h λr h'=>r=.bool true∧Ext h h':=by
 apply OT;unfold CN;have hf:(aR #[aj,aj,aj,aj,(.slice none 0 0),(.slice none 0 0),aj,aj,aj] [(0,1,(af 3)),(7,1,(af 2)),(8,1,aJ),(6,1,aj)])=some #[af 3,aj,aj,aj,.slice none 0 0,.slice none 0 0,aj,af 2,aJ]:=rfl;rw[hf,bH,ah];have wf:OpD.Wf ⟨3,0,0,0,[],[],0,2,1⟩:=C7 (by simp[I64]);refine(Lr (Z:=λ_=>True) G C8 wf (by simp) (by simp) (by unfold I64;omega) (by unfold I64;omega)).mono λw h1 ⟨sv,e,e1,_,s1⟩=>?_
 subst e;have a1:fJ ⟨3,0,0,0,[],[],0,2,1⟩ 4 3=0:=by decide+kernel
 obtain⟨p,q,rfl,tp,tq⟩:=s1 a1;rw[a1];simp only[go_sem];refine cX (cs:=[p,q,af _]) rfl (az (nN tp) (az (nN tq) (az rfl aU))) rfl λb2 h2 r2 W n2=>?_
 refine(zbm (G.ext (e1.trans W))).mono λw h3 ⟨e,U⟩=>?_
 subst e;have D:=U.row r2;have F:=tp.ext (W.trans U);have H:=tq.ext (W.trans U);have L:ak .p .neq p (.pointer none)=some (.bool true):=by obtain⟨_,_,_,hp,_⟩:=tp;rw[hp];rfl
 have I:ak .p .neq q (.pointer none)=some (.bool true):=by obtain⟨_,_,_,hp,_⟩:=tq;rw[hp];rfl
 simp only[go_sem,lU,gM,ao D,L,I];refine(U4 F).mono λw h4 ⟨e,A⟩=>?_
 have A:=A.symm;subst e A;have t1:(cB ⟨3,0,0,0,[],[],0,2,1⟩ 4 3).x.n=4:=rfl;have t2:((cB ⟨3,0,0,0,[],[],0,2,1⟩ 4 3).x.lines.length:Int)=2:=by decide+kernel
 have t3:(cB ⟨3,0,0,0,[],[],0,2,1⟩ 4 3).y.n=3:=rfl;have t4:((cB ⟨3,0,0,0,[],[],0,2,1⟩ 4 3).y.lines.length:Int)=1:=by decide+kernel
 rw[t1];simp only[go_sem,lU,gM,ao D,L,I];refine(Fp F).mono λw h4 ⟨e,A⟩=>?_
 have A:=A.symm;subst e A;rw[t2];simp only[go_sem,lU,gM,ao D,L,I];refine(U4 H).mono λw h4 ⟨e,A⟩=>?_
 have A:=A.symm;subst e A;rw[t3];simp only[go_sem,lU,gM,ao D,L,I];refine(Fp H).mono λw h4 ⟨e,A⟩=>?_
 have A:=A.symm;subst e A;rw[t4];simp only[go_sem,lU,gM];exact⟨by simp,e1.trans (W.trans U)⟩
theorem zbl {h:ai}:ag prog zq #[] h λr h'=>r=.bool true∧Ext h h':=by
 apply OU;unfold CP;refine Ah.mono λw h1 ⟨p,e,G,_,H⟩=>?_
 subst e;have a1:Dw 2 1 3 255=0:=by decide+kernel
 obtain⟨b,v,rfl,I,nb,nv,_⟩:=H a1;have W:=EN a1;rw[a1];have F:ak .p .neq (ptr b) (.pointer none)=some (.bool true):=rfl;simp only[go_sem,lU,gM,F];refine(zbt I W).mono λu h2 N=>?_
 obtain⟨au,U,L⟩:=N.isSl;have A:aD u=some (af 6):=by rw[L];rfl
 simp only[go_sem,lU,gM,A];refine(zab (I.ext N.2.1) W ae ae).mono λr h3 ⟨e,D,f3,s3⟩=>?_
 subst e;have a2:¬(inP (vO 2 1 3 255) 1 0 2∧(256:Int)≤(vO 2 1 3 255).most):=by decide+kernel
 rw[aA a2]at D;rw[b9 a2];simp only[go_sem];refine(zab D W ae ae).mono λr h4 ⟨e,I4,f4,s4⟩=>?_
 subst e;have a3:inP (vO 2 1 3 255) 1 0 2∧(255:Int)≤(vO 2 1 3 255).most:=by decide+kernel
 rw[cH a3];simp only[go_sem];exact⟨by simp,((G.trans N.2.1).then_fr f3 nv).then_fr f4 nv⟩
def atZ (p j n:Int):Int:=if n<1∨65536<n then 0 else if p=0 then max 0 (min j (n-1))else if p=1 then min (j%(2*n)) (2*n-1-j%(2*n))else if p=2 then j%n else 0
theorem zdn {p j n:Int}(h1:1≤n)(A:n≤65536):0≤atZ p j n∧atZ p j n<n:=by
 unfold atZ;rw[aA ae];have a1:=kD j (show 2*n≠0 by omega);have a2:=iP j (show 0<2*n by omega);have a3:=kD j (show n≠0 by omega);have a4:=iP j (show 0<n by omega);split
 ·omega
 ·split
  ·omega
  ·split<;>omega
theorem xu {h:ai}{p j n:Int}(F:I64 j):ag prog my #[.int .i64 p,.int .i64 j,.int .i64 n] h λr h'=>r=.int .i64 (atZ p j n)∧h'=h:=by
 apply TU;unfold IV atZ;simp only[go_sem];refine aq (λh0=>?_) (λh0=>?_)
 ·rw[if_pos h0];exact⟨rfl,trivial⟩
 rw[if_neg h0];have a1:=Int.emod_nonneg j (show 2*n≠0 by omega);have a2:=Int.emod_lt_of_pos j (show 0<2*n by omega);refine aq (λh1=>?_) (λh1=>?_)
 ·rw[if_pos h1,w64 (by omega) (by omega)];exact zae
 rw[if_neg h1];refine aq (λA=>?_) (λA=>?_)
 ·rw[if_pos A,w64 (n:=2*n) (by omega) (by omega)];refine(zde F (by unfold I64;omega) (by omega)).mono λv h' ⟨e,w⟩=>?_
  subst e;simp only[go_sem];rw[w64 (n:=2*n-1) (by omega) (by omega),w64 (by omega) (by omega)];exact⟨rfl,w⟩
 rw[if_neg A];refine aq (λD=>?_) (λD=>?_)
 ·rw[if_pos D];exact zde F (by unfold I64;omega) (by omega)
 ·rw[if_neg D];exact⟨rfl,trivial⟩
theorem zbK (j b:Int)(D:0<b):(0≤j.tmod b∧j.tmod b=j%b)∨(j.tmod b<0∧j.tmod b=j%b-b):=by
 have e:= @Int.emod_eq_tmod j b;have F:=kD j (show b≠0 by omega);have A:=iP j D;split at e
 ·left;omega
 ·by_cases h:j.tmod b<0
  ·right;omega
  ·omega
theorem zfO {h:ai}{p j n:Int}(hj:I64 j):ag prog If #[.int .i64 p,.int .i64 j,.int .i64 n] h λr h'=>r=.int .i64 (atZ p j n)∧h'=h:=by
 apply VS;unfold LM atZ;simp only[go_sem];refine aq (λh0=>?_) (λh0=>?_)
 ·refine⟨?_,trivial⟩
  congr 1
  split
  ·rfl
  ·split
   ·omega
   ·split
    ·omega
    ·split
     ·omega
     ·rfl
 rw[if_neg (by omega)];have a1:=Int.emod_nonneg j (show 2*n≠0 by omega);have a2:=Int.emod_lt_of_pos j (show 0<2*n by omega);have a3:=Int.emod_emod_of_dvd j (show n∣2*n from⟨2,by omega⟩);refine aq (λh1=>?_) (λh1=>?_)
 ·refine⟨?_,trivial⟩
  congr 1
  have U:=Int.emod_eq_of_lt h1.1 (show j<2*n by omega);have e2:=Int.emod_eq_of_lt h1.1 h1.2;rw[U,e2];split
  ·omega
  ·split
   ·omega
   ·split<;>omega
 refine aq (λG=>?_) (λG=>?_)
 ·rw[if_pos G];refine aq (λA=>?_) (λA=>?_)
  ·exact⟨by congr 1;omega,trivial⟩
  ·rw[w64 (by omega) (by omega)];exact⟨by congr 1;omega,trivial⟩
 rw[if_neg G,w64 (n:=2*n) (by omega) (by omega),dS _ _ _ _ (by omega),ah];have fin:∀r:Int,r=j%(2*n)→aG (.bool (decide (r<n))) (Value.int .i64 r=.int .i64 (if p=1 then min (j%(2*n)) (2*n-1-j%(2*n))else if p=2 then j%n else 0)∧True)
   (aG (.bool (decide (p=2))) (Value.int .i64 (IntKind.i64.wrap (r-n))=.int .i64 (if p=1 then min (j%(2*n)) (2*n-1-j%(2*n))else if p=2 then j%n else 0)∧True)
    (Value.int .i64 (IntKind.i64.wrap (IntKind.i64.wrap (2*n-1)-r))=.int .i64 (if p=1 then min (j%(2*n)) (2*n-1-j%(2*n))else if p=2 then j%n else 0)∧True)):=by
  intro r L;rw[←a3,←L];rw[←L]at a1 a2;refine aq (λA=>?_) (λA=>?_)
  ·have e:=Int.emod_eq_of_lt a1 A;refine⟨?_,trivial⟩
   congr 1
   rw[e];split
   ·omega
   ·split<;>omega
  ·have e:r%n=r-n:=by
    rw[←Int.sub_emod_right];exact Int.emod_eq_of_lt (by omega) (by omega)
   refine aq (λD=>?_) (λD=>?_)
   ·rw[w64 (by omega) (by omega)];refine⟨?_,trivial⟩
    congr 1
    rw[if_neg (by omega),if_pos D,e]
   ·rw[w64 (n:=2*n-1) (by omega) (by omega),w64 (by omega) (by omega)];refine⟨?_,trivial⟩
    congr 1
    rw[if_pos (by omega)];omega
 rcases zbK j (2*n) (by omega)with⟨t1,t2⟩|⟨t1,t2⟩
 ·refine kB (λ_=>[.int .i64 (j.tmod (2*n))]) 0 0 rfl (Nat.le_refl _) λk again ρj _ W _=>?_
  simp only[go_sem];refine aq (λA=>absurd A (by omega)) (λA=>?_);exact fin _ t2
 ·refine kB (λk=>[.int .i64 (j.tmod (2*n)+(k:Int)*(2*n))]) 1 0 (by simp) (by omega) λk again ρj _ W H=>?_
  simp only[go_sem];refine aq (λA=>?_) (λA=>?_)
  ·have F:k=0:=by
    rcases Nat.eq_zero_or_pos k with D|D
    ·exact D
    ·have:k=1:=by omega
     subst this;omega
   subst F;have H:=H (by omega);rw[w64 (by omega) (by omega)];simpa using H
  ·have I:k=1:=by
    rcases Nat.eq_zero_or_pos k with D|D
    ·subst D;simp at A;omega
    ·omega
   subst I;have e:j.tmod (2*n)+((1:Nat):Int)*(2*n)=j%(2*n):=by omega
   rw[e];exact fin _ rfl
end Go.Proofs.YtjljhnandbbldaaGreatDoor
namespace Go.Crisp
open Go
def At (f:Nat→Int):Nat→Int
 |0=>0
 |n+1=>At f n+f n
theorem RP (A a v:Int):IntKind.i64.wrap (IntKind.i64.wrap A+IntKind.i64.wrap (a*v))=IntKind.i64.wrap (A+a*v):=by rw[wB,rA]
theorem Xu (A a b v:Int):IntKind.i64.wrap (IntKind.i64.wrap A+IntKind.i64.wrap (IntKind.i64.wrap (a*b)*v))=IntKind.i64.wrap (A+b*(a*v)):=by
 rw[Ao,wB,rA]
 congr 1
 rw[gv a b,oB]
def Ay (s most:Int):Int:=max 0 (min (pA s 28) (max 0 (min most 65535)))
theorem R5 (s:Int){most:Int}(h:0≤most):0≤Ay s most∧Ay s most≤65535∧Ay s most≤most:=by unfold Ay;omega
end Go.Crisp
namespace Go.Proofs.YtjljhnandbbldaaGreatDoor
open Go Go.Crisp
attribute [local irreducible] ag cO aT stK aG vK qK bL gK eM bC mkK cR HA JA Ep bsK clK
open _root_.Go.Proofs.Tryz
def vR (m:Pic)(s:Stg)(x row c:Int):Int:=At (λi=>(bK s.x x).2.getD i 0*atP m (atZ s.border ((bK s.x x).1+i) m.w) row c) (bK s.x x).2.length
def NC (m:Pic)(s:Stg)(x y c:Int):Int:=At (λk=>(bK s.y y).2.getD k 0*vR m s x (atZ s.border ((bK s.y y).1+k) m.h) c) (bK s.y y).2.length
def yQ (m:Pic)(s:Stg)(x y c:Int):Int:=Ay (IntKind.i64.wrap (NC m s x y c)) m.most
structure Stg.Wf (s:Stg):Prop where
 x:s.x.Wf
 y:s.y.Wf
def kY (m:Pic)(s:Stg):Prop:=s.x.n=m.w∧s.y.n=m.h∧0≤s.border∧s.border<3
instance (m:Pic)(s:Stg):Decidable (kY m s):=by unfold kY;infer_instance
theorem zac {h:ai}{n most:Int}(D:I64 n):ag prog qL #[af n,af most] h λr h'=>r=.int .u16 (Ay n most)∧h'=h:=by
 apply ML;unfold BR;refine(Nv D (by unfold I64;omega)).mono λr h1 ⟨e,A⟩=>?_
 have A:=A.symm;subst e A;simp only[go_sem];refine zae.mono λr h1 ⟨e,A⟩=>?_
 have A:=A.symm;subst e A;simp only[go_sem];rw[wu16 ae ae];exact⟨rfl,trivial⟩
theorem jQ {Z:Nat→Prop}{h:ai}{sv:Value}{s:Stg}(H:rl Z h sv s):∃p q,sv=.agg #[p,q,af s.border]∧gd Z h p s.x∧gd Z h q s.y∧(∀v∈[p,q,af s.border],aV v=true):=by
 obtain⟨p,q,e,A,hq⟩:=H;exact⟨p,q,e,A,hq,az (nN A) (az (nN hq) (az rfl aU))⟩
theorem KH {Z:Nat→Prop}{h:ai}{p:Value}{t:Tbl}(H:gd Z h p t):ak .p .neq p (.pointer none)=some (.bool true)∧ak .p .eql p (.pointer none)=some (.bool false):=by
 obtain⟨_,_,_,A,_⟩:=H;rw[A];exact⟨rfl,rfl⟩
theorem Nt {h:ai}(G:fC h){Z:Nat→Prop}{b:Nat}{v sv:Value}{m:Pic}{s:Stg}(H:du h b v m)(HS:rl Z h sv s):ag prog kh #[ptr b,sv] h λr h'=>r=.bool (decide (kY m s))∧Ext h h':=by
 apply MK;unfold BQ;obtain⟨p,q,rfl,L,hq,aa⟩:=jQ HS;simp only[bF];refine aI λb1 h1 r1 I n1=>?_
 have np:=(KH L).1;have nq:=(KH hq).1;have L:=L.ext I;have hq:=hq.ext I;have H:=H.ext I;have q0:aE h1 ⟨b1,0,none⟩=some p:=ao r1;have q1:aE h1 ⟨b1,1,none⟩=some q:=ao r1;have W:aE h1 ⟨b1,2,none⟩=some (af s.border):=ao r1;simp only[go_sem,aO,q0,q1,W,np,nq];refine(U4 L).mono λr U ⟨e,A⟩=>?_
 have A:=A.symm;subst e A;refine(vP H).mono λr U ⟨e,A⟩=>?_
 have A:=A.symm;subst e A;simp only[go_sem];by_cases h1':s.x.n=m.w
 ·simp only[go_sem,h1',q1,W];refine(U4 hq).mono λr U ⟨e,A⟩=>?_
  have A:=A.symm;subst e A;refine(uh H).mono λr U ⟨e,A⟩=>?_
  have A:=A.symm;subst e A;simp only[go_sem];by_cases F:s.y.n=m.h
  ·simp only[go_sem,F,W];refine(Kx (G.ext I)).mono λr U ⟨e,A⟩=>?_
   have A:=A.symm;subst e A
   try rw[zal,Qu]
   simp only[go_sem];refine⟨?_,I⟩
   congr 1
   have hb:=Xk s.border;by_cases D:Qx s.border=[]
   ·rw[b9 (by simpa using D),b9];unfold kY;have:=hb.1 D;rintro⟨_,_,a,b⟩;exact this ⟨a,b⟩
   ·rw[cH (by simpa using D),cH];have:=cA λhh=>D (hb.2 hh)
    exact⟨h1',F,this.1,this.2⟩
  ·simp only[go_sem,F];refine⟨?_,I⟩;rw[b9];rintro⟨_,a,_⟩;exact F a
 ·simp only[go_sem,h1'];refine⟨?_,I⟩;rw[b9];rintro⟨a,_⟩;exact h1' a
abbrev LV:Type:=Option (Nat×Option Bool)
abbrev YQ:Array Value:=#[.int .i64 0,.slice none 0 0]
def JE (h:ai)(Lx Ly:Int×List Int)(ux uy:Option Value)(b:Nat):Option Bool→Prop
 |none=>h[b]? =some (.cells YQ 189 (0,0))
 |some true=>∃u,ux=some u∧Two h b 189 (.int .i64 Lx.1) u
 |some false=>∃u,uy=some u∧Two h b 189 (.int .i64 Ly.1) u
theorem JE.row {h:ai}{D G:Int×List Int}{A F:Option Value}{b:Nat}:∀{s:Option Bool},JE h D G A F b s→b<h.size
 |none,H=>aW H
 |some true,⟨u,_,r⟩=>aW r
 |some false,⟨u,_,r⟩=>aW r
theorem JE.up {h h':ai}{G L:Int×List Int}{F I D A:Option Value}{b:Nat}(e:h'[b]? =h[b]?)(U:∀u,F=some u→D=some u)(W:∀u,I=some u→A=some u):∀{s:Option Bool},JE h G L F I b s→JE h' G L D A b s
 |none,H=>by show h'[b]? =_;rw[e];exact H
 |some true,⟨u,hu,r⟩=>⟨u,U u hu,by show h'[b]? =_;rw[e];exact r⟩
 |some false,⟨u,hu,r⟩=>⟨u,W u hu,by show h'[b]? =_;rw[e];exact r⟩
def apart (v1 v2:LV)(c:Nat):Prop:=(∀p,v1=some p→p.1≠c)∧(∀p,v2=some p→p.1≠c)
structure gq (h0:ai)(Lx Ly:Int×List Int)(ux uy:Option Value)(v1 v2:LV)(h:ai):Prop where
 ext:Ext h0 h
 lx:∀u,ux=some u→SlI (apart v1 v2) h u Lx.2
 ly:∀u,uy=some u→SlI (apart v1 v2) h u Ly.2
 at1:∀p,v1=some p→h0.size≤p.1∧JE h Lx Ly ux uy p.1 p.2
 at2:∀p,v2=some p→h0.size≤p.1∧JE h Lx Ly ux uy p.1 p.2
 dis:∀p q,v1=some p→v2=some q→p.1≠q.1
theorem gq.start (h:ai)(D A:Int×List Int):gq h D A none none none none h:=⟨Ext.refl _,by simp,by simp,by simp,by simp,by simp⟩
theorem gq.line_x {h0 h:ai}{F:Option Value}{I L:LV}{D:Int×List Int}{Z:Nat→Prop}{p:Value}{t:Tbl}{x:Int}{K:Value→ai→Prop}(M:gq h0 (bK t x) D none F I L h)(T:gd Z h0 p t)(W:t.Wf)
  (H:∀u h',gq h0 (bK t x) D (some u) F I L h'→K (.agg #[af (bK t x).1,u]) h'):ag prog bM #[p,af x] h K:=by
 refine(DM (T.ext M.ext) W (i:=x)).mono λr h' ⟨u,e,S,E⟩=>?_
 subst e;have U:∀(v:LV),(∀p,v=some p→h0.size≤p.1∧JE h (bK t x) D none F p.1 p.2)→∀p,v=some p→h0.size≤p.1∧JE h' (bK t x) D (some u) F p.1 p.2:=λv a p A=>
  ⟨(a p A).1,(a p A).2.up (E.2 _ (a p A).2.row) (by simp) λ_=>id⟩
 refine H u h' ⟨M.ext.trans E,λw G=>?_,λw G=>(M.ly w G).ext E,U _ M.at1,U _ M.at2,M.dis⟩;cases G;refine S.mono λc _ hz=>⟨λp A he=>?_,λp A he=>?_⟩
 ·have:=(M.at1 p A).2.row;omega
 ·have:=(M.at2 p A).2.row;omega
theorem gq.line_y {h0 h:ai}{D:Option Value}{I L:LV}{F:Int×List Int}{Z:Nat→Prop}{p:Value}{t:Tbl}{x:Int}{K:Value→ai→Prop}(M:gq h0 F (bK t x) D none I L h)(T:gd Z h0 p t)(W:t.Wf)
  (H:∀u h',gq h0 F (bK t x) D (some u) I L h'→K (.agg #[af (bK t x).1,u]) h'):ag prog bM #[p,af x] h K:=by
 refine(DM (T.ext M.ext) W (i:=x)).mono λr h' ⟨u,e,S,E⟩=>?_
 subst e;have U:∀(v:LV),(∀p,v=some p→h0.size≤p.1∧JE h F (bK t x) D none p.1 p.2)→∀p,v=some p→h0.size≤p.1∧JE h' F (bK t x) D (some u) p.1 p.2:=λv a p A=>
  ⟨(a p A).1,(a p A).2.up (E.2 _ (a p A).2.row) (λ_=>id) (by simp)⟩
 refine H u h' ⟨M.ext.trans E,λw G=>(M.lx w G).ext E,λw G=>?_,U _ M.at1,U _ M.at2,M.dis⟩;cases G;refine S.mono λc _ hz=>⟨λp A he=>?_,λp A he=>?_⟩
 ·have:=(M.at1 p A).2.row;omega
 ·have:=(M.at2 p A).2.row;omega
theorem gq.new_1 {h0 h:ai}{G D:Int×List Int}{F I:Option Value}{K:Value→ai→Prop}(M:gq h0 G D F I none none h)
  (H:∀b h',gq h0 G D F I (some (b,none)) none h'→K (ptr b) h'):aT YQ 189 h K:=by
 refine aI λb h' r e n=>H b h' ⟨M.ext.trans e,λu hu=>?_,λu hu=>?_,λp A=>?_,by simp,by simp⟩
 ·exact((M.lx u hu).mono (Z':=apart (some (b,none)) none) λc hc _=>⟨λp A=>by cases A;show b≠c;omega,by simp⟩).ext e
 ·exact((M.ly u hu).mono (Z':=apart (some (b,none)) none) λc hc _=>⟨λp A=>by cases A;show b≠c;omega,by simp⟩).ext e
 ·cases A;exact⟨bA M.ext.1 n,r⟩
theorem gq.new_2 {h0 h:ai}{I F:Int×List Int}{G L:Option Value}{a:Nat}{K:Value→ai→Prop}(M:gq h0 I F G L (some (a,none)) none h)
  (H:∀b h',gq h0 I F G L (some (a,none)) (some (b,none)) h'→K (ptr b) h'):aT YQ 189 h K:=by
 have a1:=M.at1 _ rfl;have U:a<h.size:=a1.2.row;refine aI λb h' r e n=>H b h' ⟨M.ext.trans e,λu hu=>?_,λu hu=>?_,λp A=>?_,λp A=>?_,λp q A hq=>?_⟩
 ·exact((M.lx u hu).mono (Z':=apart (some (a,none)) (some (b,none))) λc hc D=>⟨D.1,λp A=>by cases A;show b≠c;omega⟩).ext e
 ·exact((M.ly u hu).mono (Z':=apart (some (a,none)) (some (b,none))) λc hc D=>⟨D.1,λp A=>by cases A;show b≠c;omega⟩).ext e
 ·cases A;exact⟨a1.1,a1.2.up (e.2 _ U) (λ_=>id) λ_=>id⟩
 ·cases A;exact⟨bA M.ext.1 n,r⟩
 ·cases A;cases hq;show a≠b;omega
theorem gq.st {h0 h:ai}{W L:Int×List Int}{U uy:Option Value}{v1 v2 F D:LV}{b:Nat}{f:Bool}{l:List Value}{K:Value→ai→Prop}(M:gq h0 W L U uy v1 v2 h)(hr:h[b]? =some (.cells YQ 189 (0,0)))(hn:h0.size≤b)
  (hl:l.length=2) (ho:∀v∈l,aV v=true) (hf:∀h',h'[b]? =some (.cells l.toArray 189 (0,0))→JE h' W L U uy b (some f))
  (h1:(v1=some (b,none)∧F=some (b,some f)∧D=v2∧∀q,v2=some q→q.1≠b)∨(v2=some (b,none)∧D=some (b,some f)∧F=v1∧∀q,v1=some q→q.1≠b))
  (H:∀h',gq h0 W L U uy F D h'→K undef h'):stK 2 (ptr b) (.agg l.toArray) h K:=by
 refine bI hr (by rw[hl];rfl) ho hl λh' r u=>H h' ?_
 have E:=M.ext.upd hn u;have G:∀{v:LV},(∀p,v=some p→h0.size≤p.1∧JE h W L U uy p.1 p.2)→(∀q,v=some q→q.1≠b)→∀p,v=some p→h0.size≤p.1∧JE h' W L U uy p.1 p.2:=λa d p A=>⟨(a p A).1,(a p A).2.up (u.2 _ (d p A)) (λ_=>id) λ_=>id⟩
 rcases h1 with⟨rfl,rfl,rfl,d⟩|⟨rfl,rfl,rfl,d⟩
 ·have za:∀c,apart (some (b,none)) D c→¬c=b:=λc hc he=>hc.1 _ rfl he.symm
  have zb:∀c,apart (some (b,none)) D c→apart (some (b,some f)) D c:=λc hc=>⟨λp A=>by cases A;exact hc.1 (b,none) rfl,hc.2⟩
  refine⟨E,λw I=>((M.lx w I).fr u.fr λc _=>za c).mono λc _=>zb c,λw I=>((M.ly w I).fr u.fr λc _=>za c).mono λc _=>zb c,λp A=>?_,G M.at2 d,λp q A hq=>?_⟩
  ·cases A;exact⟨hn,hf h' r⟩
  ·cases A;exact λhe=>d q hq he.symm
 ·have za:∀c,apart F (some (b,none)) c→¬c=b:=λc hc he=>hc.2 _ rfl he.symm
  have zb:∀c,apart F (some (b,none)) c→apart F (some (b,some f)) c:=λc hc=>⟨hc.1,λp A=>by cases A;exact hc.2 (b,none) rfl⟩
  refine⟨E,λw I=>((M.lx w I).fr u.fr λc _=>za c).mono λc _=>zb c,λw I=>((M.ly w I).fr u.fr λc _=>za c).mono λc _=>zb c,G M.at1 d,λp A=>?_,λp q A hq=>?_⟩
  ·cases A;exact⟨hn,hf h' r⟩
  ·cases hq;exact d p A
theorem gq.st1x {h0 h:ai}{A G:Int×List Int}{u:Value}{F:Option Value}{D:LV}{b:Nat}{K:Value→ai→Prop}(M:gq h0 A G (some u) F (some (b,none)) D h)
  (H:∀h',gq h0 A G (some u) F (some (b,some true)) D h'→K undef h'):stK 2 (ptr b) (.agg #[af A.1,u]) h K:=
 M.st (f:=true) (l:=[af A.1,u]) (M.at1 _ rfl).2 (M.at1 _ rfl).1 rfl (az rfl (az (M.lx u rfl).one aU)) (λh' r=>⟨u,rfl,r⟩) (.inl ⟨rfl,rfl,rfl,λq hq I=>M.dis _ _ rfl hq I.symm⟩) H
theorem gq.st2x {h0 h:ai}{A F:Int×List Int}{u:Value}{D:Option Value}{G:LV}{b:Nat}{K:Value→ai→Prop}(M:gq h0 A F (some u) D G (some (b,none)) h)
  (H:∀h',gq h0 A F (some u) D G (some (b,some true)) h'→K undef h'):stK 2 (ptr b) (.agg #[af A.1,u]) h K:=
 M.st (f:=true) (l:=[af A.1,u]) (M.at2 _ rfl).2 (M.at2 _ rfl).1 rfl (az rfl (az (M.lx u rfl).one aU)) (λh' r=>⟨u,rfl,r⟩) (.inr ⟨rfl,rfl,rfl,λq hq=>M.dis _ _ hq rfl⟩) H
theorem gq.st1y {h0 h:ai}{G A:Int×List Int}{u:Value}{D:Option Value}{F:LV}{b:Nat}{K:Value→ai→Prop}(M:gq h0 G A D (some u) (some (b,none)) F h)
  (H:∀h',gq h0 G A D (some u) (some (b,some false)) F h'→K undef h'):stK 2 (ptr b) (.agg #[af A.1,u]) h K:=
 M.st (f:=false) (l:=[af A.1,u]) (M.at1 _ rfl).2 (M.at1 _ rfl).1 rfl (az rfl (az (M.ly u rfl).one aU)) (λh' r=>⟨u,rfl,r⟩) (.inl ⟨rfl,rfl,rfl,λq hq I=>M.dis _ _ rfl hq I.symm⟩) H
theorem gq.st2y {h0 h:ai}{F A:Int×List Int}{u:Value}{D:Option Value}{G:LV}{b:Nat}{K:Value→ai→Prop}(M:gq h0 F A D (some u) G (some (b,none)) h)
  (H:∀h',gq h0 F A D (some u) G (some (b,some false)) h'→K undef h'):stK 2 (ptr b) (.agg #[af A.1,u]) h K:=
 M.st (f:=false) (l:=[af A.1,u]) (M.at2 _ rfl).2 (M.at2 _ rfl).1 rfl (az rfl (az (M.ly u rfl).one aU)) (λh' r=>⟨u,rfl,r⟩) (.inr ⟨rfl,rfl,rfl,λq hq=>M.dis _ _ hq rfl⟩) H
def zgd (h0:ai)(Lx Ly:Int×List Int)(xs:List Value)(h:ai):Prop:=∃a b u w,xs=[ptr a,ptr b]∧Ext h0 h∧Two h a 189 (.int .i64 Lx.1) u∧Two h b 189 (.int .i64 Ly.1) w∧SlI (λ_=>True) h u Lx.2∧SlI (λ_=>True) h w Ly.2
theorem gq.fin {h0 h:ai}{A D:Int×List Int}{u w:Value}{a b:Nat}(M:gq h0 A D (some u) (some w) (some (a,some true)) (some (b,some false)) h):zgd h0 A D [ptr a,ptr b] h:=by
 obtain⟨_,H,F,r1⟩:=M.at1 _ rfl;obtain⟨_,w',G,r2⟩:=M.at2 _ rfl;cases F;cases G;exact⟨a,b,u,w,rfl,M.ext,r1,r2,(M.lx u rfl).mono λ_ _ _=>trivial,(M.ly w rfl).mono λ_ _ _=>trivial⟩
theorem gq.fin2 {h0 h:ai}{A D:Int×List Int}{u w:Value}{a b:Nat}(M:gq h0 A D (some u) (some w) (some (b,some false)) (some (a,some true)) h):zgd h0 A D [ptr a,ptr b] h:=by
 obtain⟨_,w',G,r2⟩:=M.at1 _ rfl;obtain⟨_,H,F,r1⟩:=M.at2 _ rfl;cases F;cases G;exact⟨a,b,u,w,rfl,M.ext,r1,r2,(M.lx u rfl).mono λ_ _ _=>trivial,(M.ly w rfl).mono λ_ _ _=>trivial⟩
theorem sD {t:Tbl}(W:t.Wf)(i:Int):(bK t i).2.length≤1048576∧ -70368744177664≤(bK t i).1∧(bK t i).1≤70368744177664:=by
 unfold bK;split
 ·by_cases h:i.toNat<t.lines.length
  ·have e:t.lines.getD i.toNat (0,[])=t.lines[i.toNat]:=by simp[dr,h]
   rw[e];exact W.taps _ (cQ h)
  ·have e:t.lines.getD i.toNat (0,[])=(0,[]):=by simp[dr,JV h]
   rw[e];simp
 ·simp
theorem zdo {m:Pic}(W:m.Wf)(x y c:Int):0≤atP m x y c∧atP m x y c≤m.most:=by
 have:=W.m1;unfold atP;split
 ·rename_i h;by_cases hi:(qM m x y c).toNat<m.l.length
  ·have e:m.l.getD (qM m x y c).toNat 0=m.l[(qM m x y c).toNat]:=by simp[dr,hi]
   rw[e];exact W.smp _ (cQ hi)
  ·have e:m.l.getD (qM m x y c).toNat 0=0:=by simp[dr,JV hi]
   rw[e];omega
 ·omega
theorem c_Sum {h:ai}(G:fC h){Z:Nat→Prop}{b:Nat}{v sv:Value}{m:Pic}{s:Stg}(H:du h b v m)(W:m.Wf)(HS:rl Z h sv s)(WS:s.Wf)(hs:kY m s){x y c:Int}(hc:0≤c∧c<m.c):
  ag prog Bw #[ptr b,sv,af x,af y,af c] h λr h'=>r=af (IntKind.i64.wrap (NC m s x y c))∧Ext h h':=by
 apply RE;unfold Gk;obtain⟨p,q,rfl,hp,hq,a7⟩:=jQ HS;simp only[bF];refine aI λb1 h1 r1 e1 n1=>?_
 rw[aL (l:=[p,q,af s.border]) r1 3 rfl,ah];refine(Nt (G.ext e1) (H.ext e1) (HS.ext e1)).mono λr h2 ⟨e,e2⟩=>?_
 subst e;rw[cH hs];have ar:(c<0)=False:=gk ae;simp only[go_sem,ar];have H2:=H.ext (e1.trans e2);refine(fZ H2).mono λr h3 ⟨e,F⟩=>?_
 have F:=F.symm;subst e F;simp only[go_sem];rw[b9 ae,cg];have r2:=e2.row r1;have p2:=hp.ext (e1.trans e2);have q2:=hq.ext (e1.trans e2);refine bB (zgd h2 (bK s.x x) (bK s.y y)) ?_ ?_
 ·try simp only[go_sem,aO]
  refine aQ (Ext h2) (Ext.refl _) ?_;refine aF p (λh' e=>ao (e.row r2)) ?_;refine aF q (λh' e=>ao (e.row r2)) ?_;have M0:=gq.start h2 (bK s.x x) (bK s.y y);have wx:=WS.x;have wy:=WS.y
  repeat' first
   |exact gq.fin ‹gq _ _ _ _ _ _ _ _›
   |exact gq.fin2 ‹gq _ _ _ _ _ _ _ _›
   |exact gq.ext ‹gq _ _ _ _ _ _ _ _›
   |refine And.intro ?_ ?_
   |refine gq.line_x ‹gq _ _ _ _ _ _ _ _› p2 wx λu' h' M=>?_
   |refine gq.line_y ‹gq _ _ _ _ _ _ _ _› q2 wy λu' h' M=>?_
   |refine gq.new_1 ‹gq _ _ _ _ _ _ _ _› λb' h' M=>?_
   |refine gq.new_2 ‹gq _ _ _ _ _ _ _ _› λb' h' M=>?_
   |refine gq.st1x ‹gq _ _ _ _ _ _ _ _› λh' M=>?_
   |refine gq.st2x ‹gq _ _ _ _ _ _ _ _› λh' M=>?_
   |refine gq.st1y ‹gq _ _ _ _ _ _ _ _› λh' M=>?_
   |refine gq.st2y ‹gq _ _ _ _ _ _ _ _› λh' M=>?_
 rintro xs ρj h3 ⟨a,d,u,w,rfl,e3,ra,rd,Su,Sw⟩;have bx:=sD WS.x x;have a8:=sD WS.y y;unfold NC;unfold vR;generalize bK s.x x=D at*;generalize bK s.y y=I at*;have hf:=dB W.fits;have c1:aE h3 ⟨d,1,none⟩=some w:=ao rd;obtain⟨aw,cw,ew⟩:=Sw.isSl;have ax:aD w=some (af (I.2.length:Int)):=by rw[ew];rfl
 obtain⟨au,cu,eu⟩:=Su.isSl;have ay:aD u=some (af (D.2.length:Int)):=by rw[eu];rfl
 simp only[go_sem,aO,c1,ax];refine kB (λk=>[af (IntKind.i64.wrap (At (λk=>I.2.getD k 0*At (λi=>D.2.getD i 0*atP m (atZ s.border (D.1+i) m.w) (atZ s.border (I.1+k) m.h) c) D.2.length) k)),af (k:Int)]) I.2.length 0 rfl (bZ _) λk again ρk _ hk U=>?_
 simp only[go_sem];refine aq (λh4=>?_) (λh4=>?_)
 ·have aa:k<I.2.length:=ae;have U:=U aa;obtain⟨pk,k1,k2⟩:=Sw.int_at (k':=.i64) aa;have eb:I.2.getD k 0=I.2[k]:=by simp[dr,aa]
  rw[k1,ah,k2,ah,←eb];have rs:=e3.row r2;refine aQ (λh'=>h'=h3) rfl ?_;simp only[go_sem,aO];refine aF (af s.border) (λh' e=>by rw[e];exact ao rs) ?_;refine aF (af I.1) (λh' e=>by rw[e];exact ao rd) ?_;simp only[go_sem];rw[w64 (n:=I.1+(k:Int)) ae ae];have H3:=H2.ext e3;refine(uh H3).mono λr h5 ⟨e,F⟩=>?_
  have F:=F.symm;subst e F;refine⟨rfl,?_⟩;refine(xu (by unfold I64;omega)).mono λr h5 ⟨e,F⟩=>?_
  have F:=F.symm;subst e F;have c2:aE h3 ⟨a,1,none⟩=some u:=ao ra;simp only[go_sem,aO,c2,ay];generalize al:atZ s.border (I.1+(k:Int)) m.h=row at*;generalize hA:At (λk=>I.2.getD k 0*At (λi=>D.2.getD i 0*atP m (atZ s.border (D.1+i) m.w) (atZ s.border (I.1+k) m.h) c) D.2.length) k=A at*;have an:At (λk=>I.2.getD k 0*At (λi=>D.2.getD i 0*atP m (atZ s.border (D.1+i) m.w) (atZ s.border (I.1+k) m.h) c) D.2.length) (k+1)=A+I.2.getD k 0*At (λi=>D.2.getD i 0*atP m (atZ s.border (D.1+i) m.w) row c) D.2.length:=by
   simp only[At];rw[hA,al]
  rw[an]at U;generalize I.2.getD k 0=bk at*;refine kB (λi=>[af (IntKind.i64.wrap (A+bk*At (λi=>D.2.getD i 0*atP m (atZ s.border (D.1+i) m.w) row c) i)),af (i:Int)]) D.2.length 0 (by simp[At]) (bZ _) λi am ρi _ hi L=>?_
  simp only[go_sem];refine aq (λh5=>?_) (λh5=>?_)
  ·have ad:i<D.2.length:=ae;have L:=L ad;obtain⟨pi,i1,i2⟩:=Su.int_at (k':=.i64) ad;have ea:D.2.getD i 0=D.2[i]:=by simp[dr,ad]
   rw[i1,ah,i2,ah,←ea];refine aQ (λh'=>h'=h3) rfl ?_;simp only[go_sem,aO];refine aF (af s.border) (λh' e=>by rw[e];exact ao rs) ?_;refine aF (af D.1) (λh' e=>by rw[e];exact ao ra) ?_;simp only[go_sem];rw[w64 (n:=D.1+(i:Int)) ae ae];refine(vP H3).mono λr h5 ⟨e,F⟩=>?_
   have F:=F.symm;subst e F;refine⟨rfl,?_⟩;refine(xu (by unfold I64;omega)).mono λr h5 ⟨e,F⟩=>?_
   have F:=F.symm;subst e F
   try simp only[go_sem]
   refine(zeQ H3 W).mono λr h5 ⟨e,F⟩=>?_
   have F:=F.symm;subst e F;have hv:=zdo W (atZ s.border (D.1+(i:Int)) m.w) row c;have hm:=W.m2;simp only[go_sem];rw[w64 (n:=atP m (atZ s.border (D.1+(i:Int)) m.w) row c) ae ae,Xu,w64 (n:=(i:Int)+1) ae ae];simp only[At,JJ]at L;rw[←Int.add_assoc]at L;exact L
  ·have:i=D.2.length:=ae;subst this;rw[w64 (n:=(k:Int)+1) ae ae];exact U
 ·have:k=I.2.length:=ae;subst this;exact⟨rfl,e1.trans (e2.trans e3)⟩
theorem GC {A B C c d:Int}(h:A*C+c=B*C+d)(F:0≤c)(H:c<C)(d0:0≤d)(d1:d<C):A=B∧c=d:=by
 have D:(c+A*C)/C=A:=by rw[Ua _ _ ae,sG F H];omega
 have I:(d+B*C)/C=B:=by rw[Ua _ _ ae,sG d0 d1];omega
 have G:c+A*C=d+B*C:=ae;rw[G,I]at D;refine⟨D.symm,?_⟩;subst D;omega
theorem zdP {m:Pic}{x y c D F c':Int}(h:inP m x y c)(h':inP m D F c')(e:qM m x y c=qM m D F c'):x=D∧y=F∧c=c':=by
 obtain⟨x0,x1,y0,y1,L,W⟩:=h;obtain⟨A,I,ad,aa,G,H⟩:=h';unfold qM at e;obtain⟨e1,e2⟩:=GC e L W G H;obtain⟨e3,U⟩:=GC e1 x0 x1 A I;exact⟨U,e3,e2⟩
theorem Xl {m:Pic}(W:m.Wf){x y c n A D c':Int}(h:inP m x y c):atP (Vr m x y c n) A D c'=if A=x∧D=y∧c'=c then n else atP m A D c':=by
 have L:=Oj W h;by_cases hi:inP m A D c'
 ·have I:=Oj W hi;have F:inP (Vr m x y c n) A D c':=hi;unfold atP;rw[aB F,aB hi];show(m.l.set (qM m x y c).toNat n).getD (qM m A D c').toNat 0=_;by_cases G:A=x∧D=y∧c'=c
  ·rw[aB G];obtain⟨rfl,rfl,rfl⟩:=G;have:(qM m A D c').toNat<m.l.length:=ae;simp[dr,this]
  ·rw[aA G];have H:(qM m x y c).toNat≠(qM m A D c').toNat:=λhh=>G (by
    obtain⟨a,b,d⟩:=zdP hi h ae;exact⟨a,b,d⟩)
   simp[dr,List.getElem?_set_ne H]
 ·have F:¬inP (Vr m x y c n) A D c':=hi;have G:¬(A=x∧D=y∧c'=c):=by rintro⟨rfl,rfl,rfl⟩;exact hi h
  unfold atP;rw[aA F,aA hi,aA G]
def ahead (x y c x' y' c':Int):Prop:=y'<y∨(y'=y∧(x'<x∨(x'=x∧c'<c)))
structure Xr (h0 h:ai)(b:Nat)(v:Value)(n:Pic)(w hh c most:Int):Prop where
 img:du h b v n
 wf:n.Wf
 pw:n.w=w
 ph:n.h=hh
 pc:n.c=c
 pm:n.most=most
 ext:Ext h0 h
 nb:h0.size≤b
 nv:∀c,blk v c→h0.size≤c
theorem Xr.before {h1 h0 h:ai}{b:Nat}{v:Value}{n:Pic}{w hh c most:Int}(M:Xr h0 h b v n w hh c most)(e:Ext h1 h0):Xr h1 h b v n w hh c most:=
 ⟨M.img,M.wf,M.pw,M.ph,M.pc,M.pm,e.trans M.ext,bA e.1 M.nb,λc hc=>bA e.1 (M.nv c hc)⟩
theorem zeR {h:ai}(G:fC h){Z:Nat→Prop}{b:Nat}{v sv:Value}{m:Pic}{s:Stg}(H:du h b v m)(W:m.Wf)(HS:rl Z h sv s)(WS:s.Wf)(hs:kY m s)(aa:gR s.x.lines.length s.y.lines.length m.c):
  ag prog xI #[ptr b,sv] h λr h'=>∃b' v' n,r=.tuple #[ptr b',aj]∧Xr h h' b' v' n s.x.lines.length s.y.lines.length m.c m.most∧∀x y c,inP n x y c→atP n x y c=yQ m s x y c:=by
 apply MM;unfold BT;obtain⟨p,q,rfl,hp,hq,bg⟩:=jQ HS;simp only[bF];refine aI λb1 h1 r1 e1 n1=>?_
 rw[aL (l:=[p,q,af s.border]) r1 3 rfl,ah];refine(Nt (G.ext e1) (H.ext e1) (HS.ext e1)).mono λr h2 ⟨e,e2⟩=>?_
 subst e;rw[cH hs];simp only[go_sem,aO];have U:=e1.trans e2;have r2:=e2.row r1;refine aQ (Ext h2) (Ext.refl _) ?_;refine aF p (λh' e=>ao (e.row r2)) ?_;refine aF q (λh' e=>ao (e.row r2)) ?_;refine(Fp (hp.ext U)).mono λr h3 ⟨e,A⟩=>?_
 have A:=A.symm;subst e A;refine⟨Ext.refl _,?_⟩;refine(Fp (hq.ext U)).mono λr h3 ⟨e,A⟩=>?_
 have A:=A.symm;subst e A;refine(fZ (H.ext U)).mono λr h3 ⟨e,A⟩=>?_
 have A:=A.symm;subst e A;refine(wu (H.ext U)).mono λr h3 ⟨e,A⟩=>?_
 have A:=A.symm;subst e A;have al:Dw s.x.lines.length s.y.lines.length m.c m.most=0:=Ag.2 ⟨aa,W.m1,W.m2⟩;refine Ah.mono λr h3 ⟨pp,e,e3,_,s3⟩=>?_
 subst e;obtain⟨nb,nv,rfl,I,be,a8,_⟩:=s3 al;have hz:((0:Int)=0)=True:=jZ rfl;rw[al];simp only[go_sem,hz];refine(uh I).mono λr h4 ⟨e,A⟩=>?_
 have A:=A.symm;subst e A;have bk:=W.m1;have bo:=W.m2;have M0:Xr h2 h3 nb nv (vO s.x.lines.length s.y.lines.length m.c m.most) s.x.lines.length s.y.lines.length m.c m.most:=⟨I,EN al,rfl,rfl,rfl,rfl,e3,be,a8⟩
 obtain⟨X,hX⟩:∃X,X=s.x.lines.length:=⟨_,rfl⟩
 obtain⟨Y,hY⟩:∃Y,Y=s.y.lines.length:=⟨_,rfl⟩
 rw[←hX,←hY]at M0 aa ⊢;have hf:=dB aa;obtain⟨C,hC⟩:∃C:Nat,m.c=(C:Int):=⟨m.c.toNat,ae⟩
 rw[show(vO (X:Int) (Y:Int) m.c m.most).h=(Y:Int)from rfl]
 -- what holds at a place of the walk
 refine bO (α:=Pic) Y 0 (λy _=>[af (y:Int)]) (λy n h'=>Xr h2 h' nb nv n X Y m.c m.most∧∀F L c',inP n F L c'→ahead 0 y 0 F L c'→atP n F L c'=yQ m s F L c') _ rfl (bZ _)
  ⟨M0,λF L c' hi ha=>by unfold ahead inP at*;omega⟩ λy n h4 again ρ1 _ hy ⟨M,D⟩ a9=>?_
 simp only[go_sem];refine aq (λh5=>?_) (λh5=>?_)
 ·refine(vP M.img).mono λr h5 ⟨e,A⟩=>?_
  have A:=A.symm;subst e A;rw[M.pw];refine bO (α:=Pic) X 0 (λx _=>[af (x:Int)]) (λx n h'=>Xr h2 h' nb nv n X Y m.c m.most∧∀F L c',inP n F L c'→ahead x y 0 F L c'→atP n F L c'=yQ m s F L c') n rfl (bZ _)
   ⟨M,D⟩ λx n h5 ay ρ2 _ hx ⟨M,D⟩ ar=>?_
  simp only[go_sem];refine aq (λh6=>?_) (λh6=>?_)
  ·refine(fZ M.img).mono λr h6 ⟨e,A⟩=>?_
   have A:=A.symm;subst e A;rw[M.pc,hC];refine bO (α:=Pic) C 0 (λc _=>[af (c:Int)]) (λc n h'=>Xr h2 h' nb nv n X Y m.c m.most∧∀F L c',inP n F L c'→ahead x y c F L c'→atP n F L c'=yQ m s F L c') n rfl (bZ _)
    ⟨M,D⟩ λc n h6 a7 ρ3 _ hc ⟨M,D⟩ am=>?_
   simp only[go_sem];refine aq (λh7=>?_) (λh7=>?_)
   ·rw[aL (l:=[p,q,af s.border]) (M.ext.row r2) 3 rfl,ah];have E0:=U.trans M.ext;refine(c_Sum (G.ext E0) (H.ext E0) W (HS.ext E0) WS hs (x:=x) (y:=y) (c:=c) ae).mono λr h8 ⟨e,e8⟩=>?_
    subst e;have E8:=E0.trans e8;refine(wu (H.ext E8)).mono λr h9 ⟨e,A⟩=>?_
    have A:=A.symm;subst e A;refine(zac (kL _)).mono λr h9 ⟨e,A⟩=>?_
    have A:=A.symm;subst e A;have hr:=R5 (IntKind.i64.wrap (NC m s x y c)) (most:=m.most) ae;have Mi:=M.img.ext e8;refine(zab Mi M.wf hr.1 hr.2.1).mono λr au ⟨e,an,f10,bv⟩=>?_
    subst e;have ax:inP n x y c:=⟨ae,by rw[M.pw];omega,ae,by rw[M.ph];omega,ae,by rw[M.pc];omega⟩
    have ad:inP n x y c∧Ay (IntKind.i64.wrap (NC m s x y c)) m.most≤n.most:=⟨ax,by rw[M.pm];omega⟩
    rw[aB ad]at an;have bd:Ext h2 au:=(M.ext.trans e8).then_fr f10 M.nv
    try simp only[go_sem]
    rw[w64 ae ae];refine am (Vr n x y c (Ay (IntKind.i64.wrap (NC m s x y c)) m.most)) au ae ⟨⟨an,Y3 M.wf hr.1 ad.2,M.pw,M.ph,M.pc,M.pm,bd,M.nb,M.nv⟩,λF L c' hi ha=>?_⟩;rw[Xl M.wf ax];by_cases he:F=x∧L=y∧c'=c
    ·rw[aB he,he.1,he.2.1,he.2.2];rfl
    ·rw[aA he];exact D F L c' hi (by unfold ahead at*;omega)
   ·have:c=C:=ae;subst this;rw[w64 ae ae];refine ar n h6 ae ⟨M,λF L c' hi ha=>D F L c' hi ?_⟩;have h1:=M.pc;unfold ahead inP at*;omega
  ·have:x=X:=ae;subst this;rw[w64 ae ae];refine a9 n h5 ae ⟨M,λF L c' hi ha=>D F L c' hi ?_⟩;have h1:=M.pw;unfold ahead inP at*;omega
 ·have:y=Y:=ae;subst this;refine⟨nb,nv,n,rfl,M.before U,λF L c' hi=>D F L c' hi ?_⟩;have h1:=M.ph;unfold ahead inP at*;omega
theorem Og (f n:Int){m:Int}(A:bE m):(fX f n m).Wf:=by
 unfold bE at A;refine⟨?_,λx F=>?_⟩
 ·show(List.map _ (List.range m.toNat)).length≤65536;rw[da,fF];omega
 ·obtain⟨i,_,rfl⟩:=gQ.1 F;have D:=rR (w7 f n m i);refine⟨D.1,?_⟩;show _≤fI f n m i∧fI f n m i≤_;unfold fI;split
  ·rename_i h;have:=Pn h;omega
  ·omega
theorem PM {l:List Int}(A:∀x∈l,I64 x)(H:l.length≤1024){n:Int}(D:bE n):(kG l n).Wf:=by
 unfold bE at D;refine⟨?_,λx G=>?_⟩
 ·show(List.map _ (List.range n.toNat)).length≤65536;rw[da,fF];omega
 ·obtain⟨i,hi,rfl⟩:=gQ.1 G;have F:=rR A;have:=uA.1 hi;refine⟨F.1,?_⟩;show _≤(i:Int)-(l.length/2:Nat)∧(i:Int)-(l.length/2:Nat)≤_;omega
theorem Ch (o:OpD):(eS o).length≤1024∧(cW o).length≤1024:=by
 have:=Hp o.sigma;have:=Lt o.radius;have:=zG o.x;have:=zG o.y;unfold eS cW;constructor<;>split<;>(try split)<;>omega
theorem Ac {o:OpD}{w h:Int}(hc:fJ o w h=0):(cB o w h).Wf∧lE o∧bE w∧bE h:=by
 unfold fJ at hc;split at hc
 ·cases hc
 ·rename_i A;have h1:lE o:=cA λhh=>A (.inl hh)
  have F:bE w:=cA λhh=>A (.inr (.inl hh))
  have G:bE h:=cA λhh=>A (.inr (.inr hh))
  refine⟨⟨?_,?_⟩,h1,F,G⟩
  ·show(kX o w).Wf;unfold kX;split
   ·rename_i D;exact Og _ _ (h1.2.2 D).1
   ·exact PM (Ar o) (Ch o).1 F
  ·show(fQ o h).Wf;unfold fQ;split
   ·rename_i D;exact Og _ _ (h1.2.2 D).2.1
   ·exact PM (Aq o) (Ch o).2 G
theorem La {o:OpD}{w h:Int}(hc:fJ o w h=0):((cB o w h).x.lines.length:Int)=qR o w∧((cB o w h).y.lines.length:Int)=uM o h:=by
 obtain⟨_,D,F,hh⟩:=Ac hc;unfold bE at F hh;constructor
 ·show((kX o w).lines.length:Int)=_;unfold kX qR;split
  ·rename_i A;have:=(D.2.2 A).1;unfold bE at this;show((List.map _ (List.range o.w.toNat)).length:Int)=_;rw[da,fF];omega
  ·show((List.map _ (List.range w.toNat)).length:Int)=_;rw[da,fF];omega
 ·show((fQ o h).lines.length:Int)=_;unfold fQ uM;split
  ·rename_i A;have:=(D.2.2 A).2.1;unfold bE at this;show((List.map _ (List.range o.hh.toNat)).length:Int)=_;rw[da,fF];omega
  ·show((List.map _ (List.range h.toNat)).length:Int)=_;rw[da,fF];omega
theorem zdZ (o:OpD)(w h:Int):(cB o w h).x.n=w∧(cB o w h).y.n=h:=by
 constructor
 ·show(kX o w).n=w;unfold kX;split<;>rfl
 ·show(fQ o h).n=h;unfold fQ;split<;>rfl
theorem L4 {o:OpD}{m:Pic}(hc:fJ o m.w m.h=0):kY m (cB o m.w m.h):=by
 obtain⟨_,A,_,_⟩:=Ac hc;obtain⟨h1,D⟩:=zdZ o m.w m.h;exact⟨h1,D,A.2.1.1,A.2.1.2⟩
def Sb:Pic:=⟨1,1,1,255,[7]⟩
def XR:OpD:=⟨1,0,0,2,[],[],0,0,0⟩
theorem YD {h:ai}(G:fC h):ag prog zk #[] h λr h'=>r=.bool true∧Ext h h':=by
 apply OR;unfold CL;refine cT (c':=#[.int .u16 7]) rfl λb1 h1 r1 e1 n1=>?_
 have S1:=En (k:=.u16) (l:=[7]) (n:=1) rfl r1;have a0:Dw 1 1 1 255=0:=by decide+kernel
 refine(UV S1 a0 (by decide) (by simp)).mono λr h2 ⟨p,e,N⟩=>?_
 subst e;obtain⟨b,v,rfl,I,nb,nv,e2⟩:=N;have I:du h2 b v Sb:=I;have W:Sb.Wf:=⟨by decide+kernel,by decide,by decide,by decide,by simp[Sb]⟩
 have hf:(aR #[aj,aj,aj,aj,(.slice none 0 0),(.slice none 0 0),aj,aj,aj] [(0,1,aJ),(3,1,(af 2))])=some #[aJ,aj,aj,af 2,.slice none 0 0,.slice none 0 0,aj,aj,aj]:=rfl;simp only[go_sem];rw[hf,bH,ah];have wf:XR.Wf:=C7 (by simp[I64]);have G2:=G.ext (e1.trans e2);refine(Lr (Z:=λ_=>True) (o:=XR) G2 C8 wf (by simp[XR]) (by simp[XR]) (by unfold I64;omega) (by unfold I64;omega)).mono λw h3 ⟨sv,e,e3,_,s1⟩=>?_
 subst e;have a1:fJ XR 1 1=0:=by decide+kernel
 have HS:=s1 a1;rw[a1];obtain⟨p,q,rfl,hp,hq,A⟩:=jQ HS;simp only[go_sem];refine cX (cs:=[p,q,af _]) rfl A rfl λb4 h4 r4 H n4=>?_
 refine zbl.mono λr h5 ⟨e,D⟩=>?_
 subst e;simp only[go_sem];have E5:=(e1.trans e2).trans (e3.trans (H.trans D));refine(Qf (G.ext E5)).mono λr h6 ⟨e,F⟩=>?_
 subst e;have z0:((0:Int)=0)=True:=jZ rfl;have np:ak .p .eql (ptr b) (.pointer none)=some (.bool false):=rfl;have L:∀b,ak .p .neq (ptr b) (.pointer none)=some (.bool true):=λ_=>rfl
 simp only[go_sem,z0,np,gM];have E6:=E5.trans F;have U:=e3.trans (H.trans (D.trans F));rw[aL (l:=[p,q,af _]) ((D.trans F).row r4) 3 rfl,ah];have hs:kY Sb (cB XR 1 1):=L4 (m:=Sb) a1;refine(zeR (G.ext E6) (I.ext U) W (HS.ext (H.trans (D.trans F))) (Ac a1).1 hs (by decide+kernel)).mono λr h7 ⟨b',v',n,e,M,aa⟩=>?_
 subst e;simp only[go_sem,z0,L,gM];refine(zeQ M.img M.wf).mono λr h8 ⟨e,wq⟩=>?_
 have wq:=wq.symm;subst e wq;have ad:inP n 0 0 0:=⟨ae,by rw[M.pw];decide+kernel,ae,by rw[M.ph];decide+kernel,ae,by rw[M.pc];decide⟩
 rw[aa 0 0 0 ad];have hv:yQ Sb (cB XR 1 1) 0 0 0=7:=by decide+kernel
 rw[hv];simp only[go_sem,lU,gM];exact⟨by simp,E6.trans M.ext⟩
structure uj where
 w:Int
 h:Int
 c:Int
 most:Int
 l:List Int
structure uj.Wf (a:uj):Prop where
 w:U16 a.w
 h:U16 a.h
 c:U16 a.c
 most:U16 a.most
 l:∀x∈a.l,U16 x
 len:a.l.length≤4611686018427387904
def pG:Rp uj where
 w:=5
 R:=λZ h cs a=>∃u,cs=[.int .u16 a.w,.int .u16 a.h,.int .u16 a.c,.int .u16 a.most,u]∧Rp.Sl rU Z h u a.l
 len:=by rintro _ _ _ _ ⟨x,rfl,_⟩;rfl
 one:=by
  rintro _ _ _ _ ⟨x,rfl,H⟩;exact az rfl (az rfl (az rfl (az rfl (az H.one aU))))
 fr:=by rintro _ _ _ _ _ _ ⟨x,rfl,H⟩ f q;exact⟨x,rfl,H.fr f q⟩
 mono:=by rintro _ _ _ _ _ ⟨x,rfl,H⟩ q;exact⟨x,rfl,H.mono q⟩
def fh (a:uj):Pic:=DD (a.w%12) (a.h%12) a.c a.most a.l
theorem xr (a:uj):(fh a).Wf:=WL _ _ _ _ _
theorem DE (a:uj):1≤(fh a).w∧(fh a).w≤12∧1≤(fh a).h∧(fh a).h≤12:=by
 show 1≤1+a.w%12%20∧1+a.w%12%20≤12∧1≤1+a.h%12%20∧1+a.h%12%20≤12;omega
theorem uC.before {h0 h h':ai}{p:Value}{m:Pic}(N:uC h h' p m)(e:Ext h0 h):uC h0 h' p m:=by
 obtain⟨b,v,A,I,nb,nv,E⟩:=N;exact⟨b,v,A,I,bA e.1 nb,λc hc=>bA e.1 (nv c hc),e.trans E⟩
theorem Lp {Z:Nat→Prop}{h:ai}{cs:List Value}{a:uj}(H:pG.R Z h cs a)(W:a.Wf):ag prog fM #[.agg cs.toArray] h λr h'=>uC h h' r (fh a):=by
 apply Cf;unfold qZ;obtain⟨u,rfl,L⟩:=H;simp only[bF];refine aI λA h1 r1 D n1=>?_
 have G:aE h1 ⟨A,0,none⟩=some (.int .u16 a.w):=ao r1;have U:aE h1 ⟨A,1,none⟩=some (.int .u16 a.h):=ao r1;have I:aE h1 ⟨A,2,none⟩=some (.int .u16 a.c):=ao r1;have q3:aE h1 ⟨A,3,none⟩=some (.int .u16 a.most):=ao r1;have F:aE h1 ⟨A,4,none⟩=some u:=ao r1;have w0:=W.w;have w1:=W.h;simp only[go_sem,aO,G];rw[dS _ _ _ _ ae,ah];simp only[go_sem,aO,U];rw[dS _ _ _ _ ae,ah];simp only[go_sem,aO,I,q3,F];rw[jY w0.1,jY w1.1];exact(zc4 (L.ext D) (by unfold U16;omega) (by unfold U16;omega) W.c W.most W.l W.len).mono λr h' N=>N.before D
theorem kc.since {α:Type}{e:Rp α}{h0 h h':ai}{v:Value}{l:List α}(H:kc e h h' v l)(k:Ext h0 h):Rp.Sl e (gn h0 h') h' v l:=H.sl.mono λc hc A=>⟨bA k.1 A.1,hc⟩
theorem Xc {Z:Nat→Prop}{h:ai}(G:fC h){v:Value}{l:List OpD}{b:Nat}{iv:Value}{m:Pic}(H:Rp.Sl rOp Z h v l)(few:l.length≤4)(WO:Gz l)(I:du h b iv m)(W:m.Wf):
  ag prog iY #[v,ptr b] h λr h'=>Ext h h'∧∃sv rv ok,r=.tuple #[sv,rv,.bool ok]∧aV sv=true∧(ok=true↔oR 12 l∧BZ l m.w m.h m.c=0)∧
   (ok=true→Rp.Sl Gp (gn h h') h' sv (y4 l m.w m.h)∧Rp.Sl yP (gn h h') h' rv (y4 l m.w m.h)):=by
 apply MI;unfold BO;obtain⟨a,cap,e⟩:=H.isSl;have e2:aD v=some (af (l.length:Int)):=by rw[e];rfl
 have np:ak .p .eql (ptr b) (.pointer none)=some (.bool false):=rfl;simp only[go_sem,e2,np];have h4:((4:Int)<(l.length:Int))=False:=gk ae;simp only[go_sem,h4];refine(zdf (side:=12) H ae).mono λr h1 ⟨e,F⟩=>?_
 subst e;simp only[go_sem];refine aq (λL=>?_) (λL=>?_)
 ·exact⟨F,_,_,false,rfl,rfl,⟨λh=>(by cases h),λh=>absurd h.1 L⟩,λh=>(by cases h)⟩
 have L:oR 12 l:=cA L;have hf:=dB W.fits;have hW:I64 m.w:=by unfold I64;omega
 have hH:I64 m.h:=by unfold I64;omega
 have D:∀(U:ai) (E:Ext h U) (K:Value→Value→Value→ai→Prop),K (af m.w) (af m.h) (af m.c) U→
   ag prog cf #[ptr b] U λay aa=>ag prog cj #[ptr b] aa λax au=>ag prog bu #[ptr b] au λad al=>K ay ax ad al:=by
  intro U E K HK;refine(vP (I.ext E)).mono λr h3 ⟨e,A⟩=>?_
  have A:=A.symm;subst e A;refine(uh (I.ext E)).mono λr h3 ⟨e,A⟩=>?_
  have A:=A.symm;subst e A;refine(fZ (I.ext E)).mono λr h3 ⟨e,A⟩=>?_
  have A:=A.symm;subst e A;exact HK
 refine D h1 F _ ?_;refine(zey (G.ext F) (H.ext F) WO hW hH (c:=m.c)).mono λr U ⟨sv,e,an,s0,s1⟩=>?_
 subst e;simp only[go_sem];have E2:=F.trans an;refine(zfW (H.ext E2) ae).mono λlv h3 ⟨HR,e3⟩=>?_
 have E3:=E2.trans e3;refine D h3 E3 _ ?_;refine(zc1 HR WO hW hH (c:=m.c)).mono λr h5 ⟨rv,e,e5,t0,t1⟩=>?_
 subst e;simp only[go_sem];have E5:=E3.trans e5;by_cases hc:BZ l m.w m.h m.c=0
 ·have S:=(s1 hc).ext (e3.trans e5);have T:=t1 hc;obtain⟨a7,a8,es⟩:=S.isSl;obtain⟨at_,ct,et⟩:=T.isSl;have am:aD sv=some (af ((y4 l m.w m.h).length:Int)):=by rw[es];rfl
  have ar:aD rv=some (af ((y4 l m.w m.h).length:Int)):=by rw[et];rfl
  simp only[go_sem,hc,am,ar];refine⟨E5,sv,rv,true,by simp,by rw[es];rfl,⟨λ_=>⟨L,trivial⟩,λ_=>rfl⟩,λ_=>⟨?_,?_⟩⟩
  ·exact S.since F
  ·exact T.since E3
 ·simp only[go_sem,hc];exact⟨E5,sv,rv,false,by simp,by rw[s0 hc];rfl,⟨λh=>(by cases h),λh=>h.2.elim⟩,λh=>(by cases h)⟩
end Go.Proofs.YtjljhnandbbldaaGreatDoor
namespace Go.Proofs.YtjljhnandbbldaaGreatDoor
open Go Go.Crisp
open _root_.Go.Proofs.Tryz
structure YP (L:List (String×DataW Unit)):Prop where
 plain:(L.all λx=>x.2.handleName?.isNone)=true
 names:("smalto/border.names",Rows.laid_smalto_border_names)∈L
 kinds:("smalto/raw.kinds",Rows.laid_smalto_raw_kinds)∈L
theorem YP.glob {L:List (String×DataW Unit)}(l:YP L){h:ai}(H:DR prog L h):fC h:=zcq H l.plain l.names l.kinds
theorem Ny {n:Int}(h:(Lit.int .u16 n).wf=true):0≤n∧n≤65535:=by
 have h:(decide (IntKind.u16.min≤n)&&decide (n≤IntKind.u16.max))=true:=h;rw[dt,dH,dH]at h;exact h
abbrev Xy:TS:=.int .u16
abbrev zat:TS:=.pair Xy (.pair Xy (.pair Xy (.pair Xy (.pair (.sl Xy 2) .unit))))
def Y9 (x:zat.T):uj:=⟨x.1,x.2.1,x.2.2.1,x.2.2.2.1,x.2.2.2.2.1⟩
theorem Xz {h:ai}{v:Value}{l:List Int}(H:SlC 1 h v l.length (l.map (Value.int .u16))):Rp.Sl rU (λ_=>True) h v l:=
 ⟨_,H,λ_ _ _=>trivial,λi hi=>by
  show Rp.el 1 _ i=[.int .u16 l[i]];rw[Rp.el_one (by simpa using hi),eE]⟩
theorem zdB {h:ai}{cs:List Value}{l:List Int}(H:Rd (.sl Xy 2) h cs l):∃v,cs=[v]∧Rp.Sl rU (λ_=>True) h v l∧(∀n∈l,U16 n)∧l.length*2≤140737488351232:=by
 obtain⟨v,rfl,h1,D,F⟩:=XB (e:=Xy) (Value.int .u16) U16 rfl (λds x A=>⟨A.1,Ny A.2⟩) H;exact⟨v,rfl,Xz h1,D,F⟩
theorem zfj {h:ai}{cs:List Value}{x:zat.T}(H:Rd zat h cs x):pG.R (λ_=>True) h cs (Y9 x)∧(Y9 x).Wf:=by
 obtain⟨_,_,rfl,⟨rfl,a1⟩,_,_,rfl,⟨rfl,a2⟩,_,_,rfl,⟨rfl,a3⟩,_,_,rfl,⟨rfl,a4⟩,_,_,rfl,a5,rfl⟩:=H;obtain⟨s,rfl,F,D,A⟩:=zdB a5;have A:(Y9 x).l.length*2≤140737488351232:=A;exact⟨⟨s,rfl,F⟩,⟨Ny a1,Ny a2,Ny a3,Ny a4,D,ae⟩⟩
theorem zdS {h:ai}{cs:List Value}{x:tOp.T}(H:Rd tOp h cs x):Gz [VL x]:=by
 have h1:=(ze0 H).2;have D:=zfl H;refine⟨λo A=>?_,λo A=>?_,by simp⟩<;>(rw[ia.1 A])
 ·exact h1
 ·exact D
end Go.Proofs.YtjljhnandbbldaaGreatDoor
namespace Go.Proofs.YtjljhnandbbldaaGreatDoor
open Go Go.Crisp
attribute [local irreducible] ag cO aT stK aG vK qK bL gK eM bC mkK cR HA JA Ep bsK clK
open _root_.Go.Proofs.Tryz
theorem Ko (o:Nat):∀(l:List Value) (c:Array Value) (k:Nat),(l.zipIdx k).foldl (λcs (p:Value×Nat)=>cs.setIfInBounds (o+p.2) p.1) c=wrL c (o+k) l
 | [],_,_=>rfl
 |v::l,c,k=>by
  simp only[List.zipIdx_cons,yw,wrL];exact Ko o l _ (k+1)
theorem cn {c:Array Value}{o n:Nat}{v:Value}{l:List Value}{rest:List (Nat×Nat×Value)}(D:v.cells=l.toArray)(A:l.length=n)(F:o+n≤c.size):aR c ((o,n,v)::rest)=aR (wrL c o l) rest:=by
 simp only[aR,D];rw[aA (by simp[A];omega)]
 congr 1
 rw[Zz,Zy]
 ·exact Ko o l c 0
 ·simp
structure dC where
 s:Stg
 w:Int
 h:Int
def fW (n:Int):Prop:=1≤n∧n≤4096
instance (n:Int):Decidable (fW n):=by unfold fW;infer_instance
structure dC.Wf (d:dC):Prop where
 s:d.s.Wf
 w:fW d.w
 h:fW d.h
def dC.X (d:dC):Int:=d.s.x.lines.length
def dC.Y (d:dC):Int:=d.s.y.lines.length
structure uD (Z:Nat→Prop)(h:ai)(b:Nat)(d:dC)(p q:Value):Prop where
 row:h[b]? =some (.cells #[p,q,.int .i64 d.s.border,.int .i64 d.w,.int .i64 d.h] 184 (0,0))
 x:gd Z h p d.s.x
 y:gd Z h q d.s.y
theorem uD.ext {Z:Nat→Prop}{h h':ai}{b:Nat}{d:dC}{p q:Value}(H:uD Z h b d p q)(e:Ext h h'):uD Z h' b d p q:=⟨e.row H.row,H.x.ext e,H.y.ext e⟩
def dX (n size:Int):Int:=(n+size-1)/size
def dQ (d:dC):Int:=dX d.X d.w
def bN (d:dC):Int:=dQ d*dX d.Y d.h
def kw (d:dC)(i:Int):Int:=i%dQ d*d.w
def kQ (d:dC)(i:Int):Int:=i/dQ d*d.h
def vh (d:dC)(i:Int):Int:=min d.w (d.X-kw d i)
def xL (d:dC)(i:Int):Int:=min d.h (d.Y-kQ d i)
theorem pJ {n size:Int}(D:0≤n∧n≤65536)(A:fW size):0≤dX n size∧dX n size≤65536∧(1≤n→1≤dX n size):=by
 unfold fW at A;unfold dX;refine⟨AI ae ae,?_,λh=>?_⟩
 ·have:=ue (a:=n+size-1) (b:=size) (L:=0) (U:=70000) ae ae ae ae ae;apply JN;rw[yv ae];omega
 ·rw[vD ae];omega
theorem dC.bd {d:dC}(W:d.Wf):(0≤d.X∧d.X≤65536)∧(0≤d.Y∧d.Y≤65536):=by
 have h1:=W.s.x.len;have A:=W.s.y.len;unfold dC.X dC.Y;omega
theorem Z8 {h:ai}{n size:Int}(D:0≤n∧n≤65536)(A:fW size):ag prog wh #[af n,af size] h λr h'=>r=af (dX n size)∧h'=h:=by
 apply Rt;unfold F9;have F:=pJ D A;unfold fW at A;unfold dX at*;simp only[go_sem];rw[w64 (n:=n+size) ae ae,w64 (n:=n+size-1) ae ae,nD _ _ _ _ ae,ah,yt ae,w64 ae ae];exact⟨rfl,trivial⟩
theorem Lq {Z:Nat→Prop}{h:ai}{b:Nat}{d:dC}{p q:Value}(H:uD Z h b d p q)(W:d.Wf):ag prog iz #[ptr b] h λr h'=>r=af (dQ d)∧h'=h:=by
 apply Dj;unfold tF;simp only[go_sem,aO];refine aQ (λh'=>h'=h) rfl ?_;refine aF p (λh' e=>by rw[e];exact ao H.row) ?_;refine aF (af d.w) (λh' e=>by rw[e];exact ao H.row) ?_;refine(Fp H.x).mono λr h1 ⟨e,A⟩=>?_
 have A:=A.symm;subst e A;exact⟨rfl,Z8 (dC.bd W).1 W.w⟩
theorem ET {Z:Nat→Prop}{h:ai}{b:Nat}{d:dC}{p q:Value}(H:uD Z h b d p q)(W:d.Wf):ag prog eO #[ptr b] h λr h'=>r=af (bN d)∧h'=h:=by
 apply G7;unfold wU;simp only[go_sem,aO];refine aQ (λh'=>h'=h) rfl ?_;refine aF q (λh' e=>by rw[e];exact ao H.row) ?_;refine aF (af d.h) (λh' e=>by rw[e];exact ao H.row) ?_;refine(Lq H W).mono λr h1 ⟨e,D⟩=>?_
 have D:=D.symm;subst e D;refine⟨rfl,?_⟩;refine(Fp H.y).mono λr h1 ⟨e,D⟩=>?_
 have D:=D.symm;subst e D;refine⟨rfl,?_⟩;refine(Z8 (dC.bd W).2 W.h).mono λr h1 ⟨e,D⟩=>?_
 have D:=D.symm;subst e D;simp only[go_sem];have h1:=pJ (dC.bd W).1 W.w;have F:=pJ (dC.bd W).2 W.h;have G:=kz (a:=dQ d) (A:=65536) (b:=dX d.Y d.h) (B:=65536) h1.1 h1.2.1 F.1 F.2.1;have e:dQ d*dX (d.s.y.lines.length:Int) d.h=bN d:=rfl;have G:0≤dQ d*dX (d.s.y.lines.length:Int) d.h∧dQ d*dX (d.s.y.lines.length:Int) d.h≤65536*65536:=G;rw[w64 ae ae];exact⟨rfl,trivial⟩
theorem Qd {h:ai}{n:Int}:ag prog yI #[af n] h λr h'=>r=.bool (decide (fW n))∧h'=h:=by
 apply TL;unfold IM;simp only[go_sem];exact⟨rfl,trivial⟩
theorem SQ {Z:Nat→Prop}{h:ai}{sv:Value}{s:Stg}{w hh:Int}(HS:rl Z h sv s):ag prog Bp #[sv,af w,af hh] h λr h'=>
  Ext h h'∧((fW w∧fW hh)→∃b p q,r=.tuple #[ptr b,aj]∧h.size≤b∧uD Z h' b ⟨s,w,hh⟩ p q)∧(¬(fW w∧fW hh)→r=.tuple #[.pointer none,af 9]):=by
 apply VY;unfold LS;obtain⟨p,q,rfl,I,hq,U⟩:=jQ HS;simp only[bF];refine aI λb1 h1 r1 D n1=>?_
 have np:=(KH I).2;have nq:=(KH hq).2;have q0:aE h1 ⟨b1,0,none⟩=some p:=ao r1;have q1:aE h1 ⟨b1,1,none⟩=some q:=ao r1;simp only[go_sem,aO,q0,q1,np,nq];refine Qd.mono λr W ⟨e,A⟩=>?_
 have A:=A.symm;subst e A;by_cases L:fW w
 ·simp only[go_sem,L];refine Qd.mono λr W ⟨e,A⟩=>?_
  have A:=A.symm;subst e A;by_cases G:fW hh
  ·simp only[go_sem,G];rw[aL (l:=[p,q,af s.border]) r1 3 rfl,ah];have hf:aR #[(.pointer none),(.pointer none),aj,aj,aj] [(0,3,.agg #[p,q,af s.border]),(3,1,af w),(4,1,af hh)]=some #[p,q,af s.border,af w,af hh]:=rfl;rw[hf,bH,ah];refine aI (c:=#[p,q,af s.border,af w,af hh]) λb2 W r2 H n2=>?_
   exact⟨D.trans H,λ_=>⟨b2,p,q,rfl,bA D.1 n2,r2,I.ext (D.trans H),hq.ext (D.trans H)⟩,λF=>absurd ⟨trivial,trivial⟩ F⟩
  ·simp only[go_sem,G];exact⟨D,λF=>F.2.elim,λ_=>by simp⟩
 ·simp only[go_sem,L];exact⟨D,λF=>F.1.elim,λ_=>by simp⟩
structure dc where
 number:Int
 x:Int
 y:Int
 w:Int
 h:Int
 fx:Int
 fy:Int
 cx:Int
 cy:Int
 ring:Int
abbrev dO (t:dc):List Value:=[.int .i64 t.number,.int .i64 t.x,.int .i64 t.y,.int .i64 t.w,.int .i64 t.h,.int .i64 t.fx,.int .i64 t.fy,.int .i64 t.cx,.int .i64 t.cy,.int .i64 t.ring]
theorem kT (t:dc):∀v∈dO t,aV v=true:=by
 intro v A;simp only[dO,kC,JG,or_false]at A;rcases A with rfl|rfl|rfl|rfl|rfl|rfl|rfl|rfl|rfl|rfl<;>rfl
theorem ND {d:dC}(W:d.Wf){i:Int}(h0:0≤i)(h1:i<bN d):0≤kw d i∧kw d i<d.X∧0≤kQ d i∧kQ d i<d.Y:=by
 have A:=dC.bd W;have F:=W.w;have hh:=W.h;unfold fW at F hh;have h2:=pJ A.1 W.w;have h3:=pJ A.2 W.h;have hc:0<dQ d:=by
  rcases oA 0 (dQ d)with h|h
  ·exact h
  ·have h4:0≤dQ d:=h2.1;have:dQ d=0:=ae;unfold bN at h1;rw[this,Int.zero_mul]at h1;omega
 have m0:=kD i (show dQ d≠0 by omega);have m1:=iP i hc;have I:=AI h0 (show 0≤dQ d by omega);have q1:i/dQ d<dX d.Y d.h:=by
  rw[yv hc,gv];exact h1
 have key:∀(n size k:Int),0≤n→1≤size→0≤k→k<dX n size→0≤k*size∧k*size<n:=by
  intro n size k hn hs U D;refine⟨mR U ae,?_⟩;have L:k+1≤(n+size-1)/size:=D;rw[vD ae,jX,kZ]at L;omega
 have H:=key d.X d.w (i%dQ d) A.1.1 F.1 m0 m1;have G:=key d.Y d.h (i/dQ d) A.2.1 hh.1 I q1;exact⟨H.1,H.2,G.1,G.2⟩
theorem SP {Z:Nat→Prop}{h:ai}{b:Nat}{d:dC}{p q:Value}(H:uD Z h b d p q)(W:d.Wf){i:Int}(h0:0≤i)(h1:i<bN d):ag prog nU #[ptr b,af i] h λr h'=>
  r=.agg #[af (kw d i),af (kQ d i),af (vh d i),af (xL d i)]∧Ext h h':=by
 apply K4;unfold zS;have ti:=ND W h0 h1;have hb:=dC.bd W;have hw:=W.w;have hh:=W.h;unfold fW at hw hh;have h2:=pJ hb.1 W.w;have G:=pJ hb.2 W.h;have ad:0≤dQ d∧dQ d≤65536:=⟨h2.1,h2.2.1⟩
 have al:=kz (a:=dQ d) (A:=65536) (b:=dX d.Y d.h) (B:=65536) h2.1 h2.2.1 G.1 G.2.1;have aa:bN d=dQ d*dX d.Y d.h:=rfl;have hc:0<dQ d:=by
  rcases oA 0 (dQ d)with h|h
  ·exact h
  ·have:dQ d=0:=ae;rw[aa,this,Int.zero_mul]at h1;omega
 have hq:=ue (a:=i) (b:=dQ d) (L:=0) (U:=4294967296) ae ae ae ae ae;refine aI λb1 I r1 e1 n1=>?_
 have F:=H.ext e1;simp only[go_sem,aO];refine aQ (λh'=>h'=I) rfl ?_;refine aF (af d.w) (λh' e=>by rw[e];exact ao F.row) ?_;refine aF (af d.h) (λh' e=>by rw[e];exact ao F.row) ?_;refine(Lq F W).mono λr G ⟨e,D⟩=>?_
 have D:=D.symm;subst e D;refine⟨rfl,?_⟩;rw[dS _ _ _ _ ae,ah,jY h0];simp only[go_sem];refine(Lq F W).mono λr G ⟨e,D⟩=>?_
 have D:=D.symm;subst e D;refine⟨rfl,?_⟩;rw[nD _ _ _ _ ae,ah,yt h0];simp only[go_sem];have ex:i%dQ d*d.w=kw d i:=rfl;have ey:i/dQ d*d.h=kQ d i:=rfl;rw[w64 (n:=i/dQ d) ae ae,ex,ey,w64 (n:=kw d i) ae ae,w64 (n:=kQ d i) ae ae];refine aQ (λh'=>h'=I) rfl ?_;simp only[go_sem,aO];refine aF (af d.w) (λh' e=>by rw[e];exact ao F.row) ?_;refine aF p (λh' e=>by rw[e];exact ao F.row) ?_;refine aF (af d.h) (λh' e=>by rw[e];exact ao F.row) ?_;refine aF q (λh' e=>by rw[e];exact ao F.row) ?_;refine(Fp F.x).mono λr G ⟨e,D⟩=>?_
 have D:=D.symm;subst e D;refine⟨rfl,?_⟩;simp only[go_sem];have eX:(d.s.x.lines.length:Int)=d.X:=rfl;have eY:(d.s.y.lines.length:Int)=d.Y:=rfl;rw[eX,w64 (n:=d.X-kw d i) ae ae];refine aF (af (min d.w (d.X-kw d i))) (λh' e=>by first|exact Ph _ _ _|rfl) ?_;refine(Fp F.y).mono λr G ⟨e,D⟩=>?_
 have D:=D.symm;subst e D;refine⟨rfl,?_⟩;simp only[go_sem];rw[eY,w64 (n:=d.Y-kQ d i) ae ae];refine aF (af (min d.h (d.Y-kQ d i))) (λh' e=>by first|exact Ph _ _ _|rfl) ?_;have hf:aR #[aj,aj,aj,aj] [(0,1,af (kw d i)),(1,1,af (kQ d i)),(2,1,af (min d.w (d.X-kw d i))),(3,1,af (min d.h (d.Y-kQ d i)))]=some #[af (kw d i),af (kQ d i),af (vh d i),af (xL d i)]:=rfl;rw[hf,bH,ah];refine bI (l:=[af (kw d i),af (kQ d i),af (vh d i),af (xL d i)]) r1 rfl (az rfl (az rfl (az rfl (az rfl aU)))) rfl λh5 r5 u5=>?_
 rw[aL r5 4 rfl,ah];exact⟨rfl,e1.upd n1 u5⟩
theorem za0 (a b c d e f:Int):aR #[aj,aj,aj,aj,aj,aj,aj,aj,aj,aj] [(0,1,af a),(1,4,.agg #[af b,af c,af d,af e]),(9,1,af f)]=some (dO ⟨a,b,c,d,e,0,0,0,0,f⟩).toArray:=by
 refine(cn (n:=1) (l:=[af a]) rfl rfl (by simp)).trans ?_;refine(cn (n:=4) (l:=[af b,af c,af d,af e]) rfl rfl (by simp[cN])).trans ?_;refine(cn (n:=1) (l:=[af f]) rfl rfl (by simp[cN])).trans ?_;rw[ii];simp[wrL,dO]
def aS (d:dC)(i:Int):dc:=
 ⟨i,kw d i,kQ d i,vh d i,xL d i,(yO d.s.x (kw d i) (kw d i+vh d i)).1,(yO d.s.y (kQ d i) (kQ d i+xL d i)).1,
  (yO d.s.x (kw d i) (kw d i+vh d i)).2,(yO d.s.y (kQ d i) (kQ d i+xL d i)).2,bT d.s.y.lines⟩
theorem xt {Z:Nat→Prop}{h:ai}{b:Nat}{d:dC}{p q:Value}(H:uD Z h b d p q)(W:d.Wf){i:Int}(h0:0≤i)(h1:i<bN d):ag prog gC #[ptr b,af i] h λr h'=>
  r=.tuple #[.agg (dO (aS d i)).toArray,.bool true]∧Ext h h':=by
 apply Jw;unfold yj;have ti:=ND W h0 h1;have hb:=dC.bd W;have hw:=W.w;have hh:=W.h;unfold fW at hw hh;refine aI λb1 h2 r1 e1 n1=>?_
 have G:=H.ext e1;have hi:(i<0)=False:=gk ae;simp only[go_sem,hi];refine(ET G W).mono λr h3 ⟨e,F⟩=>?_
 have F:=F.symm;subst e F;simp only[go_sem];rw[b9 ae,cg];have an:=aW r1;refine bB (λxs h'=>∃U,xs=[ptr U]∧Ext h2 h'∧h2.size≤U∧h'[U]? =some (.cells (dO ⟨i,kw d i,kQ d i,vh d i,xL d i,0,0,0,0,bT d.s.y.lines⟩).toArray 116 (0,0))) ?_ ?_
 ·simp only[go_sem,aO];refine aQ (Ext h2) (Ext.refl _) ?_;refine aF q (λh' e=>ao (e.row G.row)) ?_;have hf:aR #[aj,aj,aj,aj,aj,aj,aj,aj,aj,aj] [(0,1,af i),(1,4,.agg #[af (kw d i),af (kQ d i),af (vh d i),af (xL d i)]),(9,1,af (bT d.s.y.lines))]=some (dO ⟨i,kw d i,kQ d i,vh d i,xL d i,0,0,0,0,bT d.s.y.lines⟩).toArray:=za0 _ _ _ _ _ _;refine⟨?_,?_⟩
  ·refine(SP G W h0 h1).mono λr h3 ⟨e,D⟩=>?_
   subst e;refine⟨D,?_,?_⟩
   ·refine(U3 (G.y.ext D)).mono λr h4 ⟨e,F⟩=>?_
    have F:=F.symm;subst e F;refine⟨D,?_⟩;rw[hf,bH,ah];refine aI λb4 h4 r4 A n4=>⟨D.trans A,?_⟩
    have I:=bA D.1 n4;refine bI (l:=dO _) r4 rfl (kT _) rfl λh5 r5 u5=>?_
    have E:=(D.trans A).upd I u5;exact⟨E,b4,rfl,E,I,r5⟩
   ·refine aI λb4 h4 r4 A n4=>⟨D.trans A,?_⟩
    have I:=bA D.1 n4;refine(U3 (G.y.ext (D.trans A))).mono λr h5 ⟨e,F⟩=>?_
    have F:=F.symm;subst e F;refine⟨D.trans A,?_⟩;rw[hf,bH,ah];refine bI (l:=dO _) r4 rfl (kT _) rfl λh5 r5 u5=>?_
    have E:=(D.trans A).upd I u5;exact⟨E,b4,rfl,E,I,r5⟩
  ·refine aI λb4 h4 r4 A n4=>⟨A,?_⟩
   refine(SP (G.ext A) W h0 h1).mono λr h3 ⟨e,D⟩=>?_
   subst e;refine⟨A.trans D,?_⟩;refine(U3 (G.y.ext (A.trans D))).mono λr h5 ⟨e,F⟩=>?_
   have F:=F.symm;subst e F;refine⟨A.trans D,?_⟩;rw[hf,bH,ah];refine bI (l:=dO _) (D.row r4) rfl (kT _) rfl λh5 r5 u5=>?_
   have E:=(A.trans D).upd n4 u5;exact⟨E,b4,rfl,E,n4,r5⟩
 rintro xs ρj h3 ⟨U,rfl,E3,L,r3⟩;have H3:=G.ext E3;have au:=G.row;have al:b≠U:=by have:=aW G.row;omega
 have am:b1≠U:=ae;have ax:0≤kw d i+vh d i∧kw d i+vh d i≤65536:=by unfold vh;omega
 have ar:0≤kQ d i+xL d i∧kQ d i+xL d i≤65536:=by unfold xL;omega
 refine aQ (λh'=>h'=h3) rfl ?_;simp only[go_sem,aO];refine aF p (λh' e=>by rw[e];exact ao H3.row) ?_;refine aF (af (kw d i)) (λh' e=>by rw[e];exact ao r3) ?_;refine aF (af (kw d i)) (λh' e=>by rw[e];exact ao r3) ?_;refine aF (af (vh d i)) (λh' e=>by rw[e];exact ao r3) ?_;simp only[go_sem];rw[w64 ae ae];refine(UZ H3.x W.s.x (by unfold I64;omega) (by unfold I64;omega)).mono λr h4 ⟨e,A⟩=>?_
 subst e;simp only[go_sem,aO];refine bG (A.row r3) (by simp) rfl λh5 r5 u5=>?_
 refine bG r5 (by simp) rfl λh6 r6 u6=>?_
 have E6:Ext h2 h6:=((E3.trans A).upd L u5).upd L u6;have H6:=G.ext E6;have r6:h6[U]? =some (.cells (dO ⟨i,kw d i,kQ d i,vh d i,xL d i,(yO d.s.x (kw d i) (kw d i+vh d i)).1,0,(yO d.s.x (kw d i) (kw d i+vh d i)).2,0,bT d.s.y.lines⟩).toArray 116 (0,0)):=r6;refine aQ (λh'=>h'=h6) rfl ?_
 try simp only[go_sem,aO]
 refine aF q (λh' e=>by rw[e];exact ao H6.row) ?_;refine aF (af (kQ d i)) (λh' e=>by rw[e];exact ao r6) ?_;refine aF (af (kQ d i)) (λh' e=>by rw[e];exact ao r6) ?_;refine aF (af (xL d i)) (λh' e=>by rw[e];exact ao r6) ?_;simp only[go_sem];rw[w64 ae ae];refine(UZ H6.y W.s.y (by unfold I64;omega) (by unfold I64;omega)).mono λr h7 ⟨e,e7⟩=>?_
 subst e;simp only[go_sem,aO];refine bG (e7.row r6) (by simp) rfl λh8 r8 u8=>?_
 refine bG r8 (by simp) rfl λh9 r9 u9=>?_
 have E9:Ext h2 h9:=((E6.trans e7).upd L u8).upd L u9;have r9:h9[U]? =some (.cells (dO (aS d i)).toArray 116 (0,0)):=r9;rw[aL r9 10 rfl,ah];refine bI (l:=dO (aS d i)) (E9.row r1) rfl (kT _) rfl λay aa ad=>?_
 rw[aL aa 10 rfl,ah];exact⟨rfl,(e1.trans E9).upd n1 ad⟩
def Oo:OpD:=⟨3,0,0,0,[],[],0,5,3⟩
theorem YE {h:ai}(G:fC h):ag prog zo #[] h λr h'=>r=.bool true∧Ext h h':=by
 apply OS;unfold CM;have hf:(aR #[aj,aj,aj,aj,(.slice none 0 0),(.slice none 0 0),aj,aj,aj] [(0,1,(af 3)),(7,1,(af 5)),(8,1,(af 3)),(6,1,aj)])=some #[af 3,aj,aj,aj,.slice none 0 0,.slice none 0 0,aj,af 5,af 3]:=rfl;rw[hf,bH,ah];have wf:Oo.Wf:=C7 (by simp[I64]);refine(Lr (Z:=λ_=>True) (o:=Oo) G C8 wf (by simp[Oo]) (by simp[Oo]) (by unfold I64;omega) (by unfold I64;omega)).mono λw h1 ⟨sv,e,e1,_,s1⟩=>?_
 subst e;have a1:fJ Oo 9 9=0:=by decide+kernel
 have HS:=s1 a1;rw[a1];obtain⟨p,q,rfl,hp,hq,D⟩:=jQ HS;simp only[go_sem];refine cX (cs:=[p,q,af _]) rfl D rfl λb2 h2 r2 U n2=>?_
 refine(Qf (G.ext (e1.trans U))).mono λr h3 ⟨e,I⟩=>?_
 subst e;have z0:((0:Int)=0)=True:=jZ rfl;simp only[go_sem,z0,gM];rw[aL (l:=[p,q,af _]) (I.row r2) 3 rfl,ah];refine(SQ (HS.ext (U.trans I))).mono λr h4 ⟨e4,hy,_⟩=>?_
 obtain⟨b4,p4,q4,e,aa,P⟩:=hy ⟨by decide,by decide⟩;subst e;have np:ak .p .eql (ptr b4) (.pointer none)=some (.bool false):=rfl;simp only[go_sem,z0,np,gM];have PW:dC.Wf ⟨cB Oo 9 9,2,2⟩:=⟨(Ac a1).1,by decide,by decide⟩
 have A:bN ⟨cB Oo 9 9,2,2⟩=6:=by decide+kernel
 refine(xt P PW (i:=5) ae (by rw[A];omega)).mono λr h5 ⟨e,e5⟩=>?_
 subst e;simp only[go_sem];refine cX (cs:=dO _) rfl (kT _) rfl λb6 h6 r6 e6 n6=>?_
 refine(ET (P.ext (e5.trans e6)) PW).mono λr h7 ⟨e,L⟩=>?_
 have L:=L.symm;subst e L;rw[A];have t1:kw ⟨cB Oo 9 9,2,2⟩ 5=4:=by decide+kernel
 have t2:kQ ⟨cB Oo 9 9,2,2⟩ 5=2:=by decide+kernel
 have t3:vh ⟨cB Oo 9 9,2,2⟩ 5=1:=by decide+kernel
 have t4:xL ⟨cB Oo 9 9,2,2⟩ 5=1:=by decide+kernel
 have W:aM 4 h6 (.pointer (some ⟨b6,1,none⟩))=some (.agg #[af 4,af 2,aJ,aJ]):=by
  refine Kg [af 4,af 2,aJ,aJ] 4 rfl λj hj=>?_
  rw[ao r6]
  match j,hj with
  |0,_=>exact congrArg (λn=>some (af n)) t1
  |1,_=>exact congrArg (λn=>some (af n)) t2
  |2,_=>exact congrArg (λn=>some (af n)) t3
  |3,_=>exact congrArg (λn=>some (af n)) t4
 have H:aR #[aj,aj,aj,aj] [(0,1,(af 4)),(1,1,(af 2)),(2,1,aJ),(3,1,aJ)]=some #[af 4,af 2,aJ,aJ]:=rfl;have F:ak (.st [(0,1,.i),(1,1,.i),(2,1,.i),(3,1,.i)]) .eql (.agg #[af 4,af 2,aJ,aJ]) (.agg #[af 4,af 2,aJ,aJ])=some (.bool true):=rfl;simp only[go_sem,lU,gM,aO,W,H,bH,F];exact⟨by simp,e1.trans (U.trans (I.trans (e4.trans (e5.trans e6))))⟩
end Go.Proofs.YtjljhnandbbldaaGreatDoor
namespace Go.Crisp
open Go Go.MapKept
section
section
variable {α:Type}
def gm (j:Int):List (Int×α)→Option α
 | []=>none
 |(k,v)::r=>if k=j then some v else gm j r
def Wr (j:Int)(v:α):List (Int×α)→List (Int×α)
 | []=>[(j,v)]
 |(k,u)::r=>if k=j then(j,v)::r else(k,u)::Wr j v r
def qQ (j:Int):List (Int×α)→List (Int×α)
 | []=>[]
 |(k,u)::r=>if k=j then r else(k,u)::qQ j r
def Dv (j:Int):List (Int×α)→Nat→Option (Nat×α)
 | [],_=>none
 |(k,v)::r,i=>if k=j then some (i,v)else Dv j r (i+1)
def rL {β:Type}(f:α→β)(l:List (Int×α)):List (Int×β):=l.map λp=>(p.1,f p.2)
theorem Af {β:Type}(f:α→β)(l:List (Int×α)):(rL f l).map Prod.fst=l.map Prod.fst:=by simp[rL,AZ,ZI]
theorem ud {β:Type}(f:α→β)(j:Int):∀l:List (Int×α),gm j (rL f l)=(gm j l).map f
 | []=>rfl
 |(k,v)::r=>by
  have A:=ud f j r;unfold rL at A ⊢;simp only[yV,gm];split
  ·rfl
  ·exact A
theorem Pz {β:Type}(f:α→β)(j:Int):∀l:List (Int×α),qQ j (rL f l)=rL f (qQ j l)
 | []=>rfl
 |(k,v)::r=>by
  have A:=Pz f j r;unfold rL at A ⊢;simp only[yV,qQ];split
  ·rfl
  ·simp[A]
end
def Hz (es:List MapEntry)(kv:List (Int×Value)):Prop:=es.map (λe=>(e.key,e.val))=kv.map λp=>(Value.int .i64 p.1,p.2)
def vS (h:ai)(b:Nat)(kv:List (Int×Value)):Prop:=∃es c,h[b]? =some (.map es c)∧Stamped es c∧Hz es.toList kv
theorem Hz.length {A:List MapEntry}{kv:List (Int×Value)}(H:Hz A kv):A.length=kv.length:=by
 have:=congrArg List.length H;simpa using this
theorem vS.nodup {h:ai}{b:Nat}{kv:List (Int×Value)}(H:vS h b kv):(kv.map Prod.fst).Nodup:=by
 obtain⟨F,c,_,G,D⟩:=H;have h1:F.toList.map (·.key)=(kv.map Prod.fst).map (Value.int .i64):=by
  have:=congrArg (List.map Prod.fst) D;simpa[AZ,ZI]using this
 have A:=G.2.2;rw[h1]at A;unfold List.Nodup at A ⊢;rw[List.pairwise_map]at A;exact A.imp λh e=>h (by rw[e])
theorem vS.row {h h':ai}{b:Nat}{kv:List (Int×Value)}(H:vS h b kv)(r:h'[b]? =h[b]?):vS h' b kv:=by
 obtain⟨D,c,h1,A⟩:=H;exact⟨D,c,r.trans h1,A⟩
theorem vS.lt {h:ai}{b:Nat}{kv:List (Int×Value)}(H:vS h b kv):b<h.size:=by
 obtain⟨A,c,h1,_⟩:=H;exact aW h1
theorem vS.fr {M:Nat→Prop}{h h':ai}{b:Nat}{kv:List (Int×Value)}(H:vS h b kv)(f:Fr M h h')(A:¬M b):vS h' b kv:=H.row (f.2 b H.lt A)
theorem vS.ext {h h':ai}{b:Nat}{kv:List (Int×Value)}(H:vS h b kv)(e:Ext h h'):vS h' b kv:=H.row (e.2 b H.lt)
theorem Kq (j:Int):∀(A:List MapEntry) (kv:List (Int×Value)) (i:Nat),Hz A kv→Instr.findNow (.int .i64) (af j) A i=some (Dv j kv i)
 | [],kv,i,H=>by
  have:kv=[]:=lg (by rw[←Hz.length H];rfl);subst this;rfl
 |e::A,[],i,H=>by have:=Hz.length H;simp at this
 | e::A,(k,v)::kv,i,H=>by
  unfold Hz at H;simp only[yV,List.cons.injEq,zd1]at H;obtain⟨⟨h1,G⟩,H⟩:=H;unfold Instr.findNow Dv;rw[h1];have I:Instr.sameNow (.int .i64) (af j) (af k)=some (j==k):=by simp[Instr.sameNow]
  rw[I];by_cases D:k=j
  ·subst D;simp[G]
  ·have F:(j==k)=false:=by simp;exact λh=>D h.symm
   rw[F,aA D];exact Kq j A kv (i+1) H
theorem Lf {α:Type}(j:Int):∀(kv:List (Int×α)) (i:Nat),(Dv j kv i).map Prod.snd=gm j kv
 | [],_=>rfl
 |(k,v)::r,i=>by
  unfold Dv gm;split
  ·rfl
  ·exact Lf j r (i+1)
theorem rM {α:Type}{j:Int}:∀{kv:List (Int×α)},gm j kv=none↔j∉kv.map Prod.fst
 | []=>by simp[gm]
 |(k,v)::r=>by
  unfold gm;by_cases A:k=j
  ·simp[A]
  ·simp[A,rM (kv:=r),ie A]
theorem Px {α:Type}{j:Int}{kv:List (Int×α)}{i:Nat}(h:Dv j kv i=none):gm j kv=none:=by
 rw[←Lf j kv i,h];rfl
theorem Hl {α:Type}{j:Int}:∀{kv:List (Int×α)} {i m:Nat} {v:α},Dv j kv i=some (m,v)→i≤m∧kv[m-i]? =some (j,v)∧(∀u,Wr j u kv=kv.set (m-i) (j,u))∧qQ j kv=kv.eraseIdx (m-i)
 | [],_,_,_,h=>by cases h
 | (k,v)::r,i,m,u,h=>by
  unfold Dv at h;split at h
  ·rename_i A;cases h;subst A;simp[Wr,qQ]
  ·rename_i A;obtain⟨h1,F,G,H⟩:=Hl h;have D:m-i=(m-(i+1))+1:=ae;refine⟨ae,?_,λu=>?_,?_⟩
   ·rw[D];simpa using F
   ·rw[D];simp[Wr,A,G u]
   ·rw[D];simp[qQ,A,H]
theorem Lg {α:Type}{j:Int}{v:α}:∀{kv:List (Int×α)},gm j kv=some v→kv.Perm ((j,v)::qQ j kv)
 | (k,u)::r,h=>by
  unfold gm at h;unfold qQ;split at h
  ·rename_i A;cases h;subst A;rw[aB rfl]
  ·rename_i A;rw[aA A];exact((Lg h).cons (k,u)).trans (List.Perm.swap ..)
theorem Pw {α:Type}{j:Int}{v:α}:∀{kv:List (Int×α)},gm j kv=some v→(j,v)∈kv
 | (k,u)::r,h=>by
  unfold gm at h;split at h
  ·rename_i A;cases h;subst A;exact Kb ..
  ·exact xh _ (Pw h)
theorem L9 {α:Type}{j:Int}{v:α}:∀{kv:List (Int×α)},(kv.map Prod.fst).Nodup→(j,v)∈kv→gm j kv=some v
 | (k,u)::r,hn,h=>by
  unfold gm;rw[yV,List.nodup_cons]at hn;rcases kC.1 h with h|h
  ·cases h;rw[aB rfl]
  ·rw[aA]
   ·exact L9 hn.2 h
   ·rintro rfl;exact hn.1 (gQ.2 ⟨_,h,rfl⟩)
theorem Ki {α:Type}{j i:Int}:∀{kv:List (Int×α)},(kv.map Prod.fst).Nodup→gm i (qQ j kv)=if i=j then none else gm i kv
 | [],_=>by simp[qQ,gm]
 | (k,u)::r,hn=>by
  rw[yV,List.nodup_cons]at hn;unfold qQ;by_cases D:k=j
  ·subst D;rw[aB rfl];by_cases hi:i=k
   ·subst hi;rw[aB rfl];exact rM.2 hn.1
   ·rw[aA hi,gm,aA (ie hi)]
  ·rw[aA D];unfold gm;by_cases A:k=i
   ·subst A;rw[aB rfl,aA D,aB rfl]
   ·rw[aA A,aA A];exact Ki hn.2
theorem Py {α:Type}{j:Int}:∀{kv:List (Int×α)},(qQ j kv).Sublist kv
 | []=>List.Sublist.refl _
 |(k,u)::r=>by
  unfold qQ;split
  ·exact List.sublist_cons_self ..
  ·exact Py.cons_cons _
def Wi (ok:Bool)(z:Value):Option Value→Value
 |some v=>bif ok then .tuple #[v,.bool true]else v
 |none=>bif ok then .tuple #[z,.bool false]else z
theorem Po {h:ai}{b:Nat}{kv:List (Int×Value)}(H:vS h b kv)(z:Value)(ok:Bool)(j:Int):L5 (.int .i64) z ok h (.map (some b)) (af j)=some (Wi ok z (gm j kv)):=by
 obtain⟨A,c,G,_,D⟩:=H;have F:We h (.map (some b))=some (A,c):=by unfold We;simp[G]
 unfold L5;simp only[F,Kq j A.toList kv 0 D];rw[←Lf j kv 0];cases Dv j kv 0 with
 |none=>rfl
 |some p=>rfl
theorem UG {h:ai}{b:Nat}{kv:List (Int×Value)}(H:vS h b kv):Sj h (.map (some b))=some (af (kv.length:Nat)):=by
 obtain⟨F,c,D,_,A⟩:=H;unfold Sj;simp only[D];rw[←A.length,Ke]
theorem Pv {α:Type}{j:Int}{v:α}:∀{kv:List (Int×α)},gm j kv=none→Wr j v kv=kv++[(j,v)]
 | [],_=>rfl
 | (k,u)::r,h=>by
  unfold gm at h;split at h
  ·cases h
  ·rename_i A;simp[Wr,A,Pv h]
theorem So {α:Type}{j:Int}:∀{kv:List (Int×α)},gm j kv=none→qQ j kv=kv
 | [],_=>rfl
 | (k,u)::r,h=>by
  unfold gm at h;split at h
  ·cases h
  ·rename_i A;simp[qQ,A,So h]
theorem zdO {h:ai}{b:Nat}{kv:List (Int×Value)}{j:Int}{v:Value}{K:Value→ai→Prop}(H:vS h b kv)(HK:∀h',vS h' b (Wr j v kv)→Upd b h h'→K undef h'):
  vu (.int .i64) (.map (some b)) (af j) v h K:=by
 obtain⟨es,c,hb,hs,D⟩:=H;unfold vu;simp only[hb,Kq j es.toList kv 0 D];cases hf:Dv j kv 0 with
 | none=>
  have hg:=Px hf;simp only;refine HK _ ⟨_,_,lD hb,stamped_push hs λx U aa=>?_,?_⟩ Upd.set
  ·have h1:j∈kv.map Prod.fst:=by
    have:(x.key,x.val)∈kv.map λp=>(af p.1,p.2):=by rw[←D];exact gQ.2 ⟨x,U,rfl⟩
    obtain⟨p,hp,I⟩:=gQ.1 this;rw[aa]at I;have G:=congrArg Prod.fst I;simp at G;exact gQ.2 ⟨p,hp,G⟩
   exact rM.1 hg h1
  ·unfold Hz at D ⊢;rw[Pv hg,Array.toList_push,jW,D,jW];rfl
 | some p=>
  obtain⟨i,u⟩:=p;obtain⟨_,G,h3,_⟩:=Hl hf;rw[AN]at G h3;have hi:i<kv.length:=(M7.1 G).1;have A:i<es.size:=by rw[←Ke,D.length];exact hi
  have F:es[i].key=af j:=by
   have h4:=congrArg (λl=>(l[i]?).map Prod.fst) D;simp only[vH,G,cU,vJ,oG A]at h4;exact oE h4
  simp only;refine⟨?_,HK _ ⟨_,_,lD hb,stamped_modify hs i _ (λe _=>rfl) (λe _ U=>?_),?_⟩ Upd.set⟩
  ·rw[oG A];simp only[cU,Option.getD_some,F];simp[Instr.sameBits]
  ·rw[oG A]at U;cases U;exact F.symm
  ·rw[h3];unfold Hz at D ⊢;apply List.ext_getElem?;intro m;have L:=congrArg (λl=>l[m]?) D;simp only[vH,vJ]at L ⊢;rw[Nm,List.getElem?_set];by_cases W:i=m
   ·subst W;rw[aB rfl,aB rfl,aB hi,oG A];rfl
   ·rw[aA W,aA W];exact L
theorem K8 {α β:Type}(f:α→β):∀(l:List α) (i:Nat),(l.eraseIdx i).map f=(l.map f).eraseIdx i
 | [],_=>rfl
 |a::l,0=>rfl
 |a::l,i+1=>by simp[K8 f l i]
theorem Hz.key {F:List MapEntry}{kv:List (Int×Value)}(H:Hz F kv){e:MapEntry}(I:e∈F):∃j,e.key=af j∧(j,e.val)∈kv:=by
 have:(e.key,e.val)∈kv.map λp=>(af p.1,p.2):=by rw[←H];exact gQ.2 ⟨e,I,rfl⟩
 obtain⟨p,G,A⟩:=gQ.1 this;have h1:=congrArg Prod.fst A;have D:=congrArg Prod.snd A;simp only at h1 D;exact⟨p.1,h1.symm,by rw[←D];exact G⟩
theorem zcJ {h:ai}{b:Nat}{kv:List (Int×Value)}{j:Int}{K:Value→ai→Prop}(H:vS h b kv)
  (HK:∀h',vS h' b (qQ j kv)→Upd b h h'→(∀D c,h[b]? =some (.map D c)→∃A,h'[b]? =some (.map A c)∧∀e∈A,e∈D∧e.key≠af j)→K (.tuple #[]) h'):
  pP (.int .i64) (.map (some b)) (af j) h K:=by
 have H0:=H;have ad:=H.nodup;obtain⟨D,c,G,hs,I⟩:=H;have sub:∃h',vS h' b (qQ j kv)∧Upd b h h'∧(∃A,h'[b]? =some (.map A c)∧(∀e∈A,e∈D)∧Hz A.toList (qQ j kv))∧∀K:Value→ai→Prop,K (.tuple #[]) h'→pP (.int .i64) (.map (some b)) (af j) h K:=by
  cases hf:Dv j kv 0 with
  |none=>
   have W:Hz D.toList (qQ j kv):=by rw[So (Px hf)];exact I
   refine⟨_,⟨D,c,lD G,hs,W⟩,Upd.set,⟨D,lD G,λe h=>h,W⟩,λK L=>?_⟩;unfold pP;simp only[G,Kq j D.toList kv 0 I,hf];exact L
  | some p=>
   obtain⟨i,u⟩:=p;obtain⟨_,h2,_,h4⟩:=Hl hf;rw[AN]at h2 h4;have hi:i<kv.length:=(M7.1 h2).1;have F:i<D.size:=by rw[←Ke,I.length];exact hi
   have W:Hz (D.eraseIdxIfInBounds i).toList (qQ j kv):=by
    rw[h4];unfold Hz at I ⊢;rw[Array.eraseIdxIfInBounds,JP F];have:(D.eraseIdx i F).toList=D.toList.eraseIdx i:=by simp
    rw[this,K8,I,←K8]
   refine⟨_,⟨_,_,lD G,stamped_erase hs i,W⟩,Upd.set,⟨_,lD G,λe h=>?_,W⟩,λK L=>?_⟩
   ·rw[Array.eraseIdxIfInBounds,JP F,←T9,Array.toList_eraseIdx]at h;rw[←T9];exact(List.eraseIdx_sublist ..).subset h
   ·unfold pP;simp only[G,Kq j D.toList kv 0 I,hf];exact L
 obtain⟨h',m',u',⟨A,al,U,am⟩,L⟩:=sub;refine L K (HK h' m' u' λan c0 h0=>?_);rw[G]at h0;cases h0;refine⟨A,al,λe h=>⟨U e h,λaa=>?_⟩⟩;obtain⟨i,hi,hm⟩:=am.key (T9.2 h);rw[aa]at hi;cases hi;have h1:=L9 m'.nodup hm;rw[Ki ad,aB rfl]at h1;cases h1
theorem zdU {h:ai}{K:Value→ai→Prop}(A:∀b h',vS h' b []→Ext h h'→h.size≤b→K (.map (some b)) h'):Zb h K:=
 A h.size _ ⟨#[],0,tN,stamped_empty 0,rfl⟩ (Ext.push h _) (ck _)
end
end Go.Crisp
namespace Go.Proofs.YtjljhnandbbldaaGreatDoor
open Go Go.Crisp
open _root_.Go.Proofs.Tryz
def Jf:Go.Shelf.Ren:=⟨λn=>match n with|8=>290|11=>305|n=>n,λn=>match n with|0=>0|24=>28|26=>2|28=>368|33=>332|n=>n,λn=>n⟩
theorem RM:Go.Proofs.SlLaysZI.n8 prog Jf where
 mixed:=by kernel_rfl
 f8:=⟨"slices.Collect[int64]",by kernel_rfl,by kernel_rfl⟩
 f11:=⟨"slices.AppendSeq[[]int64,int64]",by kernel_rfl,by kernel_rfl⟩
 t0:=by kernel_rfl
 a0:=λw=>cG (by kernel_rfl)
 z0:=λw=>bJ (by kernel_rfl)
 v0:=λw=>bD (by kernel_rfl)
 t24:=by kernel_rfl
 a24:=λw=>cG (by kernel_rfl)
 z24:=λw=>bJ (by kernel_rfl)
 v24:=λw=>bD (by kernel_rfl)
 t26:=by kernel_rfl
 a26:=λw=>cG (by kernel_rfl)
 z26:=λw=>bJ (by kernel_rfl)
 v26:=λw=>bD (by kernel_rfl)
 t28:=by kernel_rfl
 a28:=λw=>cG (by kernel_rfl)
 z28:=λw=>bJ (by kernel_rfl)
 v28:=λw=>bD (by kernel_rfl)
 i26:=by kernel_rfl
def C6:Go.Shelf.Ren:=⟨λn=>match n with|10=>306|n=>n,λn=>match n with|0=>0|3=>28|4=>4|23=>284|26=>2|33=>332|n=>n,λn=>n⟩
theorem Ps:Go.Proofs.SlLaysZI.n10 prog C6 where
 mixed:=by kernel_rfl
 f10:=⟨"maps.Keys[map[int64][]int64,int64,[]int64]$1",by kernel_rfl,by kernel_rfl⟩
 t0:=by kernel_rfl
 a0:=λw=>cG (by kernel_rfl)
 z0:=λw=>bJ (by kernel_rfl)
 v0:=λw=>bD (by kernel_rfl)
 t4:=by kernel_rfl
 a4:=λw=>cG (by kernel_rfl)
 z4:=λw=>bJ (by kernel_rfl)
 v4:=λw=>bD (by kernel_rfl)
 t23:=by kernel_rfl
 a23:=λw=>cG (by kernel_rfl)
 z23:=λw=>bJ (by kernel_rfl)
 v23:=λw=>bD (by kernel_rfl)
 t26:=by kernel_rfl
 a26:=λw=>cG (by kernel_rfl)
 z26:=λw=>bJ (by kernel_rfl)
 v26:=λw=>bD (by kernel_rfl)
 t33:=by kernel_rfl
 a33:=λw=>cG (by kernel_rfl)
 z33:=λw=>bJ (by kernel_rfl)
 v33:=λw=>bD (by kernel_rfl)
def vi (x:Int):Value:=.int .i64 x
def jN (h:ai)(v:Value)(l:List Int):Prop:=
 ∃a cap,v=.slice a l.length cap∧(l=[]∨∃b o,a=some ⟨b,o,none⟩∧∀i (hi:i<l.length),aE h ⟨b,o+i,none⟩=some (vi l[i]))
theorem jN.ext {h h':ai}{v:Value}{l:List Int}(H:jN h v l)(e:Ext h h'):jN h' v l:=by
 obtain⟨a,cap,rfl,A⟩:=H;refine⟨a,cap,rfl,A.imp id ?_⟩;rintro⟨b,o,rfl,hc⟩;exact⟨b,o,rfl,λi hi=>e.cell (hc i hi)⟩
def Lv (a b:List Int):Bool:=decide (a.length=b.length)&&(a.zip b).all λp=>decide (p.1≤p.2)
theorem Qw {a b:List Int}(h:a.length=b.length):Lv a b=true↔ ∀i (hi:i<a.length),a[i]≤b[i]'(h▸hi):=by
 simp only[Lv,h,gM,JX,EI,dH];constructor
 ·intro H i hi;have:=H (a[i],b[i]'(h▸hi)) (by rw[pQ];exact⟨i,by simp;omega,by simp⟩);exact this
 ·intro H p A;obtain⟨i,hi,rfl⟩:=pQ.1 A;simp only[List.length_zip]at hi;simpa using H i ae
theorem zeD {h:ai}{a b:Value}{D lb:List Int}(ha:jN h a D)(hb:jN h b lb)(hn:D.length≤9223372036854775807):
  ag prog zD #[a,b] h λv h'=>v=.bool (Lv D lb)∧h'=h:=by
 apply O9;unfold CW;obtain⟨A,ca,rfl,W⟩:=ha;obtain⟨B,cb,rfl,hB⟩:=hb;simp only[EM,ah,me];refine iQ (λU=>?_) (λhe=>?_)
 ·refine⟨?_,trivial⟩;have:¬D.length=lb.length:=by simp at U;omega
  simp[Lv,this]
 ·have L:D.length=lb.length:=by simp at he;omega
  refine dy (λd xs h'=>h'=h∧∃k:Nat,k+d=D.length∧xs=[af k]∧∀i (hi:i<k) (h1:i<D.length),D[i]≤lb[i]'(L▸h1)) D.length ⟨rfl,0,ae,rfl,λi hi=>ae⟩ ?_;rintro d _ ρj _ again ⟨rfl,k,hk,rfl,G⟩ aa;simp only[iq,cI,ah];refine aq (λan=>?_) (λam=>?_)
  ·have F:k<D.length:=ae;have H:k<lb.length:=ae;rcases W with rfl|⟨b1,o1,rfl,W⟩
   ·simp at F
   rcases hB with rfl|⟨b2,o2,rfl,hB⟩
   ·simp at H
   simp only[ma F,ma H,ah,dn,lW,W k F,hB k H,vi,xv];refine aq (λal=>?_) (λad=>?_)
   ·refine⟨?_,trivial⟩
    congr 1
    rw[Eu,J0];intro I;have:=(Qw L).1 I k F;omega
   ·simp only[dD,ah];rw[w64 ae ae];refine aa _ _ (d-1) ae ⟨rfl,k+1,ae,rfl,λi hi h1=>?_⟩;rcases T8.1 hi with hi|rfl
    ·exact G i hi h1
    ·omega
  ·refine⟨?_,trivial⟩
   congr 1
   rw[Eu,Qw L];intro i hi;exact G i ae hi
theorem Ns {a b:List Int}(h:a.length=b.length):a=b↔ ∀i (hi:i<a.length),a[i]=b[i]'(h▸hi):=
 ⟨λe i hi=>by subst e;rfl,λH=>pU h λi h1 A=>H i h1⟩
theorem za7 {h:ai}{a b:Value}{D lb:List Int}(ha:jN h a D)(hb:jN h b lb)(hn:D.length≤9223372036854775807):
  ag prog gA #[a,b] h λv h'=>v=.bool (decide (D=lb))∧h'=h:=by
 apply qO;unfold jK;obtain⟨A,ca,rfl,hA⟩:=ha;obtain⟨B,cb,rfl,hB⟩:=hb;simp only[EM,ah,me];refine iQ (λaa=>?_) (λhe=>?_)
 ·refine⟨?_,trivial⟩;have:¬D=lb:=λe=>by subst e;simp at aa
  simp[this]
 ·have U:D.length=lb.length:=by simp at he;omega
  refine dy (λd xs h'=>h'=h∧∃k:Nat,k+d=D.length∧xs=[af k]∧∀i (hi:i<k) (h1:i<D.length),D[i]=lb[i]'(U▸h1)) D.length ⟨rfl,0,ae,rfl,λi hi=>ae⟩ ?_;rintro d _ ρj _ again ⟨rfl,k,hk,rfl,G⟩ ad;simp only[iq,cI,ah];refine aq (λam=>?_) (λal=>?_)
  ·have F:k<D.length:=ae;have H:k<lb.length:=ae;rcases hA with rfl|⟨b1,o1,rfl,hA⟩
   ·simp at F
   rcases hB with rfl|⟨b2,o2,rfl,hB⟩
   ·simp at H
   simp only[ma F,ma H,ah,dn,lW,hA k F,hB k H,vi,me];refine iQ (λW=>?_) (λL=>?_)
   ·refine⟨?_,trivial⟩
    congr 1
    rw[Eu,Ew];intro I;have:=(Ns U).1 I k F;simp[this]at W
   ·simp only[dD,ah];rw[w64 ae ae];refine ad _ _ (d-1) ae ⟨rfl,k+1,ae,rfl,λi hi h1=>?_⟩;rcases T8.1 hi with hi|rfl
    ·exact G i hi h1
    ·simpa using L
  ·refine⟨?_,trivial⟩
   congr 1
   rw[Eu,dH,Ns U];intro i hi;exact G i ae hi
theorem zeO {h:ai}{a b:Value}{A lb:List Int}(D:jN h a A)(G:jN h b lb)(F:A.length≤9223372036854775807):
  ag prog zE #[a,b] h λv h'=>v=.bool (decide (A=lb))∧h'=h:=by
 apply Pa;unfold CX;refine(za7 D G F).mono ?_;rintro _ _ ⟨rfl,rfl⟩;exact⟨rfl,rfl⟩
def Lz (a b:List Int):Bool:=Lv a b&& !decide (a=b)
theorem zaf {h:ai}{a b:Value}{D lb:List Int}(F:jN h a D)(H:jN h b lb)(G:D.length≤9223372036854775807):
  ag prog sZ #[a,b] h λv h'=>v=.bool (Lz D lb)∧h'=h:=by
 apply Pb;unfold CY;refine(zeD F H G).mono ?_;rintro _ _ ⟨rfl,rfl⟩;cases A:Lv D lb with
 |false=>simp only[go_sem];exact⟨by simp[Lz,A],trivial⟩
 |true=>
  simp only[go_sem];refine(zeO F H G).mono ?_;rintro _ _ ⟨rfl,rfl⟩;simp only[go_sem];exact⟨by simp[Lz,A],trivial⟩
end Go.Proofs.YtjljhnandbbldaaGreatDoor
namespace Go.Proofs.YtjljhnandbbldaaGreatDoor
open Go Go.Crisp
attribute [local irreducible] ag cO aT stK aG vK qK bL gK eM bC mkK cR HA
open _root_.Go.Proofs.Tryz
def jG (h:ai)(v:Value)(l:List Int):Prop:=Own 1 h v l.length (l.map vi)
theorem jN.sl {h:ai}{v:Value}{l:List Int}(H:jN h v l):SlC 1 h v l.length (l.map vi):=by
 obtain⟨a,cap,rfl,H⟩:=H;refine⟨by simp,a,cap,rfl,?_⟩;rcases H with rfl|⟨b,o,rfl,H⟩
 ·exact .inl rfl
 ·exact .inr ⟨b,o,rfl,λj A=>by rw[eE];exact H j (by simpa using A)⟩
theorem ZM {h:ai}{v:Value}{l:List Int}(H:SlC 1 h v l.length (l.map vi)):jN h v l:=by
 obtain⟨_,a,cap,rfl,H⟩:=H;refine⟨a,cap,rfl,?_⟩;rcases H with H|⟨b,o,rfl,H⟩
 ·exact .inl (by simpa using H)
 ·refine .inr ⟨b,o,rfl,λj A=>?_⟩;have:=H j (by simpa using A);rw[eE]at this;exact this
theorem jG.ints {h:ai}{v:Value}{l:List Int}(H:jG h v l):jN h v l:=ZM (Own.sl H)
theorem Tb {l:List Int}:∀v∈l.map vi,aV v=true:=by
 intro v A;obtain⟨x,_,rfl⟩:=gQ.1 A;rfl
def xk (a b:List Int):List Int:=(List.range (max a.length b.length)).map λi=>max (a.getD i 0) (b.getD i 0)
theorem kF (a b:List Int):(xk a b).length=max a.length b.length:=by simp[xk]
theorem RY (n:Nat)(f:Nat→Int)(i:Nat)(x:Int):(((List.range n).map f).map vi).set i (vi x)=((List.range n).map λk=>if k=i then x else f k).map vi:=by
 apply pU
 ·simp
 ·intro k h1 A;rw[AL];simp only[eE,yY, @eq_comm _ k i];split<;>rfl
theorem Kn {l:List Int}{k:Nat}(h:k<l.length):l.getD k 0=l[k]:=by simp[List.getD,h]
theorem Km {l:List Int}{k:Nat}(h:l.length≤k):l.getD k 0=0:=by simp[List.getD,AJ h]
theorem zf4 {h:ai}{v u:Value}{a b:List Int}(ha:jN h v a)(hb:jN h u b)(la:a.length≤4398046511104)(lb:b.length≤4398046511104):
  ag prog Bx #[v,u] h λr h'=>jG h' r (xk a b)∧Ext h h'∧∀k,blk r k→h.size≤k:=by
 apply RF;unfold Gl;obtain⟨aa,ac,rfl,_⟩:=ha;obtain⟨ba,bc,rfl,_⟩:=hb;have an:jN h (.slice aa a.length ac) a:=⟨_,_,rfl,by assumption⟩
 have am:jN h (.slice ba b.length bc) b:=⟨_,_,rfl,by assumption⟩
 simp only[go_sem];rw[show max (a.length:Int) (b.length:Int)=((max a.length b.length:Nat):Int)by omega];generalize hn:max a.length b.length=n;refine pN rfl (by omega) (by omega) λs h1 o1 e1 n1=>?_
 refine Ku o1 (an.ext e1).sl Tb λD o2 f2 _=>?_
 have e2:Ext h D:=e1.then_fr f2 n1;have ad:Own 1 D s n (((List.range n).map λk=>a.getD k 0).map vi):=by
  have:(a.map vi).take n++(List.replicate n (Value.int .i64 0)).drop a.length=((List.range n).map λk=>a.getD k 0).map vi:=by
   apply List.ext_getElem
   ·simp;omega
   ·intro k h1 D;simp only[List.getElem_map,List.getElem_range,List.getElem_append,List.getElem_take,List.getElem_drop,List.getElem_replicate];split
    ·rename_i A;rw[List.length_take,List.length_map]at A;rw[Kn (show k<a.length by omega)]
    ·rename_i A;rw[List.length_take,List.length_map]at A;simp at D;rw[Km (show a.length≤k by omega)];rfl
  rw[←this];exact o2
 refine Hk b.length (λk h'=>k≤b.length∧Own 1 h' s n (((List.range n).map λj=>if j<k then max (a.getD j 0) (b.getD j 0)else a.getD j 0).map vi)∧Ext h h') ⟨Nat.zero_le _,by simpa using ad,e2⟩ ?_;rintro k h3 again ρj ⟨au,o3,U⟩ L;simp only[go_sem];refine aq (λA=>?_) (λA=>?_)
 ·have A:k<b.length:=by omega
  obtain⟨p,hp,hq⟩:=(am.ext U).sl.at1 (k:=.i64) A;rw[List.getElem_map]at hq;obtain⟨p',F,I,H⟩:=o3.at1 (k:=.i64) (i:=k) (by omega);have G:∀x:Int,x=max (a.getD k 0) (b.getD k 0)→stK 1 p' (.int .i64 x) h3 λay ar=>again [.int .i64 (IntKind.i64.wrap ((k:Int)+1))] ar:=by
   intro x hx;refine H _ _ rfl λW o4 f4 _=>?_
   rw[w64 (by omega) (by omega)];refine L W A ⟨A,?_,U.then_fr f4 n1⟩;rw[show(Value.int .i64 x)=vi x from rfl,RY]at o4;refine(congrArg (λl:List Int=>Own 1 W s n (l.map vi)) ?_).mp o4;apply List.map_congr_left;intro j _;subst hx;by_cases h1:j=k
   ·subst h1;simp
   ·simp only[h1,if_false];by_cases D:j<k
    ·simp[D,Nat.lt_succ_of_lt D]
    ·simp[D,show¬j<k+1 by omega]
  simp only[go_sem,hp,hq,vi];refine aq (λax=>?_) (λa7=>?_)
  ·simp only[go_sem,F];refine G _ ?_;rw[Km (show a.length≤k by omega),Kn A]
  ·simp only[go_sem,F,I];rw[List.getElem_map,List.getElem_map,List.getElem_range,if_neg (Nat.lt_irrefl k)];simp only[vi,go_sem];exact G _ (by rw[Kn A])
 ·obtain rfl:k=b.length:=by omega
  refine Sg a.length b.length (λk h'=>Own 1 h' s n (((List.range n).map λj=>if j<k then max (a.getD j 0) (b.getD j 0)else a.getD j 0).map vi)∧Ext h h') ⟨o3,U⟩ ?_;rintro k h3 again ρj al ⟨o3,U⟩ L;simp only[go_sem];refine aq (λA=>?_) (λA=>?_)
  ·have A:k<a.length:=by omega
   obtain⟨p',F,I,H⟩:=o3.at1 (k:=.i64) (i:=k) (by omega);simp only[go_sem,F,I];rw[List.getElem_map,List.getElem_map,List.getElem_range,if_neg (Nat.lt_irrefl k)];simp only[vi,go_sem];refine H _ _ rfl λW o4 f4 _=>?_
   rw[w64 (by omega) (by omega)];refine L W A ⟨?_,U.then_fr f4 n1⟩;rw[show(Value.int .i64 (max 0 (a.getD k 0)))=vi (max 0 (a.getD k 0))from rfl,RY]at o4;refine(congrArg (λl:List Int=>Own 1 W s n (l.map vi)) ?_).mp o4;apply List.map_congr_left;intro j _;by_cases h1:j=k
   ·subst h1;rw[if_pos rfl,if_pos (Nat.lt_succ_self j),Km al,Int.max_comm]
   ·simp only[h1,if_false];by_cases D:j<k
    ·simp[D,Nat.lt_succ_of_lt D]
    ·simp[D,show¬j<k+1 by omega]
  ·refine⟨?_,U,n1⟩;unfold jG;rw[kF,hn];refine(congrArg (λl:List Int=>Own 1 h3 s n (l.map vi)) ?_).mp o3;unfold xk;rw[hn];apply List.map_congr_left;intro j hj;rw[if_pos (by have:=List.mem_range.1 hj;omega)]
end Go.Proofs.YtjljhnandbbldaaGreatDoor
namespace Go.Proofs.YtjljhnandbbldaaGreatDoor
open Go Go.Crisp Go.MapKept Go.RowKit
attribute [local irreducible] cO aT stK aG vK qK bL gK eM bC mkK cR HA
open _root_.Go.Proofs.Tryz
theorem XQ {w:World}{D:Nat}{e:TypeId}{v:Value}{A:List Int}(H:w.ownsRow D e 1 v A.length (A.map encZ)):jG w.heap v A∧∀b,blk v b→D≤b:=by
 obtain⟨_,H⟩:=H;rcases H with⟨rfl,I⟩|⟨g,cap,cur,rfl,G,U,hc,_,L,F⟩
 ·have:A=[]:=lg I;subst this;exact⟨.inl ⟨rfl,rfl,rfl⟩,λb G=>G.elim⟩
 ·refine⟨.inr ⟨g,cap,cur.toList.drop A.length,e,rfl,hc,by simp,?_,?_⟩,λb h=>by rw[show b=g from h];exact G⟩
  ·rw[lW]at F;rw[show A.map vi=A.map encZ from rfl,←F,mS,Ke];exact L
  ·rw[lW]at F;rw[show A.map vi=A.map encZ from rfl,←F,mS,EH];exact U
theorem zbC {w w':World}(H:Below w.heap.size w w'):dT w w'∧Ext w.heap w'.heap:=⟨⟨H.os,H.tape,H.output⟩,H.size,λb A=>H.block b A⟩
def noR:Value→Option (DataW Unit×List MemPlace):=λ_=>some (.nil,[])
theorem Mb (x:Lit×DataW Unit):∀l:List (Lit×DataW Unit),(DataW.insert x l).Perm (x::l)
 | []=>JH _
 |y::r=>by
  unfold DataW.insert;split
  ·exact JH _
  ·exact((Mb x r).cons y).trans (List.Perm.swap x y r)
theorem Hr:∀l:List (Lit×DataW Unit),(l.foldr DataW.insert []).Perm l
 | []=>JH _
 |x::l=>by
  rw[List.foldr_cons];exact(Mb x _).trans ((Hr l).cons x)
theorem zb9 {P:Program}{k:TypeId}{w:World}{b:Nat}{kv:List (Int×Value)}(hk:P.underlying k=some (.int .i64))(H:vS w.heap b kv)(hw:∀p∈kv,(Lit.int .i64 p.1).wf=true)(hl:kv.length≤maxLen):
  ∃D:DataW Unit,w.ownsMap P k noR b kv.length D∧(intKeys D).Perm (kv.map Prod.fst)∧Go.Maps.size D=kv.length:=by
 obtain⟨W,c,hb,hs,he⟩:=H;have F:=he.length;have I:∀x∈W.toList,∃j,x.key=.int .i64 j∧(Lit.int .i64 j).wf=true:=λx G=>by
  have:(x.key,x.val)∈kv.map λp=>(Value.int .i64 p.1,p.2):=by rw[←he];exact List.mem_map.2 ⟨x,G,rfl⟩
  obtain⟨p,hp,aa⟩:=List.mem_map.1 this;exact⟨p.1,(congrArg Prod.fst aa).symm,hw p hp⟩
 have U:∀x∈W.toList,∀j,x.key=.int .i64 j→(Lit.int .i64 j).wf=true→WideElems.rd P k noR x=some (.int .i64 j,.nil):=λx G j L A=>by
  unfold WideElems.rd;rw[L];simp[keyOf,hk,mapKey,A,noR]
 refine⟨.map ((W.toList.map (WideElems.rg P k noR)).foldr DataW.insert []),⟨W,c,hb,⟨by rw[←Array.length_toList,F];exact hl,hs,λx G=>?_⟩,by rw[←Array.length_toList,F];exact Nat.le_refl _,rfl⟩,?_,?_⟩
 ·obtain⟨j,L,A⟩:=I x G;exact⟨_,U x G j L A⟩
 ·have h1:(W.toList.map (WideElems.rg P k noR)).map (λp=>_root_.Go.intOf p.1)=kv.map Prod.fst:=by
   have h2:kv.map Prod.fst=(kv.map λp=>(Value.int .i64 p.1,p.2)).map λq=>match q.1 with| .int _ n=>n|_=>0:=by simp[List.map_map,Function.comp_def]
   rw[h2,←he,List.map_map,List.map_map];refine List.map_congr_left λx G=>?_
   obtain⟨j,L,A⟩:=I x G;simp only[Function.comp_def];rw[WideElems.rg_of (U x G j L A),L];rfl
  rw[←h1];exact(Hr _).map _
 ·show(List.foldr DataW.insert [] _).length=_;rw[(Hr _).length_eq,List.length_map,F]
theorem Yq {P:Program}{f:FuncId}{args:Array Value}{w:World}{n:Nat}{R A:Ending→World→Prop}(H:CallsIn Fence.wide n P f args w R)(D:∀e w',R e w'→A e w'):Calls P f args w A:=(callsIn_wide.1 H).mono D
theorem Xh {h:ai}{F b:Nat}{t:TypeId}{kv:List (Int×Value)}(r1:h[F]? =some (.cells #[.map (some b)] t (0,0)))(W:vS h b kv)(U:∀p∈kv,(Lit.int .i64 p.1).wf=true)(hl:kv.length≤1000000):
  ag prog qi #[.func (.func dW) #[] #[.pointer (some ⟨F,0,none⟩)]] h λr h'=>∃ss:List Int,ss.Perm (kv.map Prod.fst)∧jG h' r ss∧Ext h h'∧∀k,blk r k→h.size≤k:=by
 refine ag.ofCalls (by kernel_rfl) λw hh=>?_
 subst hh;obtain⟨D,L,I,G⟩:=zb9 (P:=prog) (k:=(C6).t 26) Ps.t26 W U (by unfold maxLen;omega);have seq:=AnyZI.keys_gives Ps Fence.wide 3 trivial rfl ae F b kv.length D w (aW r1) (show aE w.heap ⟨F,0,none⟩=_ from by rw[ao r1];rfl) L;have:=AnyZI.collect_in RM Fence.wide 5 trivial trivial rfl ae _ #[.pointer (some ⟨F,0,none⟩)] trivial (λargs w=>Ax (by kernel_rfl)) _ _ (by rw[G];unfold maxLen;omega) (by rw[G];omega) w seq;refine Yq this ?_;rintro e w' ⟨v,ss,rfl,H,A,_,hB⟩;obtain⟨o,n⟩:=XQ A;obtain⟨s,e⟩:=zbC hB;exact⟨v,rfl,s,ss,H.trans I,o,e,n⟩
end Go.Proofs.YtjljhnandbbldaaGreatDoor
namespace Go.Proofs.YtjljhnandbbldaaGreatDoor
open Go Go.Crisp
attribute [local irreducible] ag cO aT stK aG vK qK bL gK eM bC mkK cR HA
open _root_.Go.Proofs.Tryz
theorem MT {h:ai}:jG h (.slice none 0 0) []:=.inl ⟨rfl,rfl,rfl⟩
theorem Ks (a:Addr)(n c n' c':Nat):ak .sl .eql (.slice (some a) n c) (.slice none n' c')=some (.bool false):=de rfl rfl
theorem Kt (n c n' c':Nat):ak .sl .eql (.slice none n c) (.slice none n' c')=some (.bool true):=de rfl rfl
theorem SC {e:TypeId}{h:ai}{v:Value}{l:List Int}{K:Value→ai→Prop}(hv:jN h v l)(hl:l.length≤4398046511104)
  (H:∀r h',jG h' r l→Ext h h'→(∀b,blk r b→h.size≤b)→K r h'):cO #[] e 0 [] h λG A=>cR aj e 1 8 G v A K:=by
 refine cT (c':=#[]) (by kernel_rfl) λb h1 r1 D F=>?_
 refine ui (n:=0) (cs:=[]) (.inr ⟨b,0,[],e,rfl,ck _,rfl,rfl,r1⟩) (hv.ext D).sl Tb rfl ae ae λL U o2 f2 W=>?_
 rw[aO,eZ]at o2;refine H L U o2 (D.then_fr f2 λi hi=>by rw[show i=b from hi];exact F) λk I=>?_
 rcases W k I with A|A
 ·rw[show k=b from A];exact F
 ·exact bA D.1 A
theorem zad {h:ai}{v:Value}{l:List Int}(A:jN h v l)(G:l.length≤4398046511104):
  ag prog dZ #[v] h λr h'=>jG h' r l∧Ext h h'∧∀b,blk r b→h.size≤b:=by
 apply qP;unfold jL;have D:=A;obtain⟨a,cap,rfl,A⟩:=A;cases a with
 |none=>
  simp only[Kt,go_sem];rcases A with rfl|⟨b,o,h1,_⟩
  ·exact⟨MT,Ext.refl h,λb F=>F.elim⟩
  ·cases h1
 |some a=>
  simp only[Ks,go_sem];exact SC D G λr h' o e n=>⟨o,e,n⟩
structure mI (M:Nat→Prop)(h:ai)(bc:Nat)(sl:Value)(sv:Nat→Value)(t:TypeId)(n:Nat)(rows:Nat→List Int):Prop where
 var:h[bc]? =some (.cells #[sl] t (0,0))
 arr:Own 1 h sl n ((List.range n).map sv)
 row:∀i,i<n→jG h (sv i) (rows i)
 len:∀i,i<n→(rows i).length=n
 pos:1≤n∧n≤512
 inM:M bc∧(∀b,blk sl b→M b)∧∀i,i<n→∀b,blk (sv i) b→M b
 ap1:¬blk sl bc
 ap2:∀i,i<n→∀b,blk (sv i) b→b≠bc∧¬blk sl b
 ap3:∀i j,i<n→j<n→i≠j→∀b,blk (sv i) b→¬blk (sv j) b
 lt:∀b,M b→b<h.size
def ga (M:Nat→Prop)(h:ai)(v:Value)(n:Nat)(rows:Nat→List Int):Prop:=
 ∃bc sl sv t,v=.pointer (some ⟨bc,0,none⟩)∧mI M h bc sl sv t n rows
theorem mI.fr {M Q:Nat→Prop}{h h':ai}{bc:Nat}{sl:Value}{sv:Nat→Value}{t:TypeId}{n:Nat}{rows:Nat→List Int}(C:mI M h bc sl sv t n rows)(f:Fr Q h h')(hq:∀b,b<h.size→M b→¬Q b):mI M h' bc sl sv t n rows:=
 {C with
  var:=f.row C.var (hq bc (C.lt _ C.inM.1) C.inM.1)
  arr:=C.arr.fr f λb A=>hq b (C.lt _ (C.inM.2.1 b A)) (C.inM.2.1 b A)
  row:=λi hi=>(C.row i hi).fr f λb A=>hq b (C.lt _ (C.inM.2.2 i hi b A)) (C.inM.2.2 i hi b A)
  lt:=λb A=>ce (C.lt b A) f.1}
theorem mI.ext {M:Nat→Prop}{h h':ai}{bc:Nat}{sl:Value}{sv:Nat→Value}{t:TypeId}{n:Nat}{rows:Nat→List Int}(C:mI M h bc sl sv t n rows)(e:Ext h h'):mI M h' bc sl sv t n rows:=C.fr (Q:=λ_=>False) e.fr λ_ _ _=>id
theorem ga.fr {M Q:Nat→Prop}{h h':ai}{v:Value}{n:Nat}{rows:Nat→List Int}(H:ga M h v n rows)(f:Fr Q h h')(hq:∀b,b<h.size→M b→¬Q b):ga M h' v n rows:=by
 obtain⟨bc,sl,sv,t,rfl,C⟩:=H;exact⟨bc,sl,sv,t,rfl,C.fr f hq⟩
theorem ga.ext {M:Nat→Prop}{h h':ai}{v:Value}{n:Nat}{rows:Nat→List Int}(H:ga M h v n rows)(e:Ext h h'):ga M h' v n rows:=H.fr (Q:=λ_=>False) e.fr λ_ _ _=>id
theorem zfS {M:Nat→Prop}{h:ai}{v:Value}{n:Nat}{rows:Nat→List Int}(H:ga M h v n rows)(i:Int):
  ag prog ki #[v,af i] h λr h'=>r=.bool (decide (0≤i∧i<n))∧h'=h:=by
 obtain⟨bc,sl,sv,t,rfl,C⟩:=H;apply Jy;unfold ym;have A:=C.arr.sl;obtain⟨_,a,cap,rfl,_⟩:=A;by_cases h0:0≤i
 ·simp only[go_sem,h0,ao C.var,EC,and_true]
 ·simp only[go_sem,h0,false_and,and_true]
def MN (n:Nat)(rows:Nat→List Int)(i:Int):List Int:=if 0≤i∧i<n then rows i.toNat else[]
theorem ze6 {M:Nat→Prop}{h:ai}{v:Value}{n:Nat}{rows:Nat→List Int}(H:ga M h v n rows)(i:Int):
  ag prog lQ #[v,af i] h λr h'=>jG h' r (MN n rows i)∧Ext h h'∧∀b,blk r b→h.size≤b:=by
 apply Hb;unfold wZ;refine(zfS H i).mono ?_;rintro _ h' ⟨rfl,rfl⟩;by_cases hi:0≤i∧i<n
 ·obtain⟨k,rfl⟩:=MY hi.1;have A:k<n:=ae;obtain⟨bc,sl,sv,t,rfl,C⟩:=H;obtain⟨p,D,hq⟩:=C.arr.sl.at1 (k:=.i64) A;rw[eE,yY]at hq;simp only[go_sem,hi,ao C.var,D,hq,AH];rw[show MN n rows (k:Int)=rows k by unfold MN;rw[aB hi];rfl];refine(zad (C.row k A).ints (by rw[C.len k A];have:=C.pos;omega)).mono ?_;rintro r h1 H;exact H
 ·simp only[go_sem,hi];rw[show MN n rows i=[]by unfold MN;rw[aA hi]];exact⟨MT,Ext.refl _,λb F=>F.elim⟩
theorem mI.put {M:Nat→Prop}{h h':ai}{bc:Nat}{sl:Value}{sv:Nat→Value}{t:TypeId}{n:Nat}{rows:Nat→List Int}(C:mI M h bc sl sv t n rows){k:Nat}(F:k<n){l:List Int}
  (o:jG h' (sv k) l) (H:l.length=n) (f:Fr (blk (sv k)) h h'):mI M h' bc sl sv t n (λj=>if j=k then l else rows j):=
 { C with
  var:=f.row C.var λD=>(C.ap2 k F _ D).1 rfl
  arr:=C.arr.fr f λb D G=>(C.ap2 k F b G).2 D
  row:=λi hi=>by
   by_cases A:i=k
   ·subst A;simpa using o
   ·simp only[A,cS];exact(C.row i hi).fr f λb D=>C.ap3 i k hi F A b D
  len:=λi hi=>by
   by_cases A:i=k
   ·subst A;simpa using H
   ·simp only[A,cS];exact C.len i hi
  lt:=λb D=>ce (C.lt b D) f.1}
def tf (n:Nat)(rows:Nat→List Int)(i:Int):Nat→List Int:=
 if 0≤i∧i<n then λj=>if j=i.toNat then(rows i.toNat).set i.toNat (IntKind.i64.wrap ((rows i.toNat).getD i.toNat 0+1))else rows j else rows
theorem YG {M:Nat→Prop}{h:ai}{v:Value}{n:Nat}{rows:Nat→List Int}(H:ga M h v n rows)(i:Int):
  ag prog iZ #[v,af i] h λr h'=>jG h' r (MN n rows i)∧ga M h' v n (tf n rows i)∧Fr M h h'∧∀b,blk r b→h.size≤b:=by
 apply Fm;unfold uY;refine(ze6 H i).mono ?_;rintro r h1 ⟨o1,D,I⟩;refine(zfS (H.ext D) i).mono ?_;rintro _ h2 ⟨rfl,rfl⟩;by_cases hi:0≤i∧i<n
 ·obtain⟨k,rfl⟩:=MY hi.1;have A:k<n:=ae;obtain⟨bc,sl,sv,t,rfl,W⟩:=H;have C:=W.ext D;obtain⟨p,hp,hq⟩:=C.arr.sl.at1 (k:=.i64) A;rw[eE,yY]at hq;have F:k<(rows k).length:=by rw[C.len k A];exact A
  obtain⟨p',aa,G,L⟩:=Own.at1 (C.row k A) (k:=.i64) F;rw[eE]at G;simp only[go_sem,hi,ao C.var,hp,hq,AH,aa,G,vi];refine L _ _ rfl λh3 o3 f3 _=>?_
  have o4:jG h3 (sv k) ((rows k).set k (IntKind.i64.wrap ((rows k)[k]+1))):=by
   unfold jG;rw[vw,Nb];exact o3
  have C':=C.put A o4 (by rw[vw];exact C.len k A) f3;refine⟨o1.fr f3 λb hb U=>?_,⟨bc,sl,sv,t,rfl,?_⟩,?_,I⟩
  ·have h5:=I b hb;have:=W.lt b (W.inM.2.2 k A b U);omega
  ·unfold tf;rw[aB hi];simp only[dJ];rw[Kn F];exact C'
  ·exact D.fr.trans (f3.mono λb _ hb=>C.inM.2.2 k A b hb)
 ·simp only[go_sem,hi];refine⟨o1,?_,D.fr,I⟩;unfold tf;rw[aA hi];exact H.ext D
theorem c_Min {h:ai}{v:Value}{l:List Int}(hv:jN h v l)(h0:l≠[])(hl:l.length≤4398046511104):
  ag prog ij #[v] h λr h'=>(∃m,r=af m∧(decide (m<0)=l.any λx=>decide (x<0)))∧h'=h:=by
 apply tQ;unfold kl;have hp:0<l.length:=vE.2 h0;have W:=hv.sl;obtain⟨a,cap,rfl,_⟩:=hv;refine bB (λH h'=>H=[]∧h'=h) ?_ ?_
 ·simp only[go_sem];refine aq (λh1=>ae) (λ_=>⟨trivial,trivial⟩)
 ·rintro _ ρj h' ⟨rfl,hh⟩;subst hh;obtain⟨p,G,A⟩:=W.at1 (k:=.i64) (i:=0) hp;rw[eE]at A;rw[show((0:Nat):Int)=0 from rfl]at G;simp only[go_sem,G,A];refine dy (λd H I=>I=h'∧∃(k:Nat) (m:Int),1≤k∧k≤l.length∧d=l.length-k∧H=[af m,af (k:Int)]∧decide (m<0)=(l.take k).any λx=>decide (x<0)) (l.length-1)
   ⟨rfl,1,l[0],ae,ae,rfl,rfl,?_⟩ ?_
  ·cases l with
   |nil=>exact absurd rfl h0
   |cons x l=>simp
  ·rintro d _ ρj _ again ⟨rfl,k,m,h1,hk,rfl,rfl,hm⟩ L;simp only[go_sem];refine aq (λad=>?_) (λaa=>?_)
   ·have D:k<l.length:=ae;obtain⟨p,U,F⟩:=W.at1 (k:=.i64) D;rw[eE]at F;simp only[go_sem,U,F,vi];rw[w64 ae ae];refine L _ _ (l.length-(k+1)) ae ⟨rfl,k+1,_,ae,ae,rfl,rfl,?_⟩;rw[jE D,List.any_append,←hm];simp only[List.any_cons,List.any_nil,Bool.or_false];rw[←Bool.decide_or,iB];omega
   ·refine⟨⟨m,rfl,?_⟩,trivial⟩;rw[hm,fg ae]
def Hj (n:Nat)(i:Int)(s:List Int):Bool:=decide (0≤i∧i<n)&&(decide (s.length=n)&& !s.any λx=>decide (x<0))
def jk (n:Nat)(rows:Nat→List Int)(i:Int)(s:List Int):Nat→List Int:=
 if Hj n i s=true then λj=>if j=i.toNat then xk (rows i.toNat) s else rows j else rows
theorem mI.swap {M:Nat→Prop}{h h':ai}{bc:Nat}{sl:Value}{sv:Nat→Value}{t:TypeId}{n:Nat}{rows:Nat→List Int}(C:mI M h bc sl sv t n rows){k:Nat}(hk:k<n){l:List Int}{v:Value}
  (o:jG h' v l) (W:l.length=n) (f:Fr (blk sl) h h') (a:Own 1 h' sl n ((List.range n).map λj=>if j=k then v else sv j)) (I:∀b,blk v b→b<h'.size∧¬M b):
  mI (λb=>M b∨blk v b) h' bc sl (λj=>if j=k then v else sv j) t n (λj=>if j=k then l else rows j) where
 var:=f.row C.var C.ap1
 arr:=a
 row:=λi hi=>by
  by_cases A:i=k
  ·simp only[A,cV];exact o
  ·simp only[A,cS];exact(C.row i hi).fr f λb D=>(C.ap2 i hi b D).2
 len:=λi hi=>by
  by_cases A:i=k
  ·simp only[A,cV];exact W
  ·simp only[A,cS];exact C.len i hi
 pos:=C.pos
 inM:=⟨.inl C.inM.1,λb D=>.inl (C.inM.2.1 b D),λi hi b D=>by
  by_cases A:i=k
  ·simp only[A,cV]at D;exact .inr D
  ·simp only[A,cS]at D;exact .inl (C.inM.2.2 i hi b D)⟩
 ap1:=C.ap1
 ap2:=λi hi b D=>by
  by_cases A:i=k
  ·simp only[A,cV]at D;exact⟨λL=>(I b D).2 (L▸C.inM.1),λhs=>(I b D).2 (C.inM.2.1 b hs)⟩
  ·simp only[A,cS]at D;exact C.ap2 i hi b D
 ap3:=λi j hi U G b D F=>by
  by_cases A:i=k
  ·subst A;simp only[cV,ie G,cS]at D F;exact(I b D).2 (C.inM.2.2 j U b F)
  ·simp only[A,cS]at D;by_cases H:j=k
   ·simp only[H,cV]at F;exact(I b F).2 (C.inM.2.2 i hi b D)
   ·simp only[H,cS]at F;exact C.ap3 i j hi U G b D F
 lt:=λb D=>by
  rcases D with D|D
  ·exact ce (C.lt b D) f.1
  ·exact(I b D).1
theorem NQ (n:Nat)(f:Nat→Value)(i:Nat)(x:Value):((List.range n).map f).set i x=(List.range n).map λk=>if k=i then x else f k:=by
 apply pU
 ·simp
 ·intro k h1 A;rw[AL];simp only[eE,yY, @eq_comm _ k i]
theorem Er {h:ai}{v:Value}{l:List Int}(o:jG h v l):aV v=true:=by
 rcases o with⟨rfl,_⟩|⟨b,cap,r,e,rfl,_⟩<;>rfl
theorem zf1 {M:Nat→Prop}{h:ai}{v u:Value}{n:Nat}{rows:Nat→List Int}(H:ga M h v n rows)(i:Int){s:List Int}(hu:jN h u s)(hs:s.length≤4398046511104):
  ag prog gE #[v,af i,u] h λr h'=>r=.bool (Hj n i s)∧∃M',ga M' h' v n (jk n rows i s)∧Fr M h h'∧∀b,M' b→M b∨h.size≤b:=by
 apply Fo;unfold uZ;refine(zfS H i).mono ?_;rintro _ h' ⟨rfl,hh⟩;subst hh;have no:Hj n i s=false→∃M',ga M' h' v n (jk n rows i s)∧Fr M h' h'∧∀b,M' b→M b∨h'.size≤b:=λW=>
  ⟨M,by unfold jk;rw[W];exact H,Fr.refl _ _,λb D=>.inl D⟩
 have ad:=hu;obtain⟨ua,uc,rfl,_⟩:=hu;by_cases hi:0≤i∧i<n
 ·obtain⟨bc,sl,sv,t,rfl,C⟩:=H;have au:=C.pos;have ar:=C.arr.sl;obtain⟨_,sa,sc,rfl,_⟩:=ar;by_cases hn:s.length=n
  ·have G:((s.length:Int)=(n:Int)):=ae;simp only[go_sem,hi,ao C.var,AH,G];refine(c_Min ad (by intro h0;subst h0;simp at hn;omega) hs).mono ?_;rintro _ h1 ⟨⟨m,rfl,W⟩,hh⟩;subst hh;simp only[go_sem,W];cases F:s.any λx=>decide (x<0)with
   |true=>
    have A:Hj n i s=false:=by simp[Hj,F]
    simp only[go_sem];exact⟨by rw[A],no A⟩
   | false=>
    have A:Hj n i s=true:=by simp[Hj,F,hi,hn]
    obtain⟨k,rfl⟩:=MY hi.1;have I:k<n:=ae;simp only[go_sem];refine SA ?_;obtain⟨p,hp,hq⟩:=C.arr.sl.at1 (k:=.i64) I;rw[eE,yY]at hq;refine aF (.slice sa n sc) (λh2 e=>by rw[ao (e.row C.var)];rfl) ?_;refine aF (.slice sa n sc) (λh2 e=>by rw[ao (e.row C.var)];rfl) ?_;rw[hp,ah];refine aF (sv k) (λh2 e=>?_) ?_
    ·obtain⟨p2,L,U⟩:=(C.ext e).arr.sl.at1 (k:=.i64) I;rw[eE,yY]at U;rw[hp]at L;cases L;exact U
    refine(zf4 (C.row k I).ints ad (by rw[C.len k I];omega) hs).mono ?_;rintro r h2 ⟨o2,e2,n2⟩;refine⟨e2,?_⟩;have C2:=C.ext e2;obtain⟨p3,al,ax,am⟩:=C2.arr.at1 (k:=.i64) I;rw[hp]at al;cases al;rw[ah];refine am _ _ (Er o2) λh3 o3 f3 _=>?_
    rw[NQ]at o3;have aa:∀b,blk r b→¬M b:=λb D W=>by have:=C.lt b W;have:=n2 b D;omega
    have o4:jG h3 r (xk (rows k) s):=o2.fr f3 λb D an=>aa b D (C.inM.2.1 b an)
    have C3:=C2.swap I o4 (by rw[kF,C.len k I,hn];exact Nat.max_self n) f3 o3 λb D=>⟨Own.lt o4 D,aa b D⟩
    have CC:ga (λb=>M b∨blk r b) h3 (.pointer (some ⟨bc,0,none⟩)) n (jk n rows k s):=by
     unfold jk;rw[aB A];exact⟨bc,_,_,t,rfl,C3⟩
    refine⟨by rw[A],(λb=>M b∨blk r b),CC,e2.fr.trans (f3.mono λb _ D=>C.inM.2.1 b D),λb D=>Or.imp (λh=>h) (n2 b) D⟩
  ·have G:¬((s.length:Int)=(n:Int)):=ae;have A:Hj n i s=false:=by simp[Hj,hn]
   simp only[go_sem,hi,ao C.var,AH,G];exact⟨by rw[A],no A⟩
 ·have A:Hj n i s=false:=by simp[Hj,hi]
  simp only[go_sem,hi];exact⟨by rw[A],no A⟩
end Go.Proofs.YtjljhnandbbldaaGreatDoor
namespace Go.Proofs.YtjljhnandbbldaaGreatDoor
open Go Go.Crisp
attribute [local irreducible] ag cO aT stK aG vK qK bL gK eM bC mkK cR HA vu pP Zb
open _root_.Go.Proofs.Tryz
section
structure Bag (M:Nat→Prop)(h:ai)(bx bm:Nat)(fr:Value)(w:Nat)(all:List (Value×List Int)):Prop where
 own:∀p∈all,jG h p.1 p.2∧p.2.length=w∧∀k,blk p.1 k→k≠bx∧k≠bm∧¬blk fr k∧M k
 apart:all.Pairwise λa b=>∀k,blk a.1 k→¬blk b.1 k
theorem Bag.perm {M:Nat→Prop}{h:ai}{bx bm:Nat}{fr:Value}{w:Nat}{all A:List (Value×List Int)}(B:Bag M h bx bm fr w all)(p:A.Perm all):Bag M h bx bm fr w A where
 own:=λq hq=>B.own q (p.mem_iff.1 hq)
 apart:=(p.pairwise_iff (λ{x y} D k G F=>D k F G)).2 B.apart
theorem Bag.fr {M Q:Nat→Prop}{h h':ai}{bx bm:Nat}{fr:Value}{w:Nat}{all:List (Value×List Int)}(B:Bag M h bx bm fr w all)(f:Fr Q h h')(q:∀p∈all,∀k,blk p.1 k→¬Q k):Bag M h' bx bm fr w all where
 own:=λp A=>⟨(B.own p A).1.fr f (q p A),(B.own p A).2⟩
 apart:=B.apart
theorem Bag.ext {M:Nat→Prop}{h h':ai}{bx bm:Nat}{fr:Value}{w:Nat}{all:List (Value×List Int)}(B:Bag M h bx bm fr w all)(e:Ext h h'):Bag M h' bx bm fr w all:=B.fr (Q:=λ_=>False) e.fr λ_ _ _ _=>id
theorem Bag.mono {M M':Nat→Prop}{h:ai}{bx bm:Nat}{fr D:Value}{w:Nat}{all:List (Value×List Int)}(B:Bag M h bx bm fr w all)(G:∀k,M k→M' k)(H:∀p∈all,∀k,blk p.1 k→¬blk D k):Bag M' h bx bm D w all where
 own:=λp A=>⟨(B.own p A).1,(B.own p A).2.1,λk F=>⟨((B.own p A).2.2 k F).1,((B.own p A).2.2 k F).2.1,H p A k F,G k ((B.own p A).2.2 k F).2.2.2⟩⟩
 apart:=B.apart
structure A7 (M:Nat→Prop)(h:ai)(bx bm:Nat)(fr:Value)(t:TypeId)(room w:Nat)(es:List (Int×(Value×List Int)))(fv xs:List (Value×List Int)):Prop where
 var:h[bx]? =some (.cells #[.int .i64 room,.int .i64 w,.map (some bm),fr] t (0,0))
 map:vS h bm (rL Prod.fst es)
 free:Own 1 h fr fv.length (fv.map Prod.fst)
 bag:Bag M h bx bm fr w (es.map Prod.snd++fv++xs)
 ap:bx≠bm∧¬blk fr bx∧¬blk fr bm
 inM:M bx∧M bm∧∀k,blk fr k→M k
 lt:∀k,M k→k<h.size
 nums:1≤room∧room≤65536∧w≤262144
 keys:∀e∈es,(Lit.int .i64 e.1).wf=true
 len:es.length≤room
 tot:es.length+fv.length+xs.length≤room+1
def iT (M:Nat→Prop)(h:ai)(v:Value)(room w:Nat)(rs:List (Int×List Int)):Prop:=
 ∃bx bm fr t es fv,v=.pointer (some ⟨bx,0,none⟩)∧A7 M h bx bm fr t room w es fv []∧rs=rL Prod.snd es∧es.length+fv.length≤room
theorem A7.fr {M Q:Nat→Prop}{h h':ai}{bx bm:Nat}{fr:Value}{t:TypeId}{room w:Nat}{G:List (Int×(Value×List Int))}{H D:List (Value×List Int)}(R:A7 M h bx bm fr t room w G H D)(f:Fr Q h h')(q:∀b,b<h.size→M b→¬Q b):A7 M h' bx bm fr t room w G H D:=
 {R with
  var:=f.row R.var (q bx (R.lt _ R.inM.1) R.inM.1)
  map:=R.map.fr f (q bm (R.lt _ R.inM.2.1) R.inM.2.1)
  free:=R.free.fr f λk A=>q k (R.lt _ (R.inM.2.2 k A)) (R.inM.2.2 k A)
  bag:=R.bag.fr f λp F k A=>q k (R.lt _ ((R.bag.own p F).2.2 k A).2.2.2) ((R.bag.own p F).2.2 k A).2.2.2
  lt:=λk A=>ce (R.lt k A) f.1}
theorem iT.fr {M Q:Nat→Prop}{h h':ai}{v:Value}{room w:Nat}{rs:List (Int×List Int)}(H:iT M h v room w rs)(f:Fr Q h h')(q:∀b,b<h.size→M b→¬Q b):iT M h' v room w rs:=by
 obtain⟨bx,bm,fr,t,D,F,rfl,R,h1,A⟩:=H;exact⟨bx,bm,fr,t,D,F,rfl,R.fr f q,h1,A⟩
theorem iT.ext {M:Nat→Prop}{h h':ai}{v:Value}{room w:Nat}{rs:List (Int×List Int)}(H:iT M h v room w rs)(e:Ext h h'):iT M h' v room w rs:=H.fr (Q:=λ_=>False) e.fr λ_ _ _=>id
theorem iT.lt {M:Nat→Prop}{h:ai}{v:Value}{room w:Nat}{rs:List (Int×List Int)}(H:iT M h v room w rs){b:Nat}(A:M b):b<h.size:=by
 obtain⟨bx,bm,fr,t,F,G,rfl,R,h1,D⟩:=H;exact R.lt b A
theorem iT.nodup {M:Nat→Prop}{h:ai}{v:Value}{room w:Nat}{rs:List (Int×List Int)}(H:iT M h v room w rs):(rs.map Prod.fst).Nodup:=by
 obtain⟨bx,bm,fr,t,D,F,rfl,R,rfl,A⟩:=H;rw[Af,←Af Prod.fst];exact R.map.nodup
theorem iT.nums {M:Nat→Prop}{h:ai}{v:Value}{room w:Nat}{rs:List (Int×List Int)}(H:iT M h v room w rs):1≤room∧room≤65536∧w≤262144∧rs.length≤room∧(∀p∈rs,p.2.length=w∧(Lit.int .i64 p.1).wf=true):=by
 obtain⟨bx,bm,fr,t,G,I,rfl,R,rfl,F⟩:=H;refine⟨R.nums.1,R.nums.2.1,R.nums.2.2,by simpa[rL]using R.len,λp D=>?_⟩;obtain⟨e,A,rfl⟩:=gQ.1 D;exact⟨(R.bag.own e.2 (by simp;exact .inl ⟨e.1,A⟩)).2.1,R.keys e A⟩
def kn (a:Int):Nat:=(min (max 1 a) 65536).toNat
def gH (a:Int):Nat:=(min (max 0 a) 262144).toNat
theorem zfZ {h:ai}(a b:Int):ag prog Ic #[af a,af b] h λr h'=>∃M,iT M h' r (kn a) (gH b) []∧Ext h h'∧∀k,M k→h.size≤k:=by
 apply VP;unfold LI;have ha:min (max 1 a) 65536=((kn a:Nat):Int):=by unfold kn;omega
 have hb:min (max 0 b) 262144=((gH b:Nat):Int):=by unfold gH;omega
 have h1:1≤kn a∧kn a≤65536:=by unfold kn;omega
 have L:gH b≤262144:=by unfold gH;omega
 simp only[go_sem,ha,hb];generalize kn a=room at h1;generalize gH b=w at L;refine zdU λbm h3 G H n3=>?_
 rw[KF _ #[af room,af w,.map (some bm),.slice none 0 0] (by kernel_rfl)];refine aI (c:=#[af room,af w,.map (some bm),.slice none 0 0]) λbx U A D W=>?_
 obtain⟨t,I⟩:∃t,U[bx]? =some (.cells #[af room,af w,.map (some bm),.slice none 0 0] t (0,0)):=⟨_,A⟩
 have lm:=G.lt;refine⟨λk=>k=bx∨k=bm,⟨bx,bm,.slice none 0 0,t,[],[],rfl,?_,rfl,by simp⟩,H.trans D,?_⟩
 ·exact{
   var:=I,map:=G.ext D,free:=.inl ⟨rfl,rfl,rfl⟩,bag:=⟨λp hp=>absurd hp (by simp),List.Pairwise.nil⟩
   ap:=⟨ae,λh=>h.elim,λh=>h.elim⟩,inM:=⟨.inl rfl,.inr rfl,λk F=>F.elim⟩
   lt:=λk F=>by
    rcases F with rfl|rfl
    ·exact aW I
    ·exact(G.ext D).lt
   nums:=⟨h1.1,h1.2,L⟩,keys:=λe he=>absurd he (by simp),len:=by simp,tot:=by simp}
 ·rintro k (rfl|rfl)
  ·exact bA H.1 W
  ·exact n3
section
variable {M:Nat→Prop}{h:ai}{v:Value}{room w:Nat}{rs:List (Int×List Int)}
theorem zdc (H:iT M h v room w rs):ag prog qp #[v] h λr h'=>r=af (w:Nat)∧h'=h:=by
 obtain⟨bx,bm,fr,t,D,F,rfl,R,rfl,A⟩:=H;apply GT;unfold wK;simp only[go_sem,ao R.var];exact⟨trivial,trivial⟩
theorem zdb (H:iT M h v room w rs):ag prog qn #[v] h λr h'=>r=af ((room:Int)*w)∧h'=h:=by
 obtain⟨bx,bm,fr,t,G,I,rfl,R,rfl,F⟩:=H;apply GS;unfold wJ;have A:=R.nums;have L:room*w≤65536*262144:=AP A.2.1 A.2.2;have D:((room*w:Nat):Int)=(room:Int)*w:=mQ ..;simp only[go_sem,ao R.var];rw[w64 ae ae];exact⟨rfl,trivial⟩
theorem zdd (H:iT M h v room w rs)(j:Int):ag prog nT #[v,af j] h λr h'=>r=.bool (gm j rs).isSome∧h'=h:=by
 obtain⟨bx,bm,fr,t,A,F,rfl,R,rfl,D⟩:=H;apply KY;unfold zO;simp only[go_sem,ao R.var,Po R.map];rw[ud,ud];cases gm j A with
 |none=>simp only[No,Wi,uB,go_sem];exact⟨rfl,trivial⟩
 |some p=>simp only[cU,Wi,uB,go_sem];exact⟨rfl,trivial⟩
theorem Qn {h:ai}{v:Value}{l:List Int}(A:jN h v l)(G:l.length≤4398046511104):
  ag prog dx #[v] h λr h'=>jG h' r l∧Ext h h'∧∀b,blk r b→h.size≤b:=by
 apply jU;unfold gu;have D:=A;obtain⟨a,cap,rfl,A⟩:=A;cases a with
 |none=>
  simp only[Kt,go_sem];rcases A with rfl|⟨b,o,h1,_⟩
  ·exact⟨MT,Ext.refl h,λb F=>F.elim⟩
  ·cases h1
 |some a=>
  simp only[Ks,go_sem];exact SC D G λr h' o e n=>⟨o,e,n⟩
theorem zfX (H:iT M h v room w rs)(j:Int):ag prog uF #[v,af j] h λr h'=>∃u,r=.tuple #[u,.bool (gm j rs).isSome]∧jG h' u ((gm j rs).getD [])∧Ext h h'∧∀b,blk u b→h.size≤b:=by
 have D:=H.nums;obtain⟨bx,bm,fr,t,G,L,rfl,R,rfl,I⟩:=H;apply KW;unfold zL;simp only[go_sem,ao R.var,Po R.map];rw[ud,ud];cases F:gm j G with
 |none=>
  simp only[No,Wi,uB,go_sem];refine(Qn (v:=.slice none 0 0) (l:=[]) ⟨none,0,rfl,.inl rfl⟩ (by simp)).mono ?_;rintro u h1 ⟨o,e,n⟩;exact⟨u,rfl,o,e,n⟩
 |some p=>
  simp only[cU,Wi,uB,go_sem];have A:=R.bag.own p (by simp;exact .inl ⟨j,Pw F⟩);refine(Qn A.1.ints (by rw[A.2.1];omega)).mono ?_;rintro u h1 ⟨o,e,n⟩;exact⟨u,rfl,o,e,n⟩
def yU:List Int→Int
 | []=>0
 |x::l=>l.foldl min x
theorem zaM {a b:List Int}(h:a.Perm b):yU a=yU b:=by
 have key:∀(l:List Int) (x:Int),(∀y∈x::l,l.foldl min x≤y)∧l.foldl min x∈x::l:=by
  intro l;induction l with
  |nil=>intro x;simp
  | cons z l I=>
   intro x;rw[yw];obtain⟨h1,D⟩:=I (min x z);have L:=h1 (min x z) (Kb ..);refine⟨λy F=>?_,?_⟩
   ·rcases kC.1 F with rfl|F
    ·omega
    ·rcases kC.1 F with rfl|F
     ·omega
     ·exact h1 y (xh _ F)
   ·rcases kC.1 D with D|D
    ·rw[D];rcases Ey x z with A|A
     ·rw[Int.min_eq_left A];simp
     ·rw[Int.min_eq_right A];simp
    ·exact xh _ (xh _ D)
 cases a with
 |nil=>have:=h.nil_eq;subst this;rfl
 | cons x l=>
  cases b with
  |nil=>have:=h.symm.nil_eq;cases this
  |cons y m=>
   obtain⟨a1,a2⟩:=key l x;obtain⟨H,G⟩:=key m y;exact Int.le_antisymm (a1 _ (h.mem_iff.2 G)) (H _ (h.mem_iff.1 a2))
theorem zaL {l:List Int}(h:l≠[])(x:Int):yU (l++[x])=min (yU l) x:=by
 cases l with
 |nil=>exact absurd rfl h
 |cons y l=>simp[yU]
theorem zeJ {h:ai}{v:Value}{l:List Int}(hv:jN h v l)(h0:l≠[])(hl:l.length≤4398046511104):
  ag prog iD #[v] h λr h'=>r=af (yU l)∧h'=h:=by
 apply ur;unfold kN;have hp:0<l.length:=vE.2 h0;have hs:=hv.sl;obtain⟨a,cap,rfl,_⟩:=hv;refine bB (λH h'=>H=[]∧h'=h) ?_ ?_
 ·simp only[go_sem];refine aq (λh1=>ae) (λ_=>⟨trivial,trivial⟩)
 ·rintro _ ρj h' ⟨rfl,hh⟩;subst hh;obtain⟨p,G,A⟩:=hs.at1 (k:=.i64) (i:=0) hp;rw[eE]at A;rw[show((0:Nat):Int)=0 from rfl]at G;simp only[go_sem,G,A];refine dy (λd H I=>I=h'∧∃(k:Nat),1≤k∧k≤l.length∧d=l.length-k∧H=[af (yU (l.take k)),af (k:Int)]) (l.length-1)
   ⟨rfl,1,ae,ae,rfl,?_⟩ ?_
  ·cases l with
   |nil=>exact absurd rfl h0
   |cons x l=>rfl
  ·rintro d _ ρj _ again ⟨rfl,k,h1,hk,rfl,rfl⟩ U;simp only[go_sem];refine aq (λad=>?_) (λaa=>?_)
   ·have D:k<l.length:=ae;obtain⟨p,W,F⟩:=hs.at1 (k:=.i64) D;rw[eE]at F;simp only[go_sem,W,F,vi];rw[w64 ae ae];refine U _ _ (l.length-(k+1)) ae ⟨rfl,k+1,ae,ae,rfl,?_⟩;have L:l.take k≠[]:=λh=>by
     have h9:=congrArg List.length h;rw[di,lX]at h9;omega
    rw[jE D,zaL L];rfl
   ·rw[fg ae];exact⟨rfl,trivial⟩
theorem Xe (H:iT M h v room w rs):ag prog qs #[v] h λr h'=>r=.tuple #[af (yU (rs.map Prod.fst)),.bool (!decide (rs=[]))]∧Ext h h':=by
 have L:=H.nums;obtain⟨bx,bm,fr,t,F,fv,rfl,R,rfl,h2⟩:=H;apply GU;unfold wL;by_cases h0:F=[]
 ·subst h0;simp only[go_sem,ao R.var,UG R.map,rL,List.map_nil,lX,Int.natCast_zero];exact⟨rfl,Ext.refl h⟩
 ·have hl:¬(((rL Prod.fst F).length:Nat):Int)=0:=by
   simp only[rL,da];have:=vE.2 h0;omega
  simp only[go_sem,ao R.var,UG R.map,hl];apply jD;unfold eU;refine aI λb1 h1 r1 I n1=>?_
  have D:(rL Prod.fst F).length≤1000000:=by
   have:=R.len;have:=R.nums;simp only[rL,da];omega
  refine(Xh r1 (R.map.ext I) (λp W=>?_) D).mono ?_
  ·obtain⟨e,he,rfl⟩:=gQ.1 W;exact R.keys e he
  rintro u h3 ⟨ss,A,U,e3,n3⟩;have G:ss.length=F.length:=by rw[A.length_eq];simp[rL]
  refine(zeJ U.ints (by intro h;subst h;simp at G;exact h0 (lg G.symm)) (by have:=R.len;have:=R.nums;omega)).mono ?_;rintro _ h4 ⟨rfl,rfl⟩;refine⟨?_,I.trans e3⟩;rw[zaM A,Af,Af];have:¬rL Prod.snd F=[]:=by simpa[rL]using h0
  simp[this]
end
end
theorem Kj {α:Type}{j:Int}{p:α}{A:List (Int×α)}(D:gm j A=some p):(qQ j A).length+1=A.length:=by
 have:=(Lg D).length_eq;simpa using this.symm
theorem zfU {M:Nat→Prop}{h:ai}{bx bm:Nat}{fr:Value}{t:TypeId}{room w:Nat}{L:List (Int×(Value×List Int))}{G:List (Value×List Int)}(R:A7 M h bx bm fr t room w L G []){j:Int}{p:Value×List Int}(hg:gm j L=some p):
  ag prog rW #[.pointer (some ⟨bx,0,none⟩),af j] h λ_ h'=>∃M' U,A7 M' h' bx bm U t room w (qQ j L) (G++[p]) []∧Fr M h h'∧(∀k,M' k→M k∨h.size≤k)∧
   ∀W c,h[bm]? =some (.map W c)→∃al,h'[bm]? =some (.map al c)∧∀e∈al,e∈W∧e.key≠af j:=by
 apply Jk;unfold xV;refine aQ (λhh=>hh[bx]? =some (.cells #[af room,af w,.map (some bm),fr] t (0,0))∧hh[bm]? =h[bm]?) ⟨R.var,rfl⟩ ?_
 try simp only[go_sem]
 refine aF fr (λhh S=>by rw[ao S.1];rfl) ?_;refine aF (.map (some bm)) (λhh S=>by rw[ao S.1];rfl) ?_;refine aF p.1 (λhh S=>by rw[Po (R.map.row S.2),ud,hg];rfl) ?_;have ax:p∈L.map Prod.snd++G++[]:=by simp;exact .inl ⟨j,Pw hg⟩
 have hp:=R.bag.own p ax;have ar:=Er hp.1;refine cT (Rp.fill_one ar) λb1 h1 r1 H n1=>?_
 have bd:=aW R.var;have aa:=R.map.lt;refine⟨⟨H.row R.var,H.2 bm aa⟩,?_⟩;have S1:=Rp.SlC.single (cs:=[p.1]) r1;have a8:=R.nums;have au:=R.tot;simp only[lX,ic]at au;refine ui (R.free.fr (M:=λ_=>False) H.fr λ_ _=>id) S1 (az ar aU) rfl ae ae λU h2 o2 f2 n2=>?_
 have v2:=f2.row (H.row R.var) R.ap.2.1;have m2:h2[bm]? =h[bm]? :=(f2.2 bm (ce aa H.1) R.ap.2.2).trans (H.2 bm aa);refine⟨⟨v2,m2⟩,?_⟩;have F:∀k,blk U k→k≠bx∧k≠bm:=λk A=>by
  rcases n2 k A with h3|h3
  ·exact⟨λh4=>R.ap.2.1 (h4▸h3),λh4=>R.ap.2.2 (h4▸h3)⟩
  ·have:=H.1;exact⟨ae,ae⟩
 obtain⟨fa,fc,rfl⟩:∃a c,U=.slice a (G.length+1) c:=o2.isSl
 try simp only[go_sem]
 refine bG (o:=3) v2 (by simp) rfl λh3 r3 u3=>?_
 have r3:h3[bx]? =some (.cells #[af room,af w,.map (some bm),.slice fa (G.length+1) fc] t (0,0)):=r3;have m3:h3[bm]? =h[bm]? :=(u3.2 bm (ie R.ap.1)).trans m2;simp only[go_sem,ao r3];refine zcJ (R.map.row m3) λh4 m4 u4 d4=>?_
 have am:Fr (λk=>M k) h h4:=((H.fr.trans (f2.mono λk _ A=>R.inM.2.2 k A)).trans (u3.fr.mono λk _ A=>by rw[show k=bx from A];exact R.inM.1)).trans (u4.fr.mono λk _ A=>by rw[show k=bm from A];exact R.inM.2.1);have a9:∀k,M k→k<h.size:=R.lt;have ad:(((qQ j L).map Prod.snd++(G++[p]))++[]).Perm (L.map Prod.snd++G++[]):=by
  have I:=(Lg hg).map Prod.snd;rw[yV]at I;rw[iC,iC,←cL];exact(JI (l₁:=(qQ j L).map Prod.snd++G) (l₂:=[p])).trans (I.symm.append_right G)
 have D:∀q∈L.map Prod.snd++G++[],∀k,blk q.1 k→k≠bx∧k≠bm∧¬blk fr k∧M k:=λq hq=>(R.bag.own q hq).2.2
 have an:Bag M h4 bx bm fr w (L.map Prod.snd++G++[]):=by
  refine(((R.bag.ext H).fr f2 λq hq k A=>(D q hq k A).2.2.1).fr u3.fr λq hq k A=>(D q hq k A).1).fr u4.fr λq hq k A=>(D q hq k A).2.1
 refine⟨λk=>M k∨blk (.slice fa (G.length+1) fc) k,.slice fa (G.length+1) fc,?_,am,λk A=>?_,?_⟩
 ·exact{
   var:=u4.row (λh=>R.ap.1 h) r3
   map:=by rw[Pz]at m4;exact m4
   free:=by
    have:=(o2.fr u3.fr λk A=>(F k A).1).fr u4.fr λk A=>(F k A).2
    rw[cF,jW];exact this
   bag:=(an.mono (λk A=>.inl A) λq hq k A a7=>by
    rcases n2 k a7 with I|I
    ·exact(D q hq k A).2.2.1 I
    ·have:=R.lt k (D q hq k A).2.2.2;have:=H.1;omega).perm ad
   ap:=⟨R.ap.1,λA=>(F _ A).1 rfl,λA=>(F _ A).2 rfl⟩
   inM:=⟨.inl R.inM.1,.inl R.inM.2.1,λk A=>.inr A⟩
   lt:=λk A=>by
    rcases A with A|A
    ·exact ce (R.lt k A) am.1
    ·have:=o2.lt A;have:=u3.1;have:=u4.1;omega
   nums:=R.nums
   keys:=λe he=>R.keys e (Py.subset he)
   len:=by have:=Kj hg;have:=R.len;omega
   tot:=by have:=Kj hg;simp;omega}
 ·rcases A with A|A
  ·exact .inl A
  ·rcases n2 k A with I|I
   ·exact .inl (R.inM.2.2 k I)
   ·exact .inr (bA H.1 I)
 ·intro W c ay;exact d4 W c (m3.trans ay)
theorem Own.shrink {h:ai}{v:Value}{n:Nat}{cs:List Value}(H:Own 1 h v n cs)(W:0<n):∃D,ni 1 v none (some (af ((n-1:Nat):Int)))=some D∧Own 1 h D (n-1) cs.dropLast∧(∀k,blk D k→blk v k):=by
 rcases H with⟨rfl,rfl,rfl⟩|⟨b,cap,r,e,rfl,hc,F,G,U⟩
 ·omega
 ·have A:cs≠[]:=λh0=>by rw[h0]at F;simp at F;omega
  refine⟨.slice (some ⟨b,0,none⟩) (n-1) cap,?_,.inr ⟨b,cap,cs.getLast A::r,e,rfl,ae,by simp;omega,?_,?_⟩,λk I=>I⟩
  ·have h1:(0:Int)≤((n-1:Nat):Int)∧((n-1:Nat):Int)≤(cap:Int):=ae;have L:¬cap=0:=ae;simp only[ni,bdV,aB h1,dJ,aA L,cU,nO,AN,AR,ic]
  ·rw[←G]
   conv=>rhs;rw[←T7 A]
   simp
  ·rw[U]
   conv=>lhs;rw[←T7 A]
   simp
theorem Bag.last {M:Nat→Prop}{h h':ai}{bx bm:Nat}{fr:Value}{w:Nat}{all:List (Value×List Int)}{u:Value}{D l:List Int}(B:Bag M h bx bm fr w (all++[(u,D)]))(f:Fr (blk u) h h')(o:jG h' u l)(F:l.length=w):Bag M h' bx bm fr w (all++[(u,l)]) where
 own:=λp A=>by
  rcases gP.1 A with A|A
  ·have h1:=B.own p (MX _ A);have H:=(sF.1 B.apart).2.2 p A (u,D) (by simp);exact⟨h1.1.fr f λk G=>H k G,h1.2⟩
  ·rw[ia.1 A];exact⟨o,F,(B.own (u,D) (by simp)).2.2⟩
 apart:=by
  have h1:=sF.1 B.apart;refine sF.2 ⟨h1.1,by simp,λa I b L=>?_⟩;rw[ia.1 L];exact h1.2.2 a I (u,D) (by simp)
theorem zeo {M:Nat→Prop}{h:ai}{bx bm:Nat}{fr:Value}{t:TypeId}{room w:Nat}{L:List (Int×(Value×List Int))}{D:List (Value×List Int)}(R:A7 M h bx bm fr t room w L D [])(h1:L.length<room)(h2:L.length+D.length≤room):
  ag prog qk #[.pointer (some ⟨bx,0,none⟩)] h λu h'=>∃M' a7 al l0,A7 M' h' bx bm a7 t room w L al [(u,l0)]∧Fr M h h'∧(∀k,M' k→M k∨h.size≤k)∧L.length+1+al.length≤room:=by
 apply GR;unfold wI;have bd:=R.nums;obtain⟨fa,fc,rfl⟩:=R.free.isSl;simp only[go_sem,ao R.var];refine aq (λhp=>?_) (λhz=>?_)
 ·have hp:0<D.length:=ae;have aa:IntKind.i64.wrap ((D.length:Int)-1)=((D.length-1:Nat):Int):=by rw[w64 ae ae];omega
  obtain⟨p,a9,ax⟩:=R.free.sl.at1 (k:=.i64) (i:=D.length-1) ae;obtain⟨v',an,ad,F⟩:=Own.shrink R.free hp;rw[aa,a9,ah,ax,ah,an,ah];have H:D≠[]:=vE.1 hp;have I:(D.map Prod.fst)[D.length-1]'(by simp;omega)=(D.getLast H).1:=by
   rw[eE];congr 1;rw[List.getLast_eq_getElem]
  rw[I];refine bG (o:=3) R.var (by simp) (by obtain⟨_,_,rfl⟩:=ad.isSl;rfl) λh3 r3 u3=>?_
  have r3:h3[bx]? =some (.cells #[af room,af w,.map (some bm),v'] t (0,0)):=r3;have am:D.dropLast.map Prod.fst=(D.map Prod.fst).dropLast:=by simp
  refine⟨M,v',D.dropLast,(D.getLast H).2,?_,u3.fr.mono λk _ A=>by rw[show k=bx from A];exact R.inM.1,λk A=>.inl A,by simp;omega⟩;have a8:∀k,blk v' k→k≠bx:=λk A ay=>R.ap.2.1 (ay▸F k A)
  have U:(L.map Prod.snd++D.dropLast++[D.getLast H]).Perm (L.map Prod.snd++D++[]):=by
   rw[cL,T7 H,iC]
  exact{
   var:=r3
   map:=R.map.row (u3.2 bm (ie R.ap.1))
   free:=by rw[List.length_dropLast,am];exact ad.fr u3.fr λk A=>a8 k A
   bag:=((R.bag.fr u3.fr λq hq k A=>((R.bag.own q hq).2.2 k A).1).mono (λk A=>A) λq hq k A G=>((R.bag.own q hq).2.2 k A).2.2.1 (F k G)).perm U
   ap:=⟨R.ap.1,λA=>R.ap.2.1 (F _ A),λA=>R.ap.2.2 (F _ A)⟩
   inM:=⟨R.inM.1,R.inM.2.1,λk A=>R.inM.2.2 k (F k A)⟩
   lt:=λk A=>by rw[u3.1];exact R.lt k A
   nums:=R.nums,keys:=R.keys,len:=R.len
   tot:=by simp;omega}
 ·have au:D=[]:=lg ae;subst au;refine pN rfl ae ae λu h3 o3 e3 n3=>?_
  have ar:jG h3 u (List.replicate w 0):=by
   unfold jG;rw[xc,Ub];exact o3
  have R3:=R.fr (Q:=λ_=>False) e3.fr λ_ _ _=>id
  refine⟨λk=>M k∨blk u k,.slice fa ([]:List (Value×List Int)).length fc,[],List.replicate w 0,?_,e3.fr,λk A=>A.imp id (n3 k),by simp;omega⟩;have hu:∀k,blk u k→¬M k:=λk A hm=>by have:=R.lt k hm;have:=n3 k A;omega
  exact{R3 with
   bag:=by
    refine⟨λq hq=>?_,?_⟩
    ·rcases gP.1 hq with hq|hq
     ·have W:=R3.bag.own q (by simpa using hq);exact⟨W.1,W.2.1,λk A=>⟨(W.2.2 k A).1,(W.2.2 k A).2.1,(W.2.2 k A).2.2.1,.inl (W.2.2 k A).2.2.2⟩⟩
     ·rw[ia.1 hq];exact⟨ar,by simp,λk A=>⟨λh=>hu k A (h▸R.inM.1),λh=>hu k A (h▸R.inM.2.1),λh=>hu k A (R.inM.2.2 k h),.inr A⟩⟩
    ·refine sF.2 ⟨by simpa using R3.bag.apart,by simp,λa ha b hb k A G=>?_⟩;rw[ia.1 hb]at G;exact hu k G ((R3.bag.own a (by simpa using ha)).2.2 k A).2.2.2
   inM:=⟨.inl R.inM.1,.inl R.inM.2.1,λk A=>.inl (R.inM.2.2 k A)⟩
   lt:=λk A=>by
    rcases A with A|A
    ·exact R3.lt k A
    ·exact o3.lt A
   tot:=by simp;omega}
def DA (room:Nat)(rs:List (Int×List Int)):Bool:=decide (room≤rs.length)
def w9 (room w:Nat)(rs:List (Int×List Int))(j:Int)(l:List Int):Bool:=decide (l.length=w)&&((gm j rs).isNone&& !(DA room rs&&decide (j<yU (rs.map Prod.fst))))
def nM (room:Nat)(rs:List (Int×List Int)):List (Int×List Int):=if DA room rs=true then qQ (yU (rs.map Prod.fst)) rs else rs
def VC (room w:Nat)(rs:List (Int×List Int))(j:Int)(l:List Int):List (Int×List Int):=if w9 room w rs j l=true then nM room rs++[(j,l)]else rs
theorem Wc {l:List Int}(h:l≠[]):yU l∈l:=by
 have key:∀(l:List Int) (x:Int),l.foldl min x∈x::l:=by
  intro l;induction l with
  |nil=>intro x;simp
  | cons z l F=>
   intro x;rw[yw];rcases kC.1 (F (min x z))with D|D
   ·rw[D];rcases Ey x z with A|A
    ·rw[Int.min_eq_left A];simp
    ·rw[Int.min_eq_right A];simp
   ·exact xh _ (xh _ D)
 cases l with
 |nil=>exact absurd rfl h
 |cons x l=>exact key l x
theorem zfY {M:Nat→Prop} {h:ai} {v u:Value} {room w:Nat} {rs:List (Int×List Int)} (H:iT M h v room w rs) {j:Int} (hj:(Lit.int .i64 j).wf=true) {l:List Int} (hu:jN h u l) (cc:l.length≤9223372036854775807) (hn:∀b,blk u b→¬M b):
  ag prog uG #[v,af j,u] h λr h'=>r=.bool (w9 room w rs j l)∧∃M',iT M' h' v room w (VC room w rs j l)∧Fr M h h'∧∀k,M' k→M k∨h.size≤k:=by
 have H0:=H;have b7:=H.nodup;have ca:=H.nums;have bo:=λh' (e:Ext h h')=>Xe (H.ext e)
 obtain⟨bx,bm,fr,t,es,fv,rfl,R,L,bk⟩:=H;apply KX;unfold zN;have b1:=hu;obtain⟨ua,uc,rfl,_⟩:=hu;have no:w9 room w rs j l=false→∀h',Ext h h'→∃M',iT M' h' (.pointer (some ⟨bx,0,none⟩)) room w (VC room w rs j l)∧Fr M h h'∧∀k,M' k→M k∨h.size≤k:=λF h' e=>
  ⟨M,by unfold VC;rw[F];exact H0.ext e,e.fr,λk A=>.inl A⟩
 by_cases hw:l.length=w
 ·have au:(l.length:Int)=(w:Int):=ae;simp only[go_sem,ao R.var,au];refine(zdd H0 j).mono ?_;rintro _ h1 ⟨rfl,hh⟩;subst hh
  try simp only[go_sem]
  cases hg:gm j rs with
  |some q=>
   simp only[Option.isSome_some,go_sem];have F:w9 room w rs j l=false:=by simp[w9,hg]
   exact⟨by rw[F],no F _ (Ext.refl _)⟩
  | none=>
   simp only[Option.isSome_none,go_sem];refine bB (λxs h'=>xs=[]∧w9 room w rs j l=true∧∃M' ax aa bd,A7 M' h' bx bm ax t room w aa bd []∧aa.length<room∧aa.length+bd.length≤room∧rL Prod.snd aa=nM room rs∧Fr M h1 h'∧∀k,M' k→M k∨h1.size≤k) ?_ ?_
   ·refine(Xe H0).mono ?_;rintro _ h2 ⟨rfl,e2⟩;have R2:=R.fr (Q:=λ_=>False) e2.fr λ_ _ _=>id
    have b6:(rL Prod.fst es).length=rs.length:=by rw[L];simp[rL]
    simp only[go_sem,ao R2.var,UG R2.map,b6];refine aq (λD=>?_) (λa8=>?_)
    ·have D:room≤rs.length:=ae;have hf:DA room rs=true:=by simp[DA,D]
     refine aq (λb5=>?_) (λb8=>?_)
     ·have F:w9 room w rs j l=false:=by simp[w9,hf,b5]
      exact⟨by rw[F],no F _ e2⟩
     ·have F:w9 room w rs j l=true:=by simp[w9,hf,b8,hg,hw]
      have b0:rs.map Prod.fst≠[]:=λh0=>by
       have:=congrArg List.length h0;simp at this;rw[this]at D;simp at D;omega
      have W:=Wc b0;generalize hm:yU (rs.map Prod.fst)=m at W;have A:∃p,gm m es=some p:=by
       cases hc:gm m es with
       |some p=>exact⟨p,rfl⟩
       |none=>
        have:=rM.1 hc;rw[L,Af]at W;exact absurd W this
      obtain⟨p,A⟩:=A;refine(zfU R2 A).mono ?_;rintro _ h3 ⟨M',ax,G,f3,n3,_⟩;have ci:=Kj A;have bv:es.length=rs.length:=by rw[L];simp[rL]
      refine⟨trivial,F,M',ax,qQ m es,fv++[p],G,by have:=R.len;omega,by simp;omega,?_,e2.fr.trans f3,λk A=>(n3 k A).imp id λU=>bA e2.1 U⟩;unfold nM;rw[aB hf,hm,L,Pz]
    ·have a8:¬room≤rs.length:=ae;have hf:DA room rs=false:=by simp[DA];omega
     have bv:es.length=rs.length:=by rw[L];simp[rL]
     refine⟨trivial,by simp[w9,hf,hg,hw],M,fr,es,fv,R2,ae,bk,?_,e2.fr,λk A=>.inl A⟩;unfold nM;rw[hf];exact L.symm
   ·rintro _ ρj h2 ⟨rfl,F,M2,cb,I,cp,R2,l2,t2,a7,f2,n2⟩;refine(zeo R2 l2 t2).mono ?_;rintro x h3 ⟨M3,be,a9,l0,G,f3,n3,t3⟩;have ad:=G.bag.own (x,l0) (by simp);have f13:Fr (λk=>M k∨h1.size≤k) h1 h3:=(f2.mono λk _ A=>.inl A).trans (f3.mono λk _ A=>n2 k A);have bg:Fr M h1 h3:=⟨f13.1,λb hb hm=>f13.2 b hb λhc=>hc.elim hm λU=>ae⟩
    have us:SlC 1 h3 (.slice ua l.length uc) l.length (l.map vi):=b1.sl.fr bg λb _ hb=>hn b hb
    have xo:Own 1 h3 x w (l0.map vi):=by
     have U:=ad.1;unfold jG at U;rw[ad.2.1]at U;exact U
    have xl:(l0.map vi).length=w:=by rw[da];exact ad.2.1
    refine Ku xo us Tb λh4 o4 f4 s4=>?_
    have b3:jG h4 x l:=by
     have h6:(l.map vi).take w++(l0.map vi).drop l.length=l.map vi:=by
      rw[fg (by rw[da];omega),oC ae,iC]
     rw[h6]at o4;unfold jG;rw[hw];exact o4
    have am:=G.bag.last (l:=l) f4 b3 hw;have al:=ad.2.2;have v4:=f4.row G.var λhb=>(al _ hb).1 rfl
    have m4:=G.map.fr f4 λhb=>(al _ hb).2.1 rfl
    have b2:=G.free.fr f4 λk A an=>(al k an).2.2.1 A
    simp only[go_sem,ao v4];refine zdO m4 λU m5 u5=>?_
    have ar:gm j I=none:=by
     cases hc:gm j I with
     |none=>rfl
     | some p=>
      exfalso;have h6:gm j (nM room rs)=some p.2:=by rw[←a7,ud,hc];rfl
      unfold nM at h6;split at h6
      ·rw[Ki b7,hg]at h6;split at h6<;>cases h6
      ·rw[hg]at h6;cases h6
    have ay:Wr j x (rL Prod.fst I)=rL Prod.fst (I++[(j,(x,l))]):=by
     rw[Pv (by rw[ud,ar];rfl)];simp[rL]
    rw[ay]at m5;have f35:Fr M3 h3 U:=(f4.mono λk _ A=>(al k A).2.2.2).trans (u5.fr.mono λk _ A=>by rw[show k=bm from A];exact G.inM.2.1);have f15:Fr M h1 U:=by
     have h7:Fr (λk=>M k∨h1.size≤k) h1 U:=f13.trans (f35.mono λk _ A=>(n3 k A).elim (n2 k) λh8=>.inr (bA f2.1 h8));exact⟨h7.1,λb hb hm=>h7.2 b hb λhc=>hc.elim hm λU=>ae⟩
    refine⟨by rw[F],M3,⟨bx,bm,be,t,I++[(j,(x,l))],a9,rfl,?_,?_,by simp;omega⟩,f15,λk A=>(n3 k A).elim (n2 k) λh8=>.inr (bA f2.1 h8)⟩
    ·have b4:Bag M3 U bx bm be w (I.map Prod.snd++a9++[(x,l)]):=am.fr u5.fr λq hq k A=>((am.own q hq).2.2 k A).2.1
     exact{
      var:=u5.row (λh=>G.ap.1 h) v4
      map:=m5
      free:=b2.fr u5.fr λk A an=>G.ap.2.2 (an▸A)
      bag:=b4.perm (by
       rw[iC,jW,cL,cL];exact(JI (l₁:=[(x,l)])).append_left _)
      ap:=G.ap,inM:=G.inM
      lt:=λk A=>ce (G.lt k A) f35.1
      nums:=G.nums
      keys:=λe he=>by
       rcases gP.1 he with he|he
       ·exact G.keys e he
       ·rw[ia.1 he];exact hj
      len:=by simp;omega
      tot:=by simp;omega}
    ·unfold VC;rw[aB F,←a7];simp[rL]
 ·have au:¬(l.length:Int)=(w:Int):=ae;have F:w9 room w rs j l=false:=by simp[w9,hw]
  simp only[go_sem,ao R.var,au];exact⟨by rw[F],no F _ (Ext.refl _)⟩
def LA (rs:List (Int×List Int))(a b n:Int)(is:Bool):Prop:=
 (is=true∧a≤n∧n<b∧gm n rs=none∧∀i,a≤i→i<n→(gm i rs).isSome=true)∨(is=false∧n=0∧∀i,a≤i→i<b→(gm i rs).isSome=true)
theorem zeI {M:Nat→Prop}{h:ai}{v:Value}{room w:Nat}{rs:List (Int×List Int)}(H:iT M h v room w rs){a b:Int}(ha: -9223372036854775808≤a)(hb:b≤9223372036854775807):
  ag prog rX #[v,af a,af b] h λr h'=>(∃n L,r=.tuple #[af n,.bool L]∧LA rs a b n L)∧h'=h:=by
 apply Jl;unfold xW;refine dy (λd W h'=>h'=h∧∃j,a≤j∧d=(b-j).toNat∧W=[af j]∧∀i,a≤i→i<j→(gm i rs).isSome=true) (b-a).toNat ⟨rfl,a,ae,rfl,rfl,λi h1 D=>ae⟩ ?_;rintro d _ ρj h1 again ⟨hh,j,F,rfl,rfl,A⟩ I;subst hh;simp only[go_sem];refine aq (λG=>?_) (λaa=>?_)
 ·refine(zdd H j).mono ?_;rintro _ D ⟨rfl,hh⟩;subst hh
  try simp only[go_sem]
  cases U:gm j rs with
  |none=>
   simp only[Option.isSome_none,go_sem];exact⟨⟨j,true,rfl,.inl ⟨rfl,F,G,U,A⟩⟩,trivial⟩
  |some p=>
   simp only[Option.isSome_some,go_sem];rw[w64 ae ae];refine I _ _ (b-(j+1)).toNat ae ⟨rfl,j+1,ae,rfl,rfl,λi h1 D=>?_⟩;by_cases hi:i=j
   ·rw[hi,U];rfl
   ·exact A i h1 ae
 ·exact⟨⟨0,false,rfl,.inr ⟨rfl,rfl,λi h1 D=>A i h1 ae⟩⟩,trivial⟩
theorem wf64 {n:Int}(h1: -9223372036854775808≤n)(A:n≤9223372036854775807):(Lit.int .i64 n).wf=true:=by
 show(decide (IntKind.i64.min≤n)&&decide (n≤IntKind.i64.max))=true;rw[dt,dH,dH];exact⟨h1,A⟩
end Go.Proofs.YtjljhnandbbldaaGreatDoor
namespace Go.Proofs.YtjljhnandbbldaaGreatDoor
open Go Go.Crisp
attribute [local irreducible] ag cO aT stK aG vK qK bL gK eM bC mkK cR HA JA Ep bsK clK vu pP Zb
open _root_.Go.Proofs.Tryz
section
structure fS where
 m:Pic
 s:Stg
 t:dc
structure fS.Wf (d:fS):Prop where
 m:d.m.Wf
 s:d.s.Wf
 su:kY d.m d.s
 w1:1≤d.t.w
 h1:1≤d.t.h
 x0:0≤d.t.x
 y0:0≤d.t.y
 xw:d.t.x+d.t.w≤d.s.x.lines.length
 yh:d.t.y+d.t.h≤d.s.y.lines.length
abbrev X8 (bf bt:Nat)(p q rv:Value)(d:fS)(y:Int):List Value:=[ptr bf,ptr bt,p,q,.int .i64 d.s.border]++dO d.t++[rv,.int .i64 y]
structure fT (Z M:Nat→Prop)(h:ai)(bj bf:Nat)(vf:Value)(bt:Nat)(vt p q rv:Value)(d:fS)(y:Int)(n:Pic)(room w:Nat)(rs:List (Int×List Int)):Prop where
 row:h[bj]? =some (.cells (X8 bf bt p q rv d y).toArray 246 (0,0))
 src:du h bf vf d.m
 tx:gd Z h p d.s.x
 ty:gd Z h q d.s.y
 ring:iT M h rv room w rs
 out:du h bt vt n
 zf:Z bf∧∀c,blk vf c→Z c
 zz:∀c,Z c→¬M c∧c≠bj∧¬blk vt c
 mj:¬M bj∧¬M bt∧(∀c,blk vt c→¬M c)
 jt:bj≠bt∧¬blk vt bj
 y0:d.t.y≤y
 y1:y≤d.t.y+d.t.h
 zl:∀c,Z c→c<h.size
section
variable {Z M:Nat→Prop}{h:ai}{bj bf:Nat}{vf:Value}{bt:Nat}{vt p q rv:Value}{d:fS}{y:Int}{n:Pic}{room w:Nat}{rs:List (Int×List Int)}
theorem fT.ext {h':ai}(J:fT Z M h bj bf vf bt vt p q rv d y n room w rs)(e:Ext h h'):fT Z M h' bj bf vf bt vt p q rv d y n room w rs:=
 ⟨e.row J.row,J.src.ext e,J.tx.ext e,J.ty.ext e,J.ring.ext e,J.out.ext e,J.zf,J.zz,J.mj,J.jt,J.y0,J.y1,λc hc=>ce (J.zl c hc) e.1⟩
theorem fS.bd (W:d.Wf):d.t.x+d.t.w≤65536∧d.t.y+d.t.h≤65536:=by
 have:=W.s.x.len;have:=W.s.y.len;have:=W.xw;have:=W.yh;omega
theorem zfP (J:fT Z M h bj bf vf bt vt p q rv d y n room w rs)(W:d.Wf):ag prog qe #[ptr bj] h λr h'=>r=.bool (decide (d.t.y+d.t.h≤y))∧h'=h:=by
 apply GK;unfold wD;have D:=fS.bd W;have h1:=W.y0;have A:=W.h1;simp only[go_sem,aO,ao J.row];simp only[X8,dO,oF,eZ,yX,yB,EJ,go_sem];rw[w64 (n:=d.t.y+d.t.h) ae ae];exact⟨rfl,trivial⟩
theorem fT.c2 {h':ai}(J:fT Z M h bj bf vf bt vt p q rv d y n room w rs)(e:Ext h h'):aE h' ⟨bj,2,none⟩=some p:=by rw[ao (e.row J.row)];rfl
theorem fT.c3 {h':ai}(J:fT Z M h bj bf vf bt vt p q rv d y n room w rs)(e:Ext h h'):aE h' ⟨bj,3,none⟩=some q:=by rw[ao (e.row J.row)];rfl
theorem fT.c4 {h':ai}(J:fT Z M h bj bf vf bt vt p q rv d y n room w rs)(e:Ext h h'):aE h' ⟨bj,4,none⟩=some (af d.s.border):=by rw[ao (e.row J.row)];rfl
theorem fT.c0 {h':ai}(J:fT Z M h bj bf vf bt vt p q rv d y n room w rs)(e:Ext h h'):aE h' ⟨bj,0,none⟩=some (ptr bf):=by rw[ao (e.row J.row)];rfl
theorem fT.c1 {h':ai}(J:fT Z M h bj bf vf bt vt p q rv d y n room w rs)(e:Ext h h'):aE h' ⟨bj,1,none⟩=some (ptr bt):=by rw[ao (e.row J.row)];rfl
theorem fT.c6 {h':ai}(J:fT Z M h bj bf vf bt vt p q rv d y n room w rs)(e:Ext h h'):aE h' ⟨bj,6,none⟩=some (af d.t.x):=by rw[ao (e.row J.row)];rfl
theorem fT.c8 {h':ai}(J:fT Z M h bj bf vf bt vt p q rv d y n room w rs)(e:Ext h h'):aE h' ⟨bj,8,none⟩=some (af d.t.w):=by rw[ao (e.row J.row)];rfl
theorem fT.c15 {h':ai}(J:fT Z M h bj bf vf bt vt p q rv d y n room w rs)(e:Ext h h'):aE h' ⟨bj,15,none⟩=some rv:=by rw[ao (e.row J.row)];rfl
theorem fT.c16 {h':ai}(J:fT Z M h bj bf vf bt vt p q rv d y n room w rs)(e:Ext h h'):aE h' ⟨bj,16,none⟩=some (af y):=by rw[ao (e.row J.row)];rfl
theorem SR (J:fT Z M h bj bf vf bt vt p q rv d y n room w rs)(W:d.Wf):ag prog lK #[ptr bj] h λr h'=>
  ∃u,r=.agg #[af (bK d.s.y y).1,u]∧SlI (gn h h') h' u (bK d.s.y y).2∧Ext h h':=by
 apply GL;unfold wE;refine aI λb1 h1 r1 A I=>?_
 have U:=aW r1;simp only[go_sem,aO];refine aQ (λh'=>h'=h1) rfl ?_;refine aF q (λh' e=>by rw[e];exact J.c3 A) ?_;refine aF (af y) (λh' e=>by rw[e];exact J.c16 A) ?_;refine(DM (J.ty.ext A) W.s.y).mono λr L ⟨u,e,S,G⟩=>?_
 subst e;refine bI (l:=[af (bK d.s.y y).1,u]) (G.row r1) rfl (az rfl (az S.one aU)) rfl λh3 H F=>?_
 rw[aL H 2 rfl,ah];refine⟨u,rfl,?_,(A.trans G).upd I F⟩;refine(S.fr F.fr λc _ D he=>?_).mono λc hc D=>⟨bA A.1 D.1,hc⟩
 have:=D.1;omega
abbrev Dq (k j:Int):Value:=.agg #[.int .i64 k,.int .i64 j]
def Xp (d:fS)(y:Int)(rs:List (Int×List Int))(k j:Int):Prop:=
 if d.t.y+d.t.h≤y then k=0∧j=0 else
  (k=1∧LA rs (bK d.s.y y).1 ((bK d.s.y y).1+((bK d.s.y y).2.length:Int)) j true)∨(k=2∧j=y∧LA rs (bK d.s.y y).1 ((bK d.s.y y).1+((bK d.s.y y).2.length:Int)) 0 false)
theorem zbp (J:fT Z M h bj bf vf bt vt p q rv d y n room w rs)(W:d.Wf):ag prog jn #[ptr bj] h λr h'=>∃k j,r=Dq k j∧Xp d y rs k j∧Ext h h':=by
 apply GN;unfold wG;refine aI λb1 h1 r1 H n1=>?_
 have l1:=aW r1;have G:=J.ext H;refine(zfP G W).mono λr I ⟨e,A⟩=>?_
 have A:=A.symm;subst e A;refine aq (λI=>?_) (λI=>?_)
 ·rw[ii,bH,ah];refine bI (l:=[aj,aj]) r1 rfl (az rfl (az rfl aU)) rfl λh3 r3 u3=>?_
  rw[aL r3 2 rfl,ah];exact⟨0,0,rfl,by unfold Xp;rw[aB I];exact⟨rfl,rfl⟩,H.upd n1 u3⟩
 refine(SR G W).mono λr h3 ⟨u,e,S,e3⟩=>?_
 subst e;refine cX (cs:=[af (bK d.s.y y).1,u]) rfl (az rfl (az S.one aU)) rfl λb4 h4 r4 e4 n4=>?_
 have D:=e3.trans e4;have J4:=G.ext D;have hl:=sD W.s.y y;obtain⟨au,cu,eu⟩:=S.isSl;have U:aD u=some (af ((bK d.s.y y).2.length:Int)):=by rw[eu];rfl
 have hN:∀k j,Xp d y rs k j↔((k=1∧LA rs (bK d.s.y y).1 ((bK d.s.y y).1+((bK d.s.y y).2.length:Int)) j true)∨(k=2∧j=y∧LA rs (bK d.s.y y).1 ((bK d.s.y y).1+((bK d.s.y y).2.length:Int)) 0 false)):=λk j=>by unfold Xp;rw[aA I]
 generalize bK d.s.y y=L at*;refine aQ (λh'=>h'=h4) rfl ?_;simp only[go_sem,aO];refine aF rv (λh' e=>by rw[e];exact G.c15 D) ?_;refine aF (af L.1) (λh' e=>by rw[e];exact ao r4) ?_;refine aF (af L.1) (λh' e=>by rw[e];exact ao r4) ?_;refine aF u (λh' e=>by rw[e];exact ao r4) ?_;refine aF (af (L.2.length:Int)) (λh' e=>U) ?_;simp only[go_sem];rw[w64 (n:=L.1+(L.2.length:Int)) ae ae];refine(zeI J4.ring (a:=L.1) (b:=L.1+(L.2.length:Int)) ae ae).mono λr h5 ⟨⟨j,is,e,hn⟩,A⟩=>?_
 have A:=A.symm;subst e A;simp only[go_sem];have F:=D.row r1;refine iQ (λhi=>?_) (λhi=>?_)
 ·subst hi;have hf:aR #[aj,aj] [(0,1,af 1),(1,1,af j)]=some #[aJ,af j]:=A5 rfl rfl;rw[hf,bH,ah];refine bI (l:=[aJ,af j]) F rfl (az rfl (az rfl aU)) rfl λh6 r6 u6=>?_
  rw[aL r6 2 rfl,ah];exact⟨1,j,rfl,(hN 1 j).2 (.inl ⟨rfl,hn⟩),(H.trans D).upd n1 u6⟩
 ·subst hi;have hj:j=0:=by rcases hn with⟨hh,_⟩|⟨_,hh,_⟩;cases hh;exact hh
  subst hj;rw[G.c16 D,ah];have hf:aR #[aj,aj] [(0,1,af 2),(1,1,af y)]=some #[af 2,af y]:=A5 rfl rfl;rw[hf,bH,ah];refine bI (l:=[af 2,af y]) F rfl (az rfl (az rfl aU)) rfl λh6 r6 u6=>?_
  rw[aL r6 2 rfl,ah];exact⟨2,y,rfl,(hN 2 y).2 (.inr ⟨rfl,rfl,hn⟩),(H.trans D).upd n1 u6⟩
end
end
section
section
variable {Z M:Nat→Prop}{h:ai}{bj bf:Nat}{vf:Value}{bt:Nat}{vt p q rv:Value}{d:fS}{y:Int}{n:Pic}{room w:Nat}{rs:List (Int×List Int)}
def za3 (d:fS)(x row:Int):List Int:=(List.range d.m.c.toNat).map λc:Nat=>IntKind.i64.wrap (vR d.m d.s x row c)
theorem zc8 {h0:ai}{u:Value}{l:List Int}{x row:Int}(J:fT Z M h0 bj bf vf bt vt p q rv d y n room w rs)(W:d.Wf)(N:New (Rp.int .i64) h0 h u l)(hl:l.length≤1000000):
  ag prog mW #[ptr bj,af x,af row,u] h λr h'=>New (Rp.int .i64) h0 h' r (l++za3 d x row):=by
 apply Db;unfold tm;have E0:=N.2.1;simp only[go_sem,aO,J.c2 E0];refine(DM (J.tx.ext E0) W.s.x).mono λr h1 ⟨v,e,S,e1⟩=>?_
 subst e;refine cX (cs:=[af (bK d.s.x x).1,v]) rfl (az rfl (az S.one aU)) rfl λb2 h2 r2 e2 n2=>?_
 have E2:=E0.trans (e1.trans e2);simp only[go_sem,aO,J.c0 E2];refine(fZ (J.src.ext E2)).mono λr h3 ⟨e,A⟩=>?_
 have A:=A.symm;subst e A;have hf:=dB W.m.fits;have ax:=sD W.s.x x;unfold za3 vR;obtain⟨C,hC⟩:∃C:Nat,d.m.c=(C:Int):=⟨d.m.c.toNat,ae⟩
 rw[hC,dJ];have S2:=S.ext e2;have Sz:SlI (λc=>¬blk u c∧c≠b2∧c<h2.size) h2 v (bK d.s.x x).2:=S2.mono λc hc G=>⟨λhu=>by have:=N.lt hu;have:=G.1;omega,λhe=>by have:=G.2;omega,hc⟩
 have ad:¬blk u b2:=λhu=>by have:=N.lt hu;have:=e1.1;omega
 generalize bK d.s.x x=L at*;obtain⟨av,cv,ev⟩:=S.isSl;have ar:aD v=some (af (L.2.length:Int)):=by rw[ev];rfl
 obtain⟨g,hg⟩:∃g:Nat→Int,g=λc:Nat=>IntKind.i64.wrap (At (λi=>L.2.getD i 0*atP d.m (atZ d.s.border (L.1+i) d.m.w) row c) L.2.length):=⟨_,rfl⟩
 rw[←hg];refine bO (α:=Value) C 0 (λc u=>[u,af (c:Int)]) (λc u h'=>New (Rp.int .i64) h0 h' u (l++(List.range c).map g)∧SlI (λc=>¬blk u c∧c≠b2∧c<h2.size) h' v L.2∧h2.size≤h'.size∧h'[b2]? =some (.cells #[af L.1,v] 189 (0,0))∧¬blk u b2∧Ext h0 h') u rfl (bZ _)
  ⟨by simpa using N.ext (e1.trans e2),Sz,ck _,r2,ad,E2⟩ λc u h4 again ρ1 _ hc ⟨N4,S4,au,r4,u4,E4⟩ an=>?_
 simp only[go_sem];refine aq (λh5=>?_) (λh5=>?_)
 ·have c1:aE h4 ⟨b2,1,none⟩=some v:=ao r4;simp only[go_sem,aO,c1,ar];have J4:=J.ext E4;refine kB (λi=>[af (IntKind.i64.wrap (At (λi=>L.2.getD i 0*atP d.m (atZ d.s.border (L.1+i) d.m.w) row c) i)),af (i:Int)]) L.2.length 0 rfl (bZ _) λi aa ρ2 _ hi F=>?_
  simp only[go_sem];refine aq (λh6=>?_) (λh6=>?_)
  ·have U:i<L.2.length:=ae;have F:=F U;obtain⟨pi,i1,i2⟩:=S4.int_at (k':=.i64) U;have ea:L.2.getD i 0=L.2[i]:=by simp[dr,U]
   rw[i1,ah,i2,ah,←ea];refine aQ (λh'=>h'=h4) rfl ?_
   try simp only[go_sem,aO]
   refine aF (af d.s.border) (λh' e=>by rw[e];exact J.c4 E4) ?_;refine aF (af L.1) (λh' e=>by rw[e];exact ao r4) ?_
   try simp only[go_sem,aO]
   refine aF (ptr bf) (λh' e=>by rw[e];exact J.c0 E4) ?_;rw[w64 (n:=L.1+(i:Int)) ae ae];refine(vP J4.src).mono λr D ⟨e,A⟩=>?_
   have A:=A.symm;subst e A;refine⟨rfl,?_⟩;refine(xu (by unfold I64;omega)).mono λr D ⟨e,A⟩=>?_
   have A:=A.symm;subst e A;simp only[go_sem,aO,J.c0 E4];refine(zeQ J4.src W.m).mono λr D ⟨e,A⟩=>?_
   have A:=A.symm;subst e A;have hv:=zdo W.m (atZ d.s.border (L.1+(i:Int)) d.m.w) row c;have hm:=W.m.m2;simp only[go_sem];rw[w64 (n:=atP d.m (atZ d.s.border (L.1+(i:Int)) d.m.w) row c) ae ae,RP,w64 (n:=(i:Int)+1) ae ae];exact F
  ·have am:i=L.2.length:=ae;subst am;have al:IntKind.i64.wrap (At (λi=>L.2.getD i 0*atP d.m (atZ d.s.border (L.1+i) d.m.w) row c) L.2.length)=g c:=by rw[hg]
   rw[al];have H:(l++(List.range c).map g).length=l.length+c:=by simp
   refine Rp.push_ow1 (e:=Rp.int .i64) rfl N4.1 (x:=g c) rfl rfl (by rw[H];omega) (by rw[H];omega) (λb hb=>hb.elim) λs' h' o' f' n'=>?_
   try simp only[go_sem]
   rw[w64 ae ae];have E':Ext h0 h':=E4.then_fr f' N4.2.2;have I:∀b,blk s' b→blk u b∨h4.size≤b:=n';refine an s' h' ae ⟨⟨by rw[uq _ (c+1) c ae,←cL];exact o',E',λb hb=>?_⟩,?_,bA au f'.1,f'.row r4 u4,λhb=>?_,E'⟩
   ·rcases I b hb with D|D
    ·exact N4.2.2 b D
    ·exact bA E4.1 D
   ·refine(S4.fr f' λb _ G=>G.1).mono λb hb G=>⟨λhs=>?_,G.2⟩
    rcases I b hs with D|D
    ·exact G.1 D
    ·have:=G.2.2;omega
   ·rcases I _ hb with D|D
    ·exact u4 D
    ·have:=aW r4;omega
 ·have:c=C:=ae;subst this;exact N4
def Od (d:fS)(real:Int):Nat→List Int
 |0=>[]
 |x+1=>Od d real x++za3 d (d.t.x+x) real
def GF (d:fS)(j:Int):List Int:=Od d (atZ d.s.border j d.m.h) d.t.w.toNat
theorem zcL (d:fS)(x row:Int):(za3 d x row).length=d.m.c.toNat:=by unfold za3;simp
theorem C5 (d:fS)(real:Int):∀k,(Od d real k).length=k*d.m.c.toNat
 |0=>by simp[Od]
 |k+1=>by unfold Od;rw[cF,C5,zcL,fb,uv]
theorem Vz (d:fS)(real:Int){x c:Nat}(hc:c<d.m.c.toNat):∀{k:Nat},x<k→(Od d real k).getD (x*d.m.c.toNat+c) 0=IntKind.i64.wrap (vR d.m d.s (d.t.x+x) real c)
 |0,h=>absurd h ae
 | k+1,h=>by
  unfold Od;have D:=C5 d real k;by_cases F:x<k
  ·have h1:x*d.m.c.toNat+c<(Od d real k).length:=by
    rw[D];have:(x+1)*d.m.c.toNat≤k*d.m.c.toNat:=gO _ F;rw[fb,uv]at this;omega
   have:=Vz d real hc F;rw[dr]at this ⊢;rw[pR h1];exact this
  ·have A:x=k:=ae;subst A;rw[dr,mP ae,D,Zk];unfold za3;simp[hc]
theorem zc5 {j:Int}(J:fT Z M h bj bf vf bt vt p q rv d y n room w rs)(W:d.Wf)(hj:I64 j)(hs:d.t.w≤300):
  ag prog mV #[ptr bj,af j] h λr h'=>∃M',fT Z M' h' bj bf vf bt vt p q rv d y n room w (VC room w rs j (GF d j))∧Fr M h h'∧∀k,M' k→M k∨h.size≤k:=by
 apply Da;unfold tj;have hf:=dB W.m.fits;have hb:=fS.bd W;have ar:=W.w1;have an:=W.x0;simp only[go_sem,aO];refine aQ (λh'=>h'=h) rfl ?_;refine aF (af d.s.border) (λh' e=>by rw[e];exact J.c4 (Ext.refl _)) ?_;refine aF (ptr bf) (λh' e=>by rw[e];exact J.c0 (Ext.refl _)) ?_;refine(uh J.src).mono λr h1 ⟨e,I⟩=>?_
 have I:=I.symm;subst e I;refine⟨rfl,?_⟩;refine(xu hj).mono λr h1 ⟨e,I⟩=>?_
 have I:=I.symm;subst e I;simp only[go_sem,aO,J.c8 (Ext.refl _)];unfold GF;generalize atZ d.s.border j d.m.h=real;obtain⟨N,hN⟩:∃N:Nat,d.t.w=(N:Int):=⟨d.t.w.toNat,ae⟩
 rw[hN,dJ];have hC:d.m.c.toNat≤3:=ae;have F:∀k,k≤N→(Od d real k).length≤900:=λk U=>by
  rw[C5];have:=AP (show k≤300 by omega) hC;omega
 refine bO (α:=Value) N 0 (λk u=>[u,af (k:Int)]) (λk u h'=>New (Rp.int .i64) h h' u (Od d real k)) (.slice none 0 0) rfl (bZ _) (New.nil (Ext.refl _)) λk u h2 again ρ1 _ U A al=>?_
 simp only[go_sem];refine aq (λh3=>?_) (λh3=>?_)
 ·simp only[go_sem,aO,J.c6 A.2.1];rw[w64 (n:=d.t.x+(k:Int)) ae ae];refine(zc8 J W A (by have:=F k U;omega)).mono λr h4 N4=>?_
  rw[w64 ae ae];exact al r h4 ae N4
 ·have aa:k=N:=ae;subst aa;have L:=J.ext A.2.1;simp only[go_sem,aO,J.c15 A.2.1];have ad:jN h2 u (Od d real k):=by
   obtain⟨a,cap,e⟩:=A.isSl;refine⟨a,cap,e,?_⟩;have o:=(Tn A.1).sl;obtain⟨_,a',c',e',ho⟩:=o;rw[e]at e';cases e';rcases ho with ho|⟨b,o,ha,ho⟩
   ·left;simpa using ho
   ·refine .inr ⟨b,o,ha,λi hi=>?_⟩;have:=ho i (by simpa using hi);rw[this,eE];rfl
  refine(zfY L.ring (by unfold I64 at hj;exact wf64 hj.1 hj.2) ad (by have:=F k U;omega) λb hb hm=>?_).mono λr h5 ⟨e,M',R',G,m'⟩=>?_
  ·have D:=A.2.2 b hb;have h7:=J.ring.lt hm;omega
  have lt:∀c,c<h.size→¬M c→¬M' c:=λc hc hm am=>by
   rcases m' c am with D|D
   ·exact hm D
   ·have:=A.2.1.1;omega
  have zl:=J.zl;have zM:∀c,Z c→¬M c:=λc hc=>(J.zz c hc).1
  refine⟨M',⟨G.row L.row J.mj.1,L.src.fr G (zM _ J.zf.1) λc hc=>zM _ (J.zf.2 c hc),L.tx.fr G λc _ H=>zM c H,L.ty.fr G λc _ H=>zM c H,R',L.out.fr G J.mj.2.1 J.mj.2.2,J.zf,
   λc H=>⟨lt c (zl c H) (zM c H),(J.zz c H).2⟩,⟨lt _ (aW J.row) J.mj.1,lt _ J.out.lt J.mj.2.1,λc hc=>lt c (J.out.ltv hc) (J.mj.2.2 c hc)⟩,J.jt,J.y0,J.y1,λc hc=>?_⟩,A.2.1.fr.trans G,λk U=>?_⟩
  ·have D:=zl c hc;have h7:=A.2.1.1;have h8:=G.1;omega
  ·rcases m' k U with D|D
   ·exact .inl D
   ·exact .inr (bA A.2.1.1 D)
end
end
section
structure KC (d:fS)(n:Pic):Prop where
 wf:n.Wf
 w:n.w=d.s.x.lines.length
 h:n.h=d.s.y.lines.length
 c:n.c=d.m.c
 m:n.most=d.m.most
section
variable {Z M:Nat→Prop}{h:ai}{bj bf:Nat}{vf:Value}{bt:Nat}{vt p q rv:Value}{d:fS}{y:Int}{n:Pic}{room w:Nat}{rs:List (Int×List Int)}
theorem fT.set {h':ai}{n':Pic}(J:fT Z M h bj bf vf bt vt p q rv d y n room w rs)(f:Fr (blk vt) h h')(I:du h' bt vt n'):fT Z M h' bj bf vf bt vt p q rv d y n' room w rs:=
 ⟨f.row J.row J.jt.2,J.src.fr f (J.zz _ J.zf.1).2.2 λc hc=>(J.zz _ (J.zf.2 c hc)).2.2,J.tx.fr f λc _ A=>(J.zz c A).2.2,J.ty.fr f λc _ A=>(J.zz c A).2.2,J.ring.fr f λc _ F D=>J.mj.2.2 c D F,I,J.zf,J.zz,J.mj,J.jt,J.y0,J.y1,
  λc hc=>ce (J.zl c hc) f.1⟩
def zF (d:fS)(y:Int)(i:Int)(x' y' c':Int):Prop:=y'=y∧d.t.x≤x'∧x'<d.t.x+d.t.w∧(x'-d.t.x)*d.m.c+c'<i
instance (d:fS)(y i A D c':Int):Decidable (zF d y i A D c'):=by unfold zF;infer_instance
theorem zem (J:fT Z M h bj bf vf bt vt p q rv d y n room w rs)(W:d.Wf)(O:KC d n)(hs:d.t.w≤300)(hy:y<d.t.y+d.t.h)(hw:(w:Int)=d.t.w*d.m.c)
  (b0:∀k:Nat,k<(bK d.s.y y).2.length→gm ((bK d.s.y y).1+(k:Int)) rs=some (GF d ((bK d.s.y y).1+(k:Int)))):
  ag prog oH #[ptr bj] h λr h'=>∃n',fT Z M h' bj bf vf bt vt p q rv d (y+1) n' room w rs∧KC d n'∧(∀D F c',inP n D F c'→atP n' D F c'=if zF d y w D F c' then yQ d.m d.s D F c' else atP n D F c')∧Fr (λc=>blk vt c∨c=bj) h h':=by
 apply Fa;unfold uN;have hf:=dB W.m.fits;have hb:=fS.bd W;have eg:=W.w1;have ea:=W.x0;have ef:=W.y0;refine(SR J W).mono λr h1 ⟨u,e,S,e1⟩=>?_
 subst e;have hl:=sD W.s.y y;refine cX (cs:=[af (bK d.s.y y).1,u]) rfl (az rfl (az S.one aU)) rfl λb2 h2 r2 e2 n2=>?_
 have E2:=e1.trans e2;have S2:=S.ext e2;obtain⟨au,cu,eu⟩:=S.isSl;have cw:aD u=some (af ((bK d.s.y y).2.length:Int)):=by rw[eu];rfl
 have b4:∀x c,At (λk=>(bK d.s.y y).2.getD k 0*vR d.m d.s x (atZ d.s.border ((bK d.s.y y).1+k) d.m.h) c) (bK d.s.y y).2.length=NC d.m d.s x y c:=λx c=>rfl
 generalize bK d.s.y y=L at*;obtain⟨C,hC⟩:∃C:Nat,d.m.c=(C:Int):=⟨d.m.c.toNat,ae⟩
 have cr:1≤C∧C≤3:=ae;obtain⟨Wn,a7⟩:∃Wn:Nat,d.t.w=(Wn:Int):=⟨d.t.w.toNat,ae⟩
 have al:w=Wn*C:=by
  rw[a7,hC]at hw
  exact_mod_cast hw
 have c8:w≤900:=by
  rw[al];have:=AP (show Wn≤300 by omega) cr.2;omega
 simp only[go_sem,aO,J.c15 E2];refine(zdc (J.ring.ext E2)).mono λr h3 ⟨e,G⟩=>?_
 have G:=G.symm;subst e G;refine pN rfl ae ae λsv h3 o3 e3 n3=>?_
 have E3:=E2.trans e3;have c1:aE h3 ⟨b2,1,none⟩=some u:=ao (e3.row r2);simp only[go_sem,aO,c1,cw]
 -- the sums
 obtain⟨g,hg⟩:∃g:Nat→Nat→Int,g=λk i=>At (λk=>L.2.getD k 0*vR d.m d.s (d.t.x+((i/C:Nat):Int)) (atZ d.s.border (L.1+k) d.m.h) ((i%C:Nat):Int)) k:=⟨_,rfl⟩
 refine bO (α:=Unit) L.2.length 0 (λk _=>[af (k:Int)]) (λk _ h'=>Ext h2 h'∧Own 1 h' sv w ((List.range w).map λi=>af (IntKind.i64.wrap (g k i)))) () rfl (bZ _)
  ⟨e3,by
   rw[MR]at o3;rw[←ch (g:=λi=>af ((λ_=>0:Nat→Int) i)) λi _=>by rw[hg];rfl];exact o3⟩ λk _ h4 again ρ1 _ hk ⟨E4,o4⟩ ax=>?_
 have U:=E2.trans E4;simp only[go_sem];refine aq (λh5=>?_) (λh5=>?_)
 ·have ar:k<L.2.length:=ae;obtain⟨pk,k1,k2⟩:=(S2.ext E4).int_at (k':=.i64) ar;have eb:L.2.getD k 0=L.2[k]:=by simp[dr,ar]
  rw[k1,ah,k2,ah,←eb];refine aQ (λh'=>h'=h4) rfl ?_
  try simp only[go_sem,aO]
  refine aF rv (λh' e=>by rw[e];exact J.c15 U) ?_;refine aF (af L.1) (λh' e=>by rw[e];exact ao (E4.row r2)) ?_;simp only[go_sem];rw[w64 (n:=L.1+(k:Int)) ae ae];refine(zfX (J.ring.ext U) (L.1+(k:Int))).mono λr h5 ⟨v,e,ov,e5,nv⟩=>?_
  subst e;rw[b0 k ar]at ov;have ov:jG h5 v (GF d (L.1+(k:Int))):=ov;have b6:(GF d (L.1+(k:Int))).length=w:=by
   unfold GF;rw[C5,a7,hC,dJ,dJ,al]
  have Sv:=GI (k:=.i64) ov;obtain⟨av,cv,ev⟩:=Sv.isSl;have b7:aD v=some (af (w:Int)):=by rw[ev,b6];rfl
  simp only[go_sem,b7];have o5:=o4.fr (M:=λ_=>False) e5.fr λ_ _=>id
  have bv:∀i,i<w→(GF d (L.1+(k:Int))).getD i 0=IntKind.i64.wrap (vR d.m d.s (d.t.x+((i/C:Nat):Int)) (atZ d.s.border (L.1+(k:Int)) d.m.h) ((i%C:Nat):Int)):=λi hi=>by
   have h6:i%C<C:=iO _ ae;have h7:i/C<Wn:=by rw[xg ae,←al];exact hi
   have h8:=Vz d (atZ d.s.border (L.1+(k:Int)) d.m.h) (x:=i/C) (c:=i%C) (by rw[hC,dJ];exact h6) (k:=Wn) h7;rw[hC,dJ,fG,oD]at h8;unfold GF;rw[a7,dJ];exact h8
  have a8:∀c,blk sv c→¬blk v c:=λc hc hv=>by
   have:=nv c hv;have:=o4.lt hc;omega
  refine bO (α:=Unit) w 0 (λi _=>[af (i:Int)]) (λi _ h'=>Ext h2 h'∧Rp.Sl (Rp.int .i64) (blk v) h' v (GF d (L.1+(k:Int)))∧Own 1 h' sv w ((List.range w).map λj=>af (IntKind.i64.wrap (if j<i then g (k+1) j else g k j)))) () rfl (bZ _)
   ⟨E4.trans e5,Sv,by
    rw[←ch (g:=λi=>af (IntKind.i64.wrap (g k i))) λi _=>by rw[aA ae]];exact o5⟩ λi _ h6 b5 ρ2 _ hi ⟨E6,be,o6⟩ bk=>?_
  simp only[go_sem];refine aq (λh7=>?_) (λh7=>?_)
  ·have H:i<w:=ae;obtain⟨pv,v1,v2⟩:=be.int_at (k':=.i64) (i:=i) ae;have ct:(GF d (L.1+(k:Int)))[i]'ae=(GF d (L.1+(k:Int))).getD i 0:=by simp[dr,show i<(GF d (L.1+(k:Int))).length by omega]
   rw[ct,bv i H]at v2;obtain⟨ps,s1,s2,s3⟩:=Own.at_map o6 (k:=.i64) H;simp only[go_sem,v1,v2,s1,s2];rw[aA ae,GB,RP];have b8:g k i+L.2.getD k 0*vR d.m d.s (d.t.x+((i/C:Nat):Int)) (atZ d.s.border (L.1+(k:Int)) d.m.h) ((i%C:Nat):Int)=g (k+1) i:=by rw[hg];rfl
   rw[b8];refine s3 _ _ λh8 o8 f8=>?_
   rw[w64 ae ae];refine bk () h8 H ⟨E6.then_fr f8 λc hc=>n3 c hc,be.fr f8 λc _ hz hs=>a8 c hs hz,?_⟩;rw[←ch (g:=λj=>af (if j=i then IntKind.i64.wrap (g (k+1) i)else IntKind.i64.wrap (if j<i then g (k+1) j else g k j))) λj _=>by
    congr 1
    by_cases h1:j=i
    ·rw[aB h1,aB ae,h1]
    ·rw[aA h1];by_cases h2:j<i
     ·rw[aB h2,aB ae]
     ·rw[aA h2,aA ae]]
   exact o8
  ·have ay:i=w:=ae;subst ay;rw[w64 ae ae];refine ax () h6 ae ⟨E6,?_⟩;rw[←ch (g:=λj=>af (IntKind.i64.wrap (if j<i then g (k+1) j else g k j))) λj hj=>by rw[aB hj]];exact o6
 have ci:k=L.2.length:=ae;subst ci;have J4:=J.ext U;have bo:Own 1 h4 sv w ((List.range w).map λi=>af (IntKind.i64.wrap (NC d.m d.s (d.t.x+((i/C:Nat):Int)) y ((i%C:Nat):Int)))):=by
  rw[←ch (g:=λi=>af (IntKind.i64.wrap (g L.2.length i))) λi _=>by rw[hg];rw[←b4]];exact o4
 have cp:∀c,blk sv c→¬blk vt c:=λc hc hv=>by
  have h6:=n3 c hc;have h7:=J.out.ltv hv;have h8:=E2.1;omega
 obtain⟨c5,dq,es⟩:=bo.isSl;have cc:aD sv=some (af (w:Int)):=by rw[es];rfl
 simp only[go_sem,aO,J.c1 U];refine(fZ J4.out).mono λr h5 ⟨e,G⟩=>?_
 have G:=G.symm;subst e G;rw[O.c,hC];simp only[go_sem,cc];refine bO (α:=Pic) w 0 (λi _=>[af (i:Int)]) (λi n' h'=>fT Z M h' bj bf vf bt vt p q rv d y n' room w rs∧KC d n'∧(∀D F c',inP n D F c'→atP n' D F c'=if zF d y i D F c' then yQ d.m d.s D F c' else atP n D F c')∧
   Own 1 h' sv w ((List.range w).map λi=>af (IntKind.i64.wrap (NC d.m d.s (d.t.x+((i/C:Nat):Int)) y ((i%C:Nat):Int))))∧Fr (blk vt) h4 h') n rfl (bZ _)
  ⟨J4,O,λD F c' hi=>by
   rw[aA];unfold zF inP at*;rintro⟨a1,a2,a3,a4⟩;have:=mR (show 0≤D-d.t.x by omega) (show 0≤d.m.c by omega);omega,bo,Fr.refl _ _⟩ λi n' h6 again ρ3 _ hi ⟨A,I,A6,o6,f6⟩ ax=>?_
 simp only[go_sem];refine aq (λh7=>?_) (λh7=>?_)
 ·have H:i<w:=ae;obtain⟨ps,s1,s2,_⟩:=Own.at_map o6 (k:=.i64) H;simp only[go_sem,s1,s2];refine aQ (λh'=>h'=h6) rfl ?_
  try simp only[go_sem,aO]
  refine aF (ptr bt) (λh' e=>by rw[e];exact A.c1 (Ext.refl _)) ?_;refine aF (af d.t.x) (λh' e=>by rw[e];exact A.c6 (Ext.refl _)) ?_;rw[nD _ _ _ _ ae,ah,yt ae,show(i:Int)/(C:Int)=((i/C:Nat):Int)by omega];have c3:i/C<Wn:=by rw[xg ae,←al];exact H
  have c2:i%C<C:=iO _ ae;have dl:=oD i C;have c0:((i/C:Nat):Int)*(C:Int)+((i%C:Nat):Int)=(i:Int):=by
   rw[←mQ,fG];omega
  have bg:(i:Int)%(C:Int)=((i%C:Nat):Int):=ae;have c4:=A6;generalize dz:i/C=qd at*;generalize ei:i%C=rd at*;simp only[go_sem];rw[w64 (n:=(qd:Int)) ae ae,w64 (n:=d.t.x+(qd:Int)) ae ae];refine aF (af y) (λh' e=>by rw[e];exact A.c16 (Ext.refl _)) ?_;rw[dS _ _ _ _ ae,ah,jY ae,bg];refine aF (ptr bt) (λh' e=>by rw[e];exact A.c1 (Ext.refl _)) ?_;refine(wu A.out).mono λr h8 ⟨e,G⟩=>?_
  have G:=G.symm;subst e G;refine⟨rfl,?_⟩;refine(zac (kL _)).mono λr h8 ⟨e,G⟩=>?_
  have G:=G.symm;subst e G;refine⟨rfl,?_⟩;have c7:=W.m.m1;have ec:=W.m.m2;rw[I.m];have hr:=R5 (IntKind.i64.wrap (NC d.m d.s (d.t.x+(qd:Int)) y (rd:Int))) (most:=d.m.most) ae;refine(zab A.out I.wf hr.1 hr.2.1).mono λr h8 ⟨e,I8,f8,s8⟩=>?_
  subst e;have ee:=W.xw;have eh:=W.yh;have cz:=J.y0;have b3:inP n' (d.t.x+(qd:Int)) y (rd:Int):=⟨ae,by rw[I.w];omega,ae,by rw[I.h];omega,ae,by rw[I.c];omega⟩
  have am:inP n' (d.t.x+(qd:Int)) y (rd:Int)∧Ay (IntKind.i64.wrap (NC d.m d.s (d.t.x+(qd:Int)) y (rd:Int))) d.m.most≤n'.most:=⟨b3,by rw[I.m];omega⟩
  rw[aB am]at I8
  try simp only[go_sem]
  rw[w64 ae ae];refine ax _ h8 H ⟨A.set f8 I8,⟨Y3 I.wf hr.1 am.2,I.w,I.h,I.c,I.m⟩,λD F c' a9=>?_,o6.fr f8 cp,f6.trans f8⟩;rw[Xl I.wf b3,A6 D F c' a9];by_cases he:D=d.t.x+(qd:Int)∧F=y∧c'=(rd:Int)
  ·rw[aB he];obtain⟨rfl,rfl,rfl⟩:=he;rw[aB]
   ·rfl
   ·refine⟨rfl,ae,ae,?_⟩;rw[hC,show d.t.x+(qd:Int)-d.t.x=(qd:Int)by omega];omega
  ·rw [aA he];have an:zF d y ((i+1:Nat):Int) D F c'↔zF d y (i:Int) D F c':=by
    unfold zF;constructor
    ·rintro⟨a1,a2,a3,a4⟩;refine⟨a1,a2,a3,?_⟩;rcases oA ((D-d.t.x)*d.m.c+c') i with h9|h9
     ·exact h9
     ·exfalso;have cb:(D-d.t.x)*d.m.c+c'=(qd:Int)*d.m.c+(rd:Int):=by rw[hC]at*;omega
      have ca:=a9.2.2.2.2;have c9:=O.c;obtain⟨b1,b2⟩:=GC cb ca.1 ae ae ae;exact he ⟨ae,a1,b2⟩
    ·rintro⟨a1,a2,a3,a4⟩;exact⟨a1,a2,a3,ae⟩
   by_cases ad:zF d y (i:Int) D F c'
   ·rw[aB ad,aB (an.2 ad)]
   ·rw[aA ad,aA λhh=>ad (an.1 hh)]
 ·have ay:i=w:=ae;subst ay;simp only[go_sem,aO,A.c16 (Ext.refl _)];have cz:=J.y0;rw[w64 (n:=y+1) ae ae];refine bG A.row (by simp[X8,dO]) rfl λh8 r8 u8=>?_
  have r8:h8[bj]? =some (.cells (X8 bf bt p q rv d (y+1)).toArray 246 (0,0)):=r8;have aa:∀c,Z c→¬c=bj:=λc hc=>(A.zz c hc).2.1
  refine⟨n',⟨r8,A.src.fr u8.fr (aa _ A.zf.1) λc hc=>aa _ (A.zf.2 c hc),A.tx.fr u8.fr λc _ hz=>aa c hz,A.ty.fr u8.fr λc _ hz=>aa c hz,A.ring.fr u8.fr λc _ hm he=>A.mj.1 (he▸hm),A.out.fr u8.fr (ie A.jt.1) λc hc he=>A.jt.2 (he▸hc),A.zf,A.zz,A.mj,A.jt,ae,ae,
   λc hc=>by rw[u8.1];exact A.zl c hc⟩,I,A6,?_⟩
  exact((U.fr (M:=λc=>blk vt c∨c=bj)).trans (f6.mono λc _ hc=>.inl hc)).trans (u8.fr.mono λc _ hc=>.inr hc)
end
end
end Go.Proofs.YtjljhnandbbldaaGreatDoor
namespace Go.Proofs.YtjljhnandbbldaaGreatDoor
open Go Go.Crisp
theorem Do:∀(k:Nat) (l:List Nat),l.Nodup→(∀x∈l,x<k)→l.length≤k
 |0,[],_,_=>by simp
 |0,x::_,_,h=>absurd (h x (by simp)) ae
 | k+1,l,hn,h=>by
  by_cases D:k∈l
  ·have h1:=Do k (l.erase k) (hn.erase k) λx A=>by
    have F:=h x (List.mem_of_mem_erase A);have G:x≠k:=λe=>by rw[e]at A;exact(List.Nodup.not_mem_erase hn) A
    omega
   rw[List.length_erase_of_mem D]at h1;omega
  ·have:=Do k l hn λx A=>by
    have F:=h x A;have G:x≠k:=λe=>D (e▸A)
    omega
   omega
theorem nodup_range {l:List Int}{a b:Int}(L:l.Nodup)(h:∀x∈l,a≤x∧x<b):(l.length:Int)≤max 0 (b-a):=by
 have h1:(l.map λx=>(x-a).toNat).Nodup:=by
  rw[Zj,List.pairwise_map];have D:=(Zj.1 L)
  refine List.Pairwise.imp_of_mem ?_ D;intro x y A I F U;have:=h x A;have:=h y I;omega
 have G:=Do (b-a).toNat _ h1 λx A=>by
  obtain⟨z,H,rfl⟩:=gQ.1 A;have:=h z H;omega
 rw[da]at G;omega
theorem Sn {α:Type}(j i:Int)(v:α):∀kv:List (Int×α),gm i (kv++[(j,v)])=match gm i kv with|some u=>some u|none=>if i=j then some v else none
 | []=>by
  simp only[eZ,gm];by_cases h:j=i
  ·subst h;simp
  ·rw[aA h,aA (ie h)]
 | (k,u)::kv=>by
  simp only[oF,gm];by_cases h:k=i
  ·rw[aB h,aB h]
  ·rw[aA h,aA h];exact Sn j i v kv
theorem A3:∀(l:List Int) (a:Int),l.foldl min a≤a∧∀x∈l,l.foldl min a≤x
 | [],a=>⟨gj _,λx A=>absurd A (by simp)⟩
 |y::l,a=>by
  have h:=A3 l (min a y);rw[yw];refine⟨by have:=h.1;omega,λx A=>?_⟩;rcases kC.1 A with rfl|A
  ·have:=h.1;omega
  ·exact h.2 x A
theorem zdY {l:List Int}{x:Int}(h:x∈l):yU l≤x:=by
 cases l with
 |nil=>simp at h
 |cons y l=>
  rcases kC.1 h with rfl|h
  ·exact(A3 l _).1
  ·exact(A3 l y).2 x h
structure KD (row:Int→List Int)(rs:List (Int×List Int))(F e:Int):Prop where
 nd:(rs.map Prod.fst).Nodup
 inn:∀j,F≤j→j<e→gm j rs=some (row j)
 lt:∀x∈rs.map Prod.fst,x<e
theorem KD.none {row:Int→List Int}{rs:List (Int×List Int)}{F e:Int}(H:KD row rs F e){j:Int}(D:e≤j):gm j rs=none:=rM.2 λA=>by have:=H.lt j A;omega
theorem KD.start (row:Int→List Int)(F:Int):KD row [] F F:=⟨by simp,λj h1 A=>absurd A ae,by simp⟩
theorem KD.move {row:Int→List Int}{rs:List (Int×List Int)}{F e A:Int}(H:KD row rs F e)(I:F≤A):KD row rs A (max e A):=
 ⟨H.nd,λj h1 G=>H.inn j ae ae,λx D=>by have:=H.lt x D;omega⟩
theorem KD.next {row:Int→List Int}{rs:List (Int×List Int)}{F e E n:Int}{A:Bool}(H:KD row rs F e)(h1:F≤e)(I:e≤E)(D:LA rs F E n A):(e<E∧A=true∧n=e)∨(e=E∧A=false∧n=0):=by
 rcases D with⟨rfl,a1,a2,a3,a4⟩|⟨rfl,rfl,a4⟩
 ·left;have L:¬n<e:=λh=>by rw[H.inn n a1 h]at a3;cases a3
  have G:¬e<n:=λh=>by have:=a4 e h1 h;rw[H.none (gj _)]at this;cases this
  exact⟨ae,rfl,ae⟩
 ·right;refine⟨?_,rfl,rfl⟩;rcases oA e E with h|h
  ·have:=a4 e h1 h;rw[H.none (gj _)]at this;cases this
  ·omega
theorem KD.put {row:Int→List Int}{rs:List (Int×List Int)}{F e E:Int}{room w:Nat}(H:KD row rs F e)(h1:F≤e)(h2:e<E)(hr:E-F≤room)(am:1≤room)(hl:rs.length≤room)(hw:(row e).length=w):
  KD row (VC room w rs e (row e)) F (e+1)∧(VC room w rs e (row e)).length≤room:=by
 have L:=H.none (gj e);have I:(rs.map Prod.fst).length=rs.length:=by simp
 have D:DA room rs=true→yU (rs.map Prod.fst)∈rs.map Prod.fst:=λA=>Wc λh0=>by
  have:rs.length=0:=by rw[←I,h0];rfl
  unfold DA at A;have:=AU A;omega
 have ad:w9 room w rs e (row e)=true:=by
  unfold w9;rw[L,cH hw];by_cases A:DA room rs=true
  ·have:=H.lt _ (D A);rw[A,b9 (show¬e<yU (rs.map Prod.fst)by omega)];rfl
  ·have A:DA room rs=false:=by simpa using A
   rw[A];rfl
 unfold VC;rw[aB ad]
 -- what is left of the rows
 have key:((nM room rs).map Prod.fst).Nodup∧(∀x∈(nM room rs).map Prod.fst,x<e)∧(∀j,F≤j→j<e→gm j (nM room rs)=some (row j))∧(nM room rs).length+1≤room:=by
  unfold nM;by_cases A:DA room rs=true
  ·rw [aB A];have hm:=D A;have an:room≤rs.length:=AU A;have ar:yU (rs.map Prod.fst)<F:=by
    rcases oA (yU (rs.map Prod.fst)) F with h|h
    ·exact h
    ·have W:∀x∈rs.map Prod.fst,F≤x∧x<e:=λx U=>by
      have h3:yU (rs.map Prod.fst)≤x:=zdY U;have:=H.lt x U;omega
     have:=nodup_range H.nd W;rw[I]at this;omega
   have G:(qQ (yU (rs.map Prod.fst)) rs).Sublist rs:=Py;have hg:∃v,gm (yU (rs.map Prod.fst)) rs=some v:=by
    cases hg:gm (yU (rs.map Prod.fst)) rs with
    |none=>exact absurd hm (rM.1 hg)
    |some v=>exact⟨v,rfl⟩
   obtain⟨v,hg⟩:=hg;have al:=Kj hg;refine⟨(G.map Prod.fst).nodup H.nd,λx U=>H.lt x ((G.map Prod.fst).subset U),λj j1 j2=>?_,ae⟩;rw[Ki H.nd,aA ae];exact H.inn j j1 j2
  ·rw[aA A];have:¬room≤rs.length:=λh=>A (cH h)
   exact⟨H.nd,H.lt,H.inn,ae⟩
 obtain⟨k1,k2,k3,k4⟩:=key;refine⟨⟨?_,λj j1 j2=>?_,λx U=>?_⟩,by simp;omega⟩
 ·rw[jW,List.nodup_append];refine⟨k1,by simp,λa ha b hb he=>?_⟩;have:=k2 a ha;simp at hb;omega
 ·rw[Sn];by_cases hj:j<e
  ·rw[k3 j j1 hj]
  ·have aa:j=e:=ae;subst aa;have:gm j (nM room rs)=Option.none:=rM.2 λhm=>by have:=k2 j hm;omega
   rw[this];simp
 ·rw[jW]at U;rcases gP.1 U with h|h
  ·have:=k2 x h;omega
  ·simp at h;omega
theorem EQ {a b c:Int}(h:a≤b)(hc:0<c):a/c≤b/c:=Int.ediv_le_ediv hc h
theorem zaO {f n m i k:Int}(D:1≤n)(F:1≤m)(h:i≤k):rJ f n m i≤rJ f n m k:=by
 unfold rJ;have h1:i*n≤k*n:=uu h ae;have A:(2*i+1)*n≤(2*k+1)*n:=uu ae ae;split
 ·exact EQ h1 ae
 ·have:=EQ (a:=(2*i+1)*n-m-dh f*2*max n m) (b:=(2*k+1)*n-m-dh f*2*max n m) (c:=2*m) ae ae;omega
theorem Yb {f n m i k:Int}(D:1≤n)(F:1≤m)(h:i≤k):oS f n m i≤oS f n m k:=by
 unfold oS PY;have h1:(i+1)*n≤(k+1)*n:=uu ae ae;have A:(2*i+1)*n≤(2*k+1)*n:=uu ae ae;split
 ·have:=EQ (a:= -((k+1)*n)) (b:= -((i+1)*n)) (c:=m) ae ae;omega
 ·have:=EQ (a:= -((2*k+1)*n-m+dh f*2*max n m)) (b:= -((2*i+1)*n-m+dh f*2*max n m)) (c:=2*m) ae ae;omega
theorem sN {g:Nat→Int}:∀{n:Nat},dP g n=0→∀i,i<n→g i=0
 |0,_,i,h=>absurd h ae
 | n+1,hz,i,h=>by
  have e:dP g (n+1)=if dP g n≠0 then dP g n else g n:=rfl
  rw[e]at hz;by_cases h0:dP g n=0
  ·rw[aA (by simpa using h0)]at hz;by_cases hi:i=n
   ·rw[hi];exact hz
   ·exact sN h0 i ae
  ·rw[aB h0]at hz;exact absurd hz h0
abbrev lnF (t:Tbl)(y:Int):Int:=(bK t y).1
abbrev lnE (t:Tbl)(y:Int):Int:=(bK t y).1+((bK t y).2.length:Int)
structure EU (t:Tbl):Prop where
 f:∀i k:Int,0≤i→i≤k→k<t.lines.length→lnF t i≤lnF t k
 e:∀i k:Int,0≤i→i≤k→k<t.lines.length→lnE t i≤lnE t k
 m:∀i:Int,(((bK t i).2.length:Nat):Int)≤bT t.lines
theorem Wm {n:Int}{N:Nat}{g:Nat→Int×List Int}{i:Int}(h0:0≤i)(h1:i<N):bK ⟨n,(List.range N).map g⟩ i=g i.toNat:=by
 unfold bK;rw[aB h0];have:i.toNat<N:=ae;simp[dr,this]
theorem JD:∀(ls:List (Int×List Int)) (a:Int),a≤ls.foldl (λm x=>max m (x.2.length:Int)) a∧∀x∈ls,((x.2.length:Nat):Int)≤ls.foldl (λm x=>max m (x.2.length:Int)) a
 | [],a=>⟨gj _,λx A=>absurd A (by simp)⟩
 |y::l,a=>by
  have h:=JD l (max a (y.2.length:Int));rw[yw];refine⟨by have:=h.1;omega,λx A=>?_⟩;rcases kC.1 A with rfl|A
  ·have:=h.1;omega
  ·exact h.2 x A
theorem Lc (t:Tbl)(i:Int):(((bK t i).2.length:Nat):Int)≤bT t.lines:=by
 have h:=JD t.lines 0;unfold bK;split
 ·by_cases hi:i.toNat<t.lines.length
  ·have e:t.lines.getD i.toNat (0,[])=t.lines[i.toNat]:=by simp[dr,hi]
   rw[e];exact h.2 _ (cQ hi)
  ·have e:t.lines.getD i.toNat (0,[])=(0,[]):=by simp[dr,JV hi]
   rw[e];exact h.1
 ·exact h.1
theorem xx {l:List Int}(h:dj l=0):(cC l).length=l.length:=by unfold cC;rw[aB h,rD]
theorem VB {f n m:Int}(hc:dK f n m=0):EU (fX f n m):=by
 have h0:¬(¬(0≤f∧f<3)∨¬bE n∨¬bE m):=λh=>by unfold dK at hc;rw[aB h]at hc;cases hc
 have W:=hc;unfold dK at W;rw[aA h0]at W;have hf:0≤f∧f<3:=cA λh=>h0 (.inl h)
 have I:bE n:=cA λh=>h0 (.inr (.inl h))
 have L:bE m:=cA λh=>h0 (.inr (.inr h))
 unfold bE at I L;have H:(fX f n m).lines.length=m.toNat:=by show(List.map _ (List.range m.toNat)).length=_;rw[da,fF]
 have F:∀i:Int,0≤i→i<m→bK (fX f n m) i=(fI f n m i,cC (dp f n m i)):=λi A G=>by
  have:=Wm (n:=n) (N:=m.toNat) (g:=λi:Nat=>(fI f n m i,cC (dp f n m i))) A ae;rw[show((i.toNat:Nat):Int)=i by omega]at this;exact this
 have D:∀i:Int,0≤i→i<m→xb f n m i:=λi A G=>⟨hf.1,hf.2,I.1,I.2,L.1,L.2,A,G⟩
 have hF:∀i:Int,0≤i→i<m→lnF (fX f n m) i=rJ f n m i:=λi A G=>by
  unfold lnF;rw[F i A G];show fI f n m i=_;unfold fI;rw[aB (D i A G)]
 have hE:∀i:Int,0≤i→i<m→lnE (fX f n m) i=oS f n m i:=λi A G=>by
  have h1:=hF i A G;unfold lnF at h1;unfold lnE;rw[h1,F i A G];have h2:=sN W i.toNat ae;rw[show((i.toNat:Nat):Int)=i by omega]at h2;show rJ f n m i+(((cC (dp f n m i)).length:Nat):Int)=_;rw[xx h2];unfold dp;rw[aB (D i A G)];unfold EZ;rw[da,fF];have:=NG (D i A G);omega
 refine⟨λi k A U k1=>?_,λi k A U k1=>?_,Lc _⟩
 ·rw[H]at k1;rw[hF i A ae,hF k ae ae];exact zaO I.1 L.1 U
 ·rw[H]at k1;rw[hE i A ae,hE k ae ae];exact Yb I.1 L.1 U
theorem WB (l:List Int)(n:Int):EU (kG l n):=by
 have D:(kG l n).lines.length=n.toNat:=by show(List.map _ (List.range n.toNat)).length=_;rw[da,fF]
 have A:∀i:Int,0≤i→i<n.toNat→bK (kG l n) i=(i-(l.length/2:Nat),cC l):=λi F H=>by
  have:=Wm (n:=n) (N:=n.toNat) (g:=λi:Nat=>((i:Int)-(l.length/2:Nat),cC l)) F H;rw[show((i.toNat:Nat):Int)=i by omega]at this;exact this
 refine⟨λi k F I G=>?_,λi k F I G=>?_,Lc _⟩
 ·rw[D]at G;unfold lnF;rw[A i F ae,A k ae G];show i-_≤k-_;omega
 ·rw[D]at G;unfold lnE;rw[A i F ae,A k ae G];show i-((l.length/2:Nat):Int)+((cC l).length:Int)≤k-((l.length/2:Nat):Int)+((cC l).length:Int);omega
theorem X4 {o:OpD}{w h:Int}(hc:fJ o w h=0):EU (cB o w h).y:=by
 have A:jf o w h=0:=by
  unfold fJ at hc;split at hc
  ·cases hc
  ·exact hc
 show EU (fQ o h);unfold jf at A;unfold fQ;split
 ·rename_i D;rw[aB D]at A;by_cases h1:dK o.filter w o.w=0
  ·rw[aA (by simpa using h1)]at A;exact VB A
  ·rw[aB h1]at A;exact absurd A h1
 ·exact WB _ _
end Go.Proofs.YtjljhnandbbldaaGreatDoor
namespace Go.Crisp
open Go
theorem ag.at {P:Program}{f:FuncId}{args:Array Value}{h:ai}{v:Value}{K:Value→ai→Prop}(H:ag P f args h λr h'=>r=v∧h'=h)(k:K v h):ag P f args h K:=
 H.mono λr h' ⟨e,w⟩=>by rw[e,w];exact k
theorem ag.to {P:Program}{f:FuncId}{args:Array Value}{h:ai}{v:Value}{K:Value→ai→Prop}(H:ag P f args h λr h'=>r=v∧Ext h h')(k:∀h',Ext h h'→K v h'):ag P f args h K:=
 H.mono λr h' ⟨e,w⟩=>by rw[e];exact k h' w
theorem Fr.after {M N:Nat→Prop}{a b c:ai}(f:Fr M a b)(k:Fr N b c)(n:∀i,i<a.size→N i→M i):Fr M a c:=
 ⟨bA f.1 k.1,λi hi A=>(k.2 i (ce hi f.1) λx=>A (n i hi x)).trans (f.2 i hi A)⟩
theorem Ext.after {N:Nat→Prop}{a b c:ai}(f:Ext a b)(k:Fr N b c):Fr N a c:=(f.fr (M:=N)).after k λ_ _ x=>x
theorem Fr.ext_r {M:Nat→Prop}{a b c:ai}(f:Fr M a b)(k:Ext b c):Fr M a c:=f.trans k.fr
theorem Fr.upd_new {M:Nat→Prop}{a b c:ai}{x:Nat}(f:Fr M a b)(u:Upd x b c)(n:a.size≤x):Fr M a c:=f.after u.fr λi hi e=>ae
theorem Rp.push_ow1S {α:Type}{e:Rp α}{Z P:Nat→Prop}{Q:ai→Prop}{z z' c:Value}{t L:TypeId}{bytes:Nat}{s:Value}{h:ai}{l:List α}{x:α}{K:Value→ai→Prop}(F:e.w=1)
  (hs:Rp.Ow e Z h s l) (I:e.R Z h [c] x) (hz:z.cells.size=1) (hb:(l.length+1)*bytes≤140737488355328) (hn:l.length+1≤9223372036854775807) (hZ:∀b,Z b→b<h.size) (hQ:∀h',Ext h h'→Q h')
  (H:∀D h',Rp.Ow e Z h' D (l++[x])→Fr (blk s) h h'→(∀b,blk D b→blk s b∨h.size≤b)→K D h'):cO #[z'] t 1 [(0,1,c)] h λv2 W=>Q W∧cR z L 1 bytes s v2 W K:=by
 refine cT (fill_one (e.one I c (by simp))) λb h1 r1 A n1=>⟨hQ h1 A,?_⟩
 have U:=SlC.single (cs:=[c]) r1;rw[show[c].length=e.w by rw[F];rfl]at U;have ee:cR z L 1 bytes s (.slice (some ⟨b,0,none⟩) 1 1) h1 K=cR z L e.w bytes s (.slice (some ⟨b,0,none⟩) 1 1) h1 K:=by rw[F]
 rw[ee];refine Rp.app_ow (l2:=[x]) (hs.ext A) U (λi hi=>?_) (hz.trans F.symm) (by simpa using hb) (by simpa using hn) (λk G=>ce (hZ k G) A.1) λD h' o' f' n'=>
  H D h' o' (A.fr.trans f') λk G=>(n' k G).imp id λh2=>bA A.1 h2
 have hi:i=0:=by simpa using hi
 subst hi;rw[Rp.el_self (e.len I)];exact e.ext I A
theorem New.fr {α:Type}{e:Rp α}{M:Nat→Prop}{h h1 h':ai}{v:Value}{l:List α}(H:New e h h1 v l)(f:Fr M h1 h')(D:∀b,M b→h.size≤b)(q:∀b,blk v b→¬M b):New e h h' v l:=
 ⟨H.1.fr f (λb _ A=>A.elim) q,H.2.1.then_fr f D,H.2.2⟩
theorem eqT (a:Int):(a=a)=True:=jZ rfl
theorem XO (a:Nat):ak .p .neq (.pointer (some ⟨a,0,none⟩)) (.pointer none)=some (.bool true):=rfl
theorem XP (a:Nat):ak .p .eql (.pointer (some ⟨a,0,none⟩)) (.pointer none)=some (.bool false):=rfl
theorem zfm:ak .p .neq (.pointer none) (.pointer none)=some (.bool false):=rfl
theorem zfn:ak .p .eql (.pointer none) (.pointer none)=some (.bool true):=rfl
end Go.Crisp
namespace Go.Proofs.YtjljhnandbbldaaGreatDoor
open Go Go.Crisp
attribute [local irreducible] ag cO aT stK aG vK qK bL gK eM bC mkK cR HA JA Ep bsK clK vu pP Zb
open _root_.Go.Proofs.Tryz
section
def rV (B:Nat→Prop)(h h':ai):Nat→Prop:=λc=>B c∨(h.size≤c∧c<h'.size)
structure lJ (Z B:Nat→Prop)(h:ai)(bj bf:Nat)(vf:Value)(bt:Nat)(vt p q rv:Value)(d:fS)(y e:Int)(n:Pic)(room w:Nat):Prop where
 at_:∃M rs,fT Z M h bj bf vf bt vt p q rv d y n room w rs∧(∀c,M c→B c)∧(y<d.t.y+d.t.h→KD (GF d) rs (lnF d.s.y y) e∧lnF d.s.y y≤e∧e≤lnE d.s.y y)
 bj0:B bj
 bl:∀c,B c→c<h.size
 bz:∀c,B c→¬Z c∧c≠bt∧¬blk vt c
 out:KC d n
theorem lJ.ext {Z B:Nat→Prop}{h h':ai}{bj bf:Nat}{vf:Value}{bt:Nat}{vt p q rv:Value}{d:fS}{y e:Int}{n:Pic}{room w:Nat}(S:lJ Z B h bj bf vf bt vt p q rv d y e n room w)(k:Ext h h'):lJ Z B h' bj bf vf bt vt p q rv d y e n room w:=by
 obtain⟨⟨M,rs,J,a,b⟩,c,f,g,o⟩:=S;exact⟨⟨M,rs,J.ext k,a,b⟩,c,λc hc=>ce (f c hc) k.1,g,o⟩
theorem fT.chg {Z M Q:Nat→Prop}{h h':ai}{bj bf:Nat}{vf:Value}{bt:Nat}{vt p q rv:Value}{d:fS}{y:Int}{n n':Pic}{room w:Nat}{rs:List (Int×List Int)}(J:fT Z M h bj bf vf bt vt p q rv d y n room w rs)(f:Fr Q h h')
  (A:∀c,Z c→¬Q c) (G:∀c,M c→¬Q c) (H:¬Q bj) (I:du h' bt vt n'):fT Z M h' bj bf vf bt vt p q rv d y n' room w rs:=
 ⟨f.row J.row H,J.src.fr f (A _ J.zf.1) λc hc=>A _ (J.zf.2 c hc),J.tx.fr f λc _ D=>A c D,J.ty.fr f λc _ D=>A c D,J.ring.fr f λc _ F=>G c F,I,J.zf,J.zz,J.mj,J.jt,J.y0,J.y1,λc hc=>ce (J.zl c hc) f.1⟩
theorem lJ.other {Z B Q:Nat→Prop}{h h':ai}{bj bf:Nat}{vf:Value}{bt:Nat}{vt p q rv:Value}{d:fS}{y e:Int}{n n':Pic}{room w:Nat}(S:lJ Z B h bj bf vf bt vt p q rv d y e n room w)(f:Fr Q h h')
  (A:∀c,Z c→¬Q c) (qb:∀c,B c→¬Q c) (I:du h' bt vt n') (O:KC d n'):lJ Z B h' bj bf vf bt vt p q rv d y e n' room w:=by
 obtain⟨⟨M,rs,J,a,b⟩,c,l,g,o⟩:=S;exact⟨⟨M,rs,J.chg f A (λk D=>qb k (a k D)) (qb _ c) I,a,b⟩,c,λc hc=>ce (l c hc) f.1,g,O⟩
theorem lJ.img {Z B:Nat→Prop}{h:ai}{bj bf:Nat}{vf:Value}{bt:Nat}{vt p q rv:Value}{d:fS}{y e:Int}{n:Pic}{room w:Nat}(S:lJ Z B h bj bf vf bt vt p q rv d y e n room w):du h bt vt n:=by
 obtain⟨⟨M,rs,J,a,b⟩,_⟩:=S;exact J.out
theorem lJ.src {Z B:Nat→Prop}{h:ai}{bj bf:Nat}{vf:Value}{bt:Nat}{vt p q rv:Value}{d:fS}{y e:Int}{n:Pic}{room w:Nat}(S:lJ Z B h bj bf vf bt vt p q rv d y e n room w):du h bf vf d.m:=by
 obtain⟨⟨M,rs,J,a,b⟩,_⟩:=S;exact J.src
theorem fT.frq {Z M Q:Nat→Prop}{h h':ai}{bj bf:Nat}{vf:Value}{bt:Nat}{vt p q rv:Value}{d:fS}{y:Int}{n:Pic}{room w:Nat}{rs:List (Int×List Int)}(J:fT Z M h bj bf vf bt vt p q rv d y n room w rs)(f:Fr Q h h')
  (A:∀c,Z c→¬Q c) (I:∀c,M c→¬Q c) (L:¬Q bj) (G:¬Q bt) (F:∀c,blk vt c→¬Q c):fT Z M h' bj bf vf bt vt p q rv d y n room w rs:=
 ⟨f.row J.row L,J.src.fr f (A _ J.zf.1) λc hc=>A _ (J.zf.2 c hc),J.tx.fr f λc _ D=>A c D,J.ty.fr f λc _ D=>A c D,J.ring.fr f λc _ H=>I c H,J.out.fr f G F,J.zf,J.zz,J.mj,J.jt,J.y0,J.y1,λc hc=>ce (J.zl c hc) f.1⟩
structure zds (d:fS)(room w:Nat):Prop where
 mono:EU d.s.y
 fit:bT d.s.y.lines≤room
 one:1≤room
 wid:(w:Int)=d.t.w*d.m.c
 small:d.t.w≤300
def bP (d:fS)(y e:Int):Int:=if d.t.y+d.t.h≤y then 0 else if e<lnE d.s.y y then 1 else 2
def eT (d:fS)(y e:Int):Int:=if d.t.y+d.t.h≤y then 0 else if e<lnE d.s.y y then e else y
def eJ (d:fS)(y e:Int):Int:=if bP d y e=2 then y+1 else y
def fV (d:fS)(y e:Int):Int:=if bP d y e=1 then e+1 else if bP d y e=2 then max e (lnF d.s.y (y+1))else e
section
variable {Z B:Nat→Prop}{h:ai}{bj bf:Nat}{vf:Value}{bt:Nat}{vt p q rv:Value}{d:fS}{y e:Int}{n:Pic}{room w:Nat}
theorem Qh (S:lJ Z B h bj bf vf bt vt p q rv d y e n room w)(W:d.Wf):ag prog jn #[ptr bj] h λr h'=>r=Dq (bP d y e) (eT d y e)∧Ext h h':=by
 obtain⟨⟨M,rs,J,a,b⟩,c,f,g,o⟩:=S;refine(zbp J W).mono λr h' ⟨k,j,G,A,E⟩=>⟨?_,E⟩
 rw[G];unfold Xp at A;unfold bP eT;by_cases D:d.t.y+d.t.h≤y
 ·rw[aB D]at A;rw[aB D,aB D,A.1,A.2]
 ·rw[aA D]at A;rw[aA D,aA D];obtain⟨H,h1,F⟩:=b ae;rcases A with⟨rfl,A⟩|⟨rfl,rfl,A⟩
  ·rcases H.next h1 F A with⟨a1,_,a3⟩|⟨_,a2,_⟩
   ·rw[aB a1,aB a1,a3]
   ·cases a2
  ·rcases H.next h1 F A with⟨_,a2,_⟩|⟨a1,_,_⟩
   ·cases a2
   ·rw[aA ae,aA ae]
theorem UX (S:lJ Z B h bj bf vf bt vt p q rv d y e n room w)(W:d.Wf)(R:zds d room w):ag prog gX #[ptr bj] h λr h'=>
  r=Dq (bP d y e) (eT d y e)∧∃n',lJ Z (rV B h h') h' bj bf vf bt vt p q rv d (eJ d y e) (fV d y e) n' room w∧Fr (λc=>blk vt c∨B c) h h'∧
   (bP d y e≠2→n'=n)∧(bP d y e=2→∀F G c',inP n F G c'→atP n' F G c'=if zF d y w F G c' then yQ d.m d.s F G c' else atP n F G c'):=by
 apply GM;unfold wF;refine aI λb1 h1 r1 e1 n1=>?_
 have S1:=S.ext e1;refine(Qh S1 W).mono λr h2 ⟨er,e2⟩=>?_
 subst er;refine cX (cs:=[af (bP d y e),af (eT d y e)]) rfl (az rfl (az rfl aU)) rfl λb3 h3 r3 e3 n3=>?_
 have E3:=e1.trans (e2.trans e3);have S3:=S.ext E3;have b4:b1<b3:=by have:=aW r1;have:=e2.1;omega
 have l3:=aW r3;have l1:b1<h3.size:=ae;have bg:=(e2.trans e3).row r1;have ct:=E3.1
 -- the end of a step: the move is handed on
 have fin:∀{U:ai} {n':Pic},Fr (λc=>(blk vt c∨B c)∧c≠b1∧c≠b3) h3 U→
   ((bP d y e≠2→n'=n)∧(bP d y e=2→∀F G c',inP n F G c'→atP n' F G c'=if zF d y w F G c' then yQ d.m d.s F G c' else atP n F G c'))→(∀D,Upd b1 U D→lJ Z (rV B h D) D bj bf vf bt vt p q rv d (eJ d y e) (fV d y e) n' room w)→
   vK (aM 2 U (ptr b3)) λay=>stK 2 (ptr b1) ay U λ_ an=>vK (aM 2 an (ptr b1)) λbd=>bd=Dq (bP d y e) (eT d y e)∧∃n',lJ Z (rV B h an) an bj bf vf bt vt p q rv d (eJ d y e) (fV d y e) n' room w∧Fr (λc=>blk vt c∨B c) h an∧
    (bP d y e≠2→n'=n)∧(bP d y e=2→∀F G c',inP n F G c'→atP n' F G c'=if zF d y w F G c' then yQ d.m d.s F G c' else atP n F G c'):=by
  intro U n' f4 au bv;have b0:=f4.row r3 λI=>I.2.2 rfl
  have b2:=f4.row bg λI=>I.2.1 rfl
  rw[aL (l:=[af (bP d y e),af (eT d y e)]) b0 2 rfl,ah];refine bI (l:=[af (bP d y e),af (eT d y e)]) b2 rfl (az rfl (az rfl aU)) rfl λD r5 u5=>?_
  rw[aL r5 2 rfl,ah];exact⟨rfl,n',bv D u5,((E3.fr (M:=λc=>blk vt c∨B c)).after f4 λc _ hc=>hc.1).after u5.fr (λc hc he=>ae),au.1,au.2⟩
 obtain⟨⟨M,rs,J,aa,hH⟩,am,be,bk,hO⟩:=S;have J3:=J.ext E3
 -- a block that is new lies apart from a job
 have ap:∀{b:Nat} {M':Nat→Prop},h.size≤b→b<h3.size→(∀c,M' c→M c∨h3.size≤c)→(∀c,Z c→¬c=b)∧(∀c,M' c→¬c=b)∧¬bj=b∧¬bt=b∧∀c,blk vt c→¬c=b:=by
  intro b M' hb b6 ax;refine⟨λc hc he=>?_,λc hc he=>?_,λhe=>?_,λhe=>?_,λc hc he=>?_⟩
  ·have:=J.zl c hc;omega
  ·rcases ax c hc with U|U
   ·have:=J.ring.lt U;omega
   ·omega
  ·have:=aW J.row;omega
  ·have:=J.out.lt;omega
  ·have:=J.out.ltv hc;omega
 have ar:h.size≤b1:=n1;have cb:h.size≤b3:=ae
 -- what is its own, at last
 have gz:∀{D:ai},∀c,rV B h D c→¬Z c∧c≠bt∧¬blk vt c:=λc hc=>by
  rcases hc with hc|hc
  ·exact bk c hc
  ·refine⟨λhz=>?_,λhe=>?_,λhv=>?_⟩
   ·have:=J.zl c hz;omega
   ·have:=J.out.lt;omega
   ·have:=J.out.ltv hv;omega
 have gl:∀{D:ai},h.size≤D.size→∀c,rV B h D c→c<D.size:=λhs c hc=>by
  rcases hc with hc|hc
  ·exact ce (be c hc) hs
  ·exact hc.2
 simp only[go_sem,aO];have c0:aE h3 ⟨b3,0,none⟩=some (af (bP d y e)):=ao r3;have c1:aE h3 ⟨b3,1,none⟩=some (af (eT d y e)):=ao r3;simp only[go_sem,c0,c1];refine aq (λL=>?_) (λL=>?_)
 ·-- a row is filtered
  have al:¬d.t.y+d.t.h≤y:=λh=>by unfold bP at L;rw[aB h]at L;cases L
  have ad:e<lnE d.s.y y:=by
   unfold bP at L;rw[aA al]at L;rcases oA e (lnE d.s.y y)with h|h
   ·exact h
   ·rw[aA ae]at L;cases L
  have hj:eT d y e=e:=by unfold eT;rw[aA al,aB ad]
  have hy:eJ d y e=y:=by unfold eJ;rw[aA ae]
  have he:fV d y e=e+1:=by unfold fV;rw[aB L]
  obtain⟨H,a1,a2⟩:=hH ae;have hl:=sD W.s.y y;rw[hy,he]at fin ⊢;rw[hj]at fin ⊢;refine(zc5 J3 W (j:=e) (by unfold lnF at a1;unfold lnE at ad;unfold I64;omega) R.small).mono λr U ⟨M',J4,f4,m4⟩=>?_
  have b7:=R.fit;have ci:=R.mono.m y;have bo:=J3.ring.nums;have a7:(GF d e).length=w:=by
   have D:=R.wid;have hf:=dB W.m.fits;have cr:=W.w1;unfold GF;rw[C5];have:((d.t.w.toNat*d.m.c.toNat:Nat):Int)=d.t.w*d.m.c:=by rw[mQ,AK ae,AK ae]
   omega
  have HP:=H.put (E:=lnE d.s.y y) (room:=room) (w:=w) a1 ad (by unfold lnF lnE;omega) R.one bo.2.2.2.1 a7;have ap1:=ap ar l1 m4;have a8:=f4.1;refine fin (f4.mono λc hc I=>⟨.inr (aa c I),λD=>by have:=J.ring.lt I;omega,λD=>by have:=J.ring.lt I;omega⟩) ⟨λ_=>rfl,λD=>ae⟩ λD u5=>
   ⟨⟨M',_,J4.frq u5.fr ap1.1 ap1.2.1 ap1.2.2.1 ap1.2.2.2.1 ap1.2.2.2.2,λc hc=>?_,λ_=>⟨HP.1,ae,ae⟩⟩,.inl am,gl (by rw[u5.1];omega),gz,hO⟩
  rcases m4 c hc with h6|h6
  ·exact .inl (aa c h6)
  ·have:=J4.ring.lt hc;exact .inr ⟨ae,by rw[u5.1];exact this⟩
 refine aq (λA=>?_) (λA=>?_)
 ·-- a row is written
  have al:¬d.t.y+d.t.h≤y:=λh=>by unfold bP at A;rw[aB h]at A;cases A
  obtain⟨H,a1,a2⟩:=hH ae;have a9:e=lnE d.s.y y:=by
   unfold bP at L;rw[aA al]at L;rcases oA e (lnE d.s.y y)with h|h
   ·rw[aB h]at L;exact absurd rfl L
   ·omega
  have hy:eJ d y e=y+1:=by unfold eJ;rw[aB A]
  have he:fV d y e=max e (lnF d.s.y (y+1)):=by unfold fV;rw[aA L,aB A]
  rw[hy,he]at fin ⊢;refine(zem J3 W hO R.small ae R.wid λk b5=>H.inn _ (by unfold lnF;omega) (by rw[a9];unfold lnE;omega)).mono λr U ⟨n',J4,O4,A4,f4⟩=>?_
  have ap1:=ap (M':=M) ar l1 λc hc=>.inl hc
  have I:=R.mono;have cp:=J.y0;have ca:=W.y0;have b8:=W.yh;have a8:=f4.1;refine fin (f4.mono λc hc I=>?_) ⟨λD=>absurd A D,λ_=>A4⟩ λD u5=>
   ⟨⟨M,_,J4.frq u5.fr ap1.1 ap1.2.1 ap1.2.2.1 ap1.2.2.2.1 ap1.2.2.2.2,λc hc=>.inl (aa c hc),λad=>?_⟩,.inl am,gl (by rw[u5.1];omega),gz,O4⟩
  ·rcases I with I|I
   ·have:=J.out.ltv I;exact⟨.inl I,ae,ae⟩
   ·have:=aW J.row;exact⟨.inr (I▸am),ae,ae⟩
  ·have g1:=I.f y (y+1) ae ae ae;have g2:=I.e y (y+1) ae ae ae;refine⟨H.move g1,ae,?_⟩;have:lnF d.s.y (y+1)≤lnE d.s.y (y+1):=by unfold lnF lnE;omega
   omega
 ·-- it is over
  have cc:bP d y e=0:=by
   unfold bP at*;by_cases U:d.t.y+d.t.h≤y
   ·rw[aB U]
   ·rw[aA U]at*;by_cases D:e<lnE d.s.y y
    ·rw[aB D]at L;exact absurd rfl L
    ·rw[aA D]at A;exact absurd rfl A
  have hy:eJ d y e=y:=by unfold eJ;rw[aA A]
  have he:fV d y e=e:=by unfold fV;rw[aA L,aA A]
  rw[hy,he]at fin ⊢;have ap1:=ap (M':=M) ar l1 λc hc=>.inl hc
  exact fin (Fr.refl _ _) ⟨λ_=>rfl,λD=>absurd D A⟩ λD u5=>⟨⟨M,rs,J3.frq u5.fr ap1.1 ap1.2.1 ap1.2.2.1 ap1.2.2.2.1 ap1.2.2.2.2,λc hc=>.inl (aa c hc),hH⟩,.inl am,gl (by rw[u5.1];omega),gz,hO⟩
end
end
theorem pe_ne {h:ai}{a b:Nat}{c c':Array Value}{t H:TypeId}(G:h[a]? =some (.cells c t (0,0)))(I:h[b]? =some (.cells c' H (0,0)))(A:a≠b):peV h .neq (ptr a) (ptr b)=some (.bool true):=by
 have h1:¬(⟨a,0,none⟩:Addr)=⟨b,0,none⟩:=λhh=>A (by injection hh)
 have D:pI h a=true:=by unfold pI;rw[G];rfl
 have F:pI h b=true:=by unfold pI;rw[I];rfl
 show(if(⟨a,0,none⟩:Addr)=⟨b,0,none⟩then some (Value.bool false)else if pI h a&&pI h b then some (.bool true)else none)=_;rw[aA h1,D,F];rfl
def mz (m n:Pic)(s:Stg):Prop:=kY m s∧n.w=s.x.lines.length∧n.h=s.y.lines.length∧n.c=m.c∧n.most=m.most
instance (m n:Pic)(s:Stg):Decidable (mz m n s):=by unfold mz;infer_instance
theorem zcP {h:ai}(G:fC h){Z:Nat→Prop}{bf bt:Nat}{vf vt sv:Value}{m n:Pic}{s:Stg}(I:du h bf vf m)(O:du h bt vt n)(W:bf≠bt)(HS:rl Z h sv s):
  ag prog xA #[ptr bf,ptr bt,sv] h λr h'=>r=.bool (decide (mz m n s))∧Ext h h':=by
 apply Mv;unfold BB;obtain⟨p,q,rfl,hp,hq,aa⟩:=jQ HS;simp only[bF];refine aI λb1 h1 r1 F n1=>?_
 refine aQ (λh'=>h'=h1) rfl ?_;simp only[go_sem,XO];refine aF (.bool true) (λh' e=>by rw[e];exact pe_ne (F.row I.row) (F.row O.row) W) ?_
 try simp only[go_sem]
 refine aF (.agg #[p,q,af s.border]) (λh' e=>by rw[e];exact aL (l:=[p,q,af s.border]) r1 3 rfl) ?_;refine ag.to (Nt (G.ext F) (I.ext F) (HS.ext F)) λH e2=>?_
 have A:=F.trans e2;have r2:=e2.row r1;have c0:aE H ⟨b1,0,none⟩=some p:=ao r2;have c1:aE H ⟨b1,1,none⟩=some q:=ao r2;by_cases g1:kY m s
 case neg=>
  rw[b9 g1,b9 λD:mz m n s=>g1 D.1];refine aQ (λh'=>h'=H) rfl ?_;simp only[go_sem];refine aF undef (λ_ _=>rfl) ?_
  try simp only[go_sem]
  refine⟨trivial,?_⟩
  try simp only[go_sem]
  refine aQ (λh'=>h'=H) rfl ?_;simp only[go_sem];refine aF undef (λ_ _=>rfl) ?_
  try simp only[go_sem]
  refine⟨trivial,?_⟩
  try simp only[go_sem]
  exact⟨trivial,A⟩
 rw[cH g1];refine aQ (λh'=>h'=H) rfl ?_;simp only[go_sem,aO];refine aF p (λh' e=>by rw[e];exact c0) ?_
 try simp only[go_sem]
 refine ag.at (vP (O.ext A)) ?_;refine⟨rfl,?_⟩
 try simp only[go_sem]
 refine ag.at (Fp (hp.ext A)) ?_;refine aQ (λh'=>h'=H) rfl ?_;by_cases g2:n.w=s.x.lines.length
 case neg=>
  rw[b9 λD:mz m n s=>g2 D.2.1];simp only[go_sem,b9 g2];refine aF undef (λ_ _=>rfl) ?_
  try simp only[go_sem]
  refine⟨trivial,?_⟩
  try simp only[go_sem]
  exact⟨trivial,A⟩
 simp only[go_sem,aO,g2,eqT];refine aF q (λh' e=>by rw[e];exact c1) ?_
 try simp only[go_sem]
 refine ag.at (uh (O.ext A)) ?_;refine⟨rfl,?_⟩
 try simp only[go_sem]
 refine ag.at (Fp (hq.ext A)) ?_;by_cases U:n.h=s.y.lines.length
 case neg=>
  rw[b9 λD:mz m n s=>U D.2.2.1];simp only[go_sem,b9 U];exact⟨trivial,A⟩
 simp only[go_sem,aO,U,eqT];refine ag.at (fZ (O.ext A)) (ag.at (fZ (I.ext A)) ?_);by_cases L:n.c=m.c
 case neg=>
  rw[b9 λD:mz m n s=>L D.2.2.2.1];simp only[go_sem,b9 L];exact⟨trivial,A⟩
 simp only[go_sem,aO,L,eqT];refine ag.at (wu (O.ext A)) (ag.at (wu (I.ext A)) ?_);simp only[go_sem];refine⟨?_,A⟩
 congr 1
 rw[iB];exact⟨λg5=>⟨g1,g2,U,L,g5⟩,λD=>D.2.2.2.2⟩
abbrev rectV (x y w hh:Int):Value:=.agg #[.int .i64 x,.int .i64 y,.int .i64 w,.int .i64 hh]
def eI (s:Stg)(x y w hh:Int):Prop:=1≤w∧1≤hh∧0≤x∧0≤y∧x<s.x.lines.length∧y<s.y.lines.length∧w≤s.x.lines.length-x∧hh≤s.y.lines.length-y
instance (s:Stg)(x y w hh:Int):Decidable (eI s x y w hh):=by unfold eI;infer_instance
theorem WQ {h:ai}{Z:Nat→Prop}{sv:Value}{s:Stg}(HS:rl Z h sv s)(U:s.Wf){x y w hh:Int}:
  ag prog nP #[sv,rectV x y w hh] h λr h'=>r=.bool (decide (eI s x y w hh))∧Ext h h':=by
 apply KS;unfold zH;obtain⟨p,q,rfl,L,hq,W⟩:=jQ HS;have lx:=U.x.len;have ly:=U.y.len;simp only[bF];refine aI λb1 h1 r1 e1 n1=>aI λb2 h2 r2 e2 n2=>?_
 have r1:=e2.row r1;have E:=e1.trans e2;have np:=(KH L).1;have nq:=(KH hq).1;refine aQ (λh'=>h'=h2) rfl ?_;simp only[go_sem,aO];refine aF p (λh' e=>by rw[e];exact ao r1) ?_;simp only[go_sem,aO,np];refine aF q (λh' e=>by rw[e];exact ao r1) ?_;simp only[go_sem,aO,nq];refine aF (af w) (λh' e=>by rw[e];exact ao r2) ?_;by_cases g1:1≤w
 case neg=>
  rw[b9 λA:eI s x y w hh=>g1 A.1];simp only[go_sem,b9 g1]
  repeat(first|refine aF undef (λ_ _=>rfl) ?_ |(refine⟨trivial,?_⟩)|simp only[go_sem])
  first|exact E|exact⟨trivial,E⟩|exact⟨rfl,E⟩
 simp only[go_sem,aO,cH g1];refine aF (af hh) (λh' e=>by rw[e];exact ao r2) ?_;by_cases g2:1≤hh
 case neg=>
  rw[b9 λA:eI s x y w hh=>g2 A.2.1];simp only[go_sem,b9 g2]
  repeat(first|refine aF undef (λ_ _=>rfl) ?_ |(refine⟨trivial,?_⟩)|simp only[go_sem])
  first|exact E|exact⟨trivial,E⟩|exact⟨rfl,E⟩
 simp only[go_sem,aO,cH g2];refine aF (af x) (λh' e=>by rw[e];exact ao r2) ?_;by_cases F:0≤x
 case neg=>
  rw[b9 λA:eI s x y w hh=>F A.2.2.1];simp only[go_sem,b9 F]
  repeat(first|refine aF undef (λ_ _=>rfl) ?_ |(refine⟨trivial,?_⟩)|simp only[go_sem])
  first|exact E|exact⟨trivial,E⟩|exact⟨rfl,E⟩
 simp only[go_sem,aO,cH F];refine aF (af y) (λh' e=>by rw[e];exact ao r2) ?_;by_cases D:0≤y
 case neg=>
  rw[b9 λA:eI s x y w hh=>D A.2.2.2.1];simp only[go_sem,b9 D]
  repeat(first|refine aF undef (λ_ _=>rfl) ?_ |(refine⟨trivial,?_⟩)|simp only[go_sem])
  first|exact E|exact⟨trivial,E⟩|exact⟨rfl,E⟩
 simp only[go_sem,aO,cH D];refine aF (af x) (λh' e=>by rw[e];exact ao r2) ?_;refine aF p (λh' e=>by rw[e];exact ao r1) ?_
 try simp only[go_sem]
 refine ag.at (Fp (L.ext E)) ?_;refine⟨rfl,?_⟩;by_cases I:x<(s.x.lines.length:Int)
 case neg=>
  rw[b9 λA:eI s x y w hh=>I A.2.2.2.2.1];simp only[go_sem,b9 I]
  repeat(first|refine aF undef (λ_ _=>rfl) ?_ |(refine⟨trivial,?_⟩)|simp only[go_sem])
  first|exact E|exact⟨trivial,E⟩|exact⟨rfl,E⟩
 simp only[go_sem,aO,cH I];refine aF (af y) (λh' e=>by rw[e];exact ao r2) ?_;refine aF q (λh' e=>by rw[e];exact ao r1) ?_
 try simp only[go_sem]
 refine ag.at (Fp (hq.ext E)) ?_;refine⟨rfl,?_⟩;by_cases G:y<(s.y.lines.length:Int)
 case neg=>
  rw[b9 λA:eI s x y w hh=>G A.2.2.2.2.2.1];simp only[go_sem,b9 G]
  repeat(first|refine aF undef (λ_ _=>rfl) ?_ |(refine⟨trivial,?_⟩)|simp only[go_sem])
  first|exact E|exact⟨trivial,E⟩|exact⟨rfl,E⟩
 simp only[go_sem,aO,cH G];refine aF (af w) (λh' e=>by rw[e];exact ao r2) ?_;refine aF p (λh' e=>by rw[e];exact ao r1) ?_;refine aF (af x) (λh' e=>by rw[e];exact ao r2) ?_
 try simp only[go_sem]
 refine ag.at (Fp (L.ext E)) ?_;refine⟨rfl,?_⟩;simp only[go_sem,aO];rw[w64 ae ae];by_cases H:w≤(s.x.lines.length:Int)-x
 case neg=>
  rw[b9 λA:eI s x y w hh=>H A.2.2.2.2.2.2.1];simp only[go_sem,b9 H]
  repeat(first|refine aF undef (λ_ _=>rfl) ?_ |(refine⟨trivial,?_⟩)|simp only[go_sem])
  first|exact E|exact⟨trivial,E⟩|exact⟨rfl,E⟩
 simp only[go_sem,aO,cH H];refine aF (af hh) (λh' e=>by rw[e];exact ao r2) ?_;refine aF q (λh' e=>by rw[e];exact ao r1) ?_;refine aF (af y) (λh' e=>by rw[e];exact ao r2) ?_
 try simp only[go_sem]
 refine ag.at (Fp (hq.ext E)) ?_;refine⟨rfl,?_⟩;simp only[go_sem,aO];rw[w64 ae ae];refine⟨?_,E⟩
 congr 1
 rw[iB];exact⟨λg8=>⟨g1,g2,F,D,I,G,H,g8⟩,λA=>A.2.2.2.2.2.2.2⟩
abbrev zeX:Array Value:=#[(.pointer none),(.pointer none),(.pointer none),(.pointer none),(.int .i64 0),(.int .i64 0),(.int .i64 0),(.int .i64 0),(.int .i64 0),(.int .i64 0),(.int .i64 0),(.int .i64 0),(.int .i64 0),(.int .i64 0),(.int .i64 0),(.pointer none),(.int .i64 0)]
theorem zcD {bf bt:Nat}{p q rv:Value}{d:fS}{y:Int}(A:aV rv=true):
  aR zeX [(0,1,ptr bf),(1,1,ptr bt),(2,3,.agg #[p,q,af d.s.border]),(5,10,.agg (dO d.t).toArray),(15,1,rv),(16,1,af y)]=some (X8 bf bt p q rv d y).toArray:=by
 refine(cn (n:=1) (l:=[ptr bf]) rfl rfl (by simp)).trans ?_;refine(cn (n:=1) (l:=[ptr bt]) rfl rfl (by simp[cN])).trans ?_;refine(cn (n:=3) (l:=[p,q,af d.s.border]) rfl rfl (by simp[cN])).trans ?_;refine(cn (n:=10) (l:=dO d.t) rfl rfl (by simp[cN])).trans ?_;refine(cn (n:=1) (l:=[rv]) (cJ A) rfl (by simp[cN])).trans ?_;refine(cn (n:=1) (l:=[af y]) rfl rfl (by simp[cN])).trans ?_;rw[ii];simp[wrL,dO,X8]
theorem Du {h:ai}{b:Nat}{l:List Value}{t:TypeId}{f:Nat×Nat}(r:h[b]? =some (.cells l.toArray t f))(o n:Nat)(m:List Value)(G:(l.drop o).take n=m)(D:m.length=n):aM n h (.pointer (some ⟨b,o,none⟩))=some (.agg m.toArray):=by
 subst G;refine Kg _ n D λj F=>?_
 rw[ao r];rw[di,ib]at F;have A:o+j<l.length:=ae;rw[vM,yA];simp[A]
def pg (m n:Pic)(s:Stg)(t:dc):Int:=if¬mz m n s then 6 else if¬eI s t.x t.y t.w t.h then 9 else 0
theorem rC {m n:Pic}{s:Stg}{t:dc}:pg m n s t=0↔mz m n s∧eI s t.x t.y t.w t.h:=by
 unfold pg;by_cases h1:mz m n s
 ·rw[aA (by simpa using h1)];by_cases A:eI s t.x t.y t.w t.h
  ·rw[aA (by simpa using A)];exact⟨λ_=>⟨h1,A⟩,λ_=>rfl⟩
  ·rw[aB A];exact⟨λh=>absurd h (by decide),λh=>absurd h.2 A⟩
 ·rw[aB h1];exact⟨λh=>absurd h (by decide),λh=>absurd h.1 h1⟩
theorem PA {m n:Pic}{s:Stg}{t:dc}(W:m.Wf)(A:s.Wf)(hc:pg m n s t=0):fS.Wf ⟨m,s,t⟩:=by
 obtain⟨h1,D⟩:=rC.1 hc;obtain⟨a1,a2,a3,a4,a5,a6,F,G⟩:=D;exact⟨W,A,h1.1,a1,a2,a3,a4,by show t.x+t.w≤(s.x.lines.length:Int);omega,by show t.y+t.h≤(s.y.lines.length:Int);omega⟩
theorem ZJ {m n:Pic}{s:Stg}{t:dc}(W:n.Wf)(hc:pg m n s t=0):KC ⟨m,s,t⟩ n:=by
 obtain⟨h1,A⟩:=rC.1 hc;exact⟨W,h1.2.1,h1.2.2.1,h1.2.2.2.1,h1.2.2.2.2⟩
def YN (Z:Nat→Prop)(h:ai)(bf:Nat)(vf:Value)(bt:Nat)(vt p q:Value)(m n:Pic)(s:Stg)(t:dc)(r:Value)(h':ai):Prop:=
 Ext h h'∧∃v,r=.tuple #[v,.int .i64 (pg m n s t)]∧(pg m n s t≠0→v=.pointer none)∧
  (pg m n s t=0→∃bj rv,v=ptr bj∧lJ Z (rV (λ_=>False) h h') h' bj bf vf bt vt p q rv ⟨m,s,t⟩ t.y (lnF s.y t.y) n (kn (bT s.y.lines)) (gH (t.w*m.c)))
theorem zfM {h:ai}(G:fC h){Z:Nat→Prop}{bf bt:Nat}{vf vt p q:Value}{m n:Pic}{s:Stg}{t:dc}(I:du h bf vf m)(O:du h bt vt n)(aa:bf≠bt)(W:m.Wf)(WO:n.Wf)(hp:gd Z h p s.x)(hq:gd Z h q s.y)(WS:s.Wf)
  (zf:Z bf∧∀c,blk vf c→Z c) (zz:∀c,Z c→¬blk vt c) (zl:∀c,Z c→c<h.size):
  ag prog qa #[ptr bf,ptr bt,.agg #[p,q,af s.border],.agg (dO t).toArray] h (YN Z h bf vf bt vt p q m n s t):=by
 apply QM;unfold Ft;simp only[bF];have HS:rl Z h (.agg #[p,q,af s.border]) s:=⟨p,q,rfl,hp,hq⟩
 refine aI λb1 h1 r1 e1 n1=>aI λb2 h2 r2 e2 n2=>?_
 have H:=e1.trans e2;have r1:=e2.row r1;rw[aL (l:=[p,q,af s.border]) r1 3 rfl,ah];refine ag.to (zcP (G.ext H) (I.ext H) (O.ext H) aa (HS.ext H)) λh3 e3=>?_
 have E3:=H.trans e3;by_cases g1:mz m n s
 case neg=>
  have hc:pg m n s t=6:=by unfold pg;rw[aB g1]
  simp only[go_sem,b9 g1];exact⟨E3,_,by rw[hc],λ_=>rfl,λh0=>absurd (h0.symm.trans hc) (by decide)⟩
 simp only[go_sem,cH g1];have r1:=e3.row r1;have r2:=e3.row r2;rw[aL (l:=[p,q,af s.border]) r1 3 rfl,ah,Du r2 (0+1) 4 [af t.x,af t.y,af t.w,af t.h] rfl rfl,ah];refine ag.to (WQ (HS.ext E3) WS) λh4 e4=>?_
 have L:=E3.trans e4;by_cases g2:eI s t.x t.y t.w t.h
 case neg=>
  have hc:pg m n s t=9:=by unfold pg;rw[aA (by simpa using g1),aB g2]
  simp only[go_sem,b9 g2];exact⟨L,_,by rw[hc],λ_=>rfl,λh0=>absurd (h0.symm.trans hc) (by decide)⟩
 simp only[go_sem,cH g2];have hc:pg m n s t=0:=rC.2 ⟨g1,g2⟩;have r1:=e4.row r1;have r2:=e4.row r2;have WJ:=PA (t:=t) W WS hc;have hb:=fS.bd WJ;have al:=WJ.w1;have ad:=WJ.x0;have hf:=dB W.fits;refine aQ (Ext h4) (Ext.refl _) ?_;refine aF (.agg #[p,q,af s.border]) (λh' e=>aL (l:=[p,q,af s.border]) (e.row r1) 3 rfl) ?_;refine aF (.agg (dO t).toArray) (λh' e=>aL (e.row r2) 10 rfl) ?_
 try simp only[go_sem,aO]
 refine aF q (λh' e=>ao (e.row r1)) ?_
 try simp only[go_sem,aO]
 refine aF (af t.w) (λh' e=>ao (e.row r2)) ?_
 try simp only[go_sem,aO]
 refine aF (af t.y) (λh' e=>ao (e.row r2)) ?_;refine ag.at (U3 (hq.ext L)) ?_;refine⟨Ext.refl _,?_⟩;refine ag.at (fZ (I.ext L)) ?_;refine⟨Ext.refl _,?_⟩;have au:0≤t.w*m.c∧t.w*m.c≤65536*3:=by
  have h1:(1:Int)≤t.w:=al;have h2:t.x+t.w≤65536:=hb.1;have h3:0≤t.x:=ad;have:=lV (show t.w≤65536 by omega) hf.2.2.2.2.2.1 ae ae;exact⟨mR ae ae,this⟩
 simp only[go_sem];rw[w64 (n:=t.w*m.c) ae ae];refine(zfZ (bT s.y.lines) (t.w*m.c)).mono λrv h5 ⟨M,R,e5,hM⟩=>?_
 refine⟨e5,?_⟩;have E5:=L.trans e5;have hr:aV rv=true:=by obtain⟨_,_,_,_,_,_,e,_⟩:=R;rw[e];rfl
 have am:aR zeX [(0,1,ptr bf),(1,1,ptr bt),(2,3,.agg #[p,q,af s.border]),(5,10,.agg (dO t).toArray),(15,1,rv),(16,1,af t.y)]=some (X8 bf bt p q rv ⟨m,s,t⟩ t.y).toArray:=zcD (d:=⟨m,s,t⟩) hr;rw[am,bH,ah];refine aI λbj h6 r6 e6 n6=>?_
 have F:=E5.trans e6;have an:=O.lt;have ax:=E5.1;have ar:=L.1;refine⟨F,_,by rw[hc],λh0=>absurd hc h0,λ_=>⟨bj,rv,rfl,⟨M,[],⟨r6,I.ext F,hp.ext F,hq.ext F,R.ext e6,O.ext F,zf,λc D=>⟨λA=>?_,λhe=>?_,zz c D⟩,⟨λA=>?_,λA=>?_,λc U A=>?_⟩,⟨ae,λU=>?_⟩,gj _,?_,λc D=>ce (zl c D) F.1⟩,λc A=>.inr ⟨?_,?_⟩,λ_=>⟨KD.start _ _,gj _,?_⟩⟩,.inr ⟨ae,aW r6⟩,λc hc=>hc.elim (λh=>h.elim) λh=>h.2,λc hc=>?_,ZJ WO hc⟩⟩
 ·have:=hM c A;have:=zl c D;omega
 ·have:=zl c D;omega
 ·have:=R.lt A;omega
 ·have:=hM bt A;omega
 ·have:=hM c A;have:=O.ltv U;omega
 ·have:=O.ltv U;omega
 ·show t.y≤t.y+t.h;have:=WJ.h1;have:(1:Int)≤t.h:=this;omega
 ·have:=hM c A;omega
 ·have:=R.lt A;have:=e6.1;omega
 ·show lnF s.y t.y≤lnE s.y t.y;unfold lnF lnE;omega
 ·rcases hc with h|h
  ·exact h.elim
  ·exact⟨λD=>by have:=zl c D;omega,ae,λU=>by have:=O.ltv U;omega⟩
section
theorem NB {a b:Int}(A:1≤a)(D:1≤b):max a b≤a*b:=by
 have h1:a*1≤a*b:=sH D ae;have F:1*b≤a*b:=uu A ae;omega
theorem span0 (X:Int){n m:Int}(U:1≤n)(W:1≤m): -(-(X+n)/m)-X/m≤6*n+4:=by
 have a1:=xd (-(X+n)) m;have a2:=xd X m;have F:=iP (-(X+n)) (show 0<m by omega);have G:=iP X (show 0<m by omega);have H:=NB U W
 revert a1 a2 F G
 generalize-(X+n)/m=A;generalize X/m=D;generalize-(X+n)%m=r1;generalize X%m=r2;intro a1 a2 F G;rcases oA (6*n+4) (-A-D)with h|h
 ·exfalso;have h1:m*(6*n+5)≤m*(-A-D):=sH ae ae;have I:m*(6*n+5)=6*(n*m)+5*m:=by grind
  have L:m*(-A-D)= -(m*A)-m*D:=by grind
  rw[I,L]at h1;omega
 ·omega
theorem span1 (X R:Int){n m:Int}(L:1≤n)(U:1≤m)(W:R≤6*(n*m)): -(-(X+R)/(2*m))-((X-R)/(2*m)+1)≤6*n+4:=by
 have a1:=xd (-(X+R)) (2*m);have a2:=xd (X-R) (2*m);have G:=iP (-(X+R)) (show 0<2*m by omega);have F:=iP (X-R) (show 0<2*m by omega)
 revert a1 a2 G F
 generalize-(X+R)/(2*m)=D;generalize(X-R)/(2*m)=A;generalize-(X+R)%(2*m)=r1;generalize(X-R)%(2*m)=r2;intro a1 a2 G F;rcases oA (6*n+4) (-D-(A+1))with h|h
 ·exfalso;have h1:2*m*(6*n+5)≤2*m*(-D-(A+1)):=sH ae ae;have H:2*m*(6*n+5)=12*(n*m)+10*m:=by grind
  have I:2*m*(-D-(A+1))= -(2*m*D)-2*m*A-2*m:=by grind
  rw[H,I]at h1;omega
 ·omega
theorem zdE {f n m i:Int}(H:0≤f∧f<3)(A:1≤n)(D:1≤m):oS f n m i-rJ f n m i≤6*n+4:=by
 have F:=NB A D;unfold oS rJ PY;by_cases h0:f=0
 ·rw[aB h0,aB h0];rw[show(i+1)*n=i*n+n by rw[jX,kZ]];exact span0 (i*n) A D
 ·rw[aA h0,aA h0];have G:dh f*2*max n m≤6*(n*m)∧0≤dh f*2*max n m:=by
   have:(dh f=2∨dh f=3):=by unfold dh;rw[aA h0];split<;>simp
   rcases this with h|h<;>rw[h]<;>omega
  generalize dh f*2*max n m=R at*;exact span1 _ _ A D G.1
theorem Hf {ls:List (Int×List Int)}{c:Int}(h0:0≤c)(h:∀x∈ls,(x.2.length:Int)≤c):bT ls≤c:=by
 unfold bT;have:∀(l:List (Int×List Int)) (a:Int),a≤c→(∀x∈l,(x.2.length:Int)≤c)→l.foldl (λm x=>max m (x.2.length:Int)) a≤c:=by
  intro l;induction l with
  |nil=>intro a A _;exact A
  |cons y l F=>
   intro a A D;rw[yw];exact F _ (by have:=D y (by simp);omega) λx G=>D x (by simp[G])
 exact this ls 0 h0 h
theorem Ze (ls:List (Int×List Int)):0≤bT ls:=(JD ls 0).1
theorem Je {f n m:Int}(hc:dK f n m=0):bT (fX f n m).lines≤6*n+4:=by
 have h0:¬(¬(0≤f∧f<3)∨¬bE n∨¬bE m):=λh=>by unfold dK at hc;rw[aB h]at hc;cases hc
 have F:=hc;unfold dK at F;rw[aA h0]at F;have G:0≤f∧f<3:=cA λh=>h0 (.inl h)
 have A:bE n:=cA λh=>h0 (.inr (.inl h))
 have D:bE m:=cA λh=>h0 (.inr (.inr h))
 unfold bE at A D;refine Hf ae λx I=>?_
 obtain⟨i,hi,rfl⟩:=gQ.1 I;have hi:=uA.1 hi;have H:=sN F i hi;show((cC (dp f n m i)).length:Int)≤_;rw[xx H];unfold dp;rw[aB ⟨G.1,G.2,A.1,A.2,D.1,D.2,ae,ae⟩];unfold EZ;rw[da,fF];have:=zdE (i:=i) G A.1 D.1;omega
theorem VA {f n m:Int}(hc:dK f n m=0)(A:n≤10000):bT (fX f n m).lines≤65536:=by have:=Je hc;omega
theorem Kr (l:List Int)(n:Int)(hc:jm l n=0):bT (kG l n).lines≤l.length:=by
 refine Hf ae λx A=>?_
 obtain⟨i,hi,rfl⟩:=gQ.1 A;show((cC l).length:Int)≤_;have h0:dj l=0:=by
  unfold jm at hc;split at hc
  ·cases hc
  ·split at hc
   ·cases hc
   ·exact hc
 rw[xx h0];omega
theorem Wz (l:List Int)(A:l.length≤1024)(n:Int)(hc:jm l n=0):bT (kG l n).lines≤65536:=by have:=Kr l n hc;omega
theorem X3 {o:OpD}{w h:Int}(hc:fJ o w h=0)(F:h≤10000):bT (cB o w h).y.lines≤65536:=by
 have A:jf o w h=0:=by
  unfold fJ at hc;split at hc
  ·cases hc
  ·exact hc
 show bT (fQ o h).lines≤_;unfold jf at A;unfold fQ;split
 ·rename_i D;rw[aB D]at A;by_cases h1:dK o.filter w o.w=0
  ·rw[aA (by simpa using h1)]at A;exact VA A F
  ·rw[aB h1]at A;exact absurd A h1
 ·rename_i D;rw[aA D]at A;refine Wz _ (Ch o).2 _ ?_;split at A
  ·exact absurd A (by assumption)
  ·split at A
   ·exact absurd A (by assumption)
   ·exact A
structure DQ (s:Stg):Prop where
 wf:s.Wf
 mono:EU s.y
 most:bT s.y.lines≤65536
 side:s.x.lines.length≤300
theorem Pm {o:OpD}{w h:Int}(hc:fJ o w h=0)(A:h≤10000)(D:qR o w≤300):DQ (cB o w h):=
 ⟨(Ac hc).1,X4 hc,X3 hc A,by have:=(La hc).1;omega⟩
theorem DQ.room {s:Stg}(H:DQ s){m n:Pic}{t:dc}(W:m.Wf)(hc:pg m n s t=0):zds ⟨m,s,t⟩ (kn (bT s.y.lines)) (gH (t.w*m.c)):=by
 have A:=PA (t:=t) W H.wf hc;have D:=dB W.fits;have h1:1≤t.w:=A.w1;have G:0≤t.x:=A.x0;have I:t.x+t.w≤s.x.lines.length:=A.xw;have U:=H.side;have L:=H.most;have F:0≤t.w*m.c∧t.w*m.c≤300*3:=⟨mR ae ae,lV (show t.w≤300 by omega) D.2.2.2.2.2.1 ae ae⟩
 refine⟨H.mono,?_,?_,?_,?_⟩
 ·unfold kn;show bT s.y.lines≤_;omega
 ·unfold kn;omega
 ·unfold gH;show _=t.w*m.c;omega
 ·show t.w≤300;omega
def nB (d:fS):Nat→Int→Int→Nat
 |0,_,_=>0
 |k+1,y,e=>(lnE d.s.y y-e).toNat+1+nB d k (y+1) (max (lnE d.s.y y) (lnF d.s.y (y+1)))
def rj (d:fS)(y e:Int):Nat:=nB d (d.t.y+d.t.h-y).toNat y e
theorem Sk {d:fS}{y e:Int}(h:d.t.y+d.t.h≤y):rj d y e=0:=by
 unfold rj;rw[show(d.t.y+d.t.h-y).toNat=0 by omega];rfl
theorem Le {d:fS}{y e:Int}(h:y<d.t.y+d.t.h):rj d y e=(lnE d.s.y y-e).toNat+1+rj d (y+1) (max (lnE d.s.y y) (lnF d.s.y (y+1))):=by
 unfold rj;rw[show(d.t.y+d.t.h-y).toNat=(d.t.y+d.t.h-(y+1)).toNat+1 by omega];rfl
theorem zaQ {d:fS}{y e:Int}(L:bP d y e≠0)(W:e≤lnE d.s.y y):rj d (eJ d y e) (fV d y e)+1=rj d y e:=by
 have A:¬d.t.y+d.t.h≤y:=λh=>L (by unfold bP;rw[aB h])
 have I:=Le (e:=e) (show y<d.t.y+d.t.h by omega);by_cases h1:e<lnE d.s.y y
 ·have U:bP d y e=1:=by unfold bP;rw[aA A,aB h1]
  have F:eJ d y e=y:=by unfold eJ;rw[aA ae]
  have G:fV d y e=e+1:=by unfold fV;rw[aB U]
  rw[F,G,I,Le (e:=e+1) ae];omega
 ·have H:bP d y e=2:=by unfold bP;rw[aA A,aA h1]
  have F:eJ d y e=y+1:=by unfold eJ;rw[aB H]
  have G:fV d y e=max e (lnF d.s.y (y+1)):=by unfold fV;rw[aA ae,aB H]
  have D:e=lnE d.s.y y:=ae;rw[F,G,I,D];omega
theorem Wq {d:fS}{y e:Int}:rj d y e=0↔bP d y e=0:=by
 unfold bP;by_cases h:d.t.y+d.t.h≤y
 ·rw[aB h,Sk h];simp
 ·rw[aA h,Le ae];constructor
  ·intro h;omega
  ·split<;>intro h<;>cases h
theorem Kf {d:fS}(W:d.s.y.Wf):∀(k:Nat) (y e:Int),lnF d.s.y y≤e→nB d k y e≤k*1048577
 |0,_,_,_=>ck _
 |k+1,y,e,he=>by
  have h1:=Kf W k (y+1) (max (lnE d.s.y y) (lnF d.s.y (y+1))) ae;have A:=sD W y;unfold nB;unfold lnE lnF at*;omega
theorem left_bd {d:fS}(W:d.Wf){y e:Int}(G:d.t.y≤y)(A:y<d.t.y+d.t.h→lnF d.s.y y≤e):rj d y e≤68719542272:=by
 by_cases h:y<d.t.y+d.t.h
 ·have h1:=Kf W.s.y (d.t.y+d.t.h-y).toNat y e (A h);have D:=fS.bd W;have F:=W.y0;unfold rj;omega
 ·rw[Sk ae];omega
theorem EO {B:Nat→Prop}{h:ai}:rV B h h=B:=by
 funext c
 unfold rV;apply propext;constructor
 ·rintro(h|h)
  ·exact h
  ·omega
 ·exact .inl
section
variable {Z B:Nat→Prop}{h:ai}{bj bf:Nat}{vf:Value}{bt:Nat}{vt p q rv:Value}{d:fS}{y e:Int}{n:Pic}{room w:Nat}
theorem Qg (S:lJ Z B h bj bf vf bt vt p q rv d y e n room w):ag prog kI #[ptr bj] h λr h'=>r=af ((room:Int)*w)∧h'=h:=by
 apply Fb;unfold uO;obtain⟨⟨M,rs,J,a,b⟩,_⟩:=S;simp only[go_sem,J.c15 (Ext.refl _)];exact zdb J.ring
end
def Au (s:Stg)(t:dc)(m:Pic):Nat:=rj ⟨m,s,t⟩ t.y (lnF s.y t.y)
theorem zeF {Z:Nat→Prop}{h:ai}{p q:Value}{s:Stg}{t:dc}(m:Pic)(hp:gd Z h p s.x)(hq:gd Z h q s.y)(F:DQ s):
  ag prog xB #[.agg #[p,q,af s.border],.agg (dO t).toArray] h λr h'=>r=af (if eI s t.x t.y t.w t.h then(Au s t m:Int)else 0)∧Ext h h':=by
 apply Mw;unfold BC;simp only[bF];have HS:rl Z h (.agg #[p,q,af s.border]) s:=⟨p,q,rfl,hp,hq⟩
 refine aI λb1 h1 r1 e1 n1=>aI λb2 h2 r2 e2 n2=>?_
 have E2:=e1.trans e2;have r1:=e2.row r1;rw[aL (l:=[p,q,af s.border]) r1 3 rfl,ah,Wy,ah,Du r2 (0+1) 4 [af t.x,af t.y,af t.w,af t.h] rfl rfl,ah];refine ag.to (WQ (HS.ext E2) F.wf) λh4 e4=>?_
 have E4:=E2.trans e4;have r1:=e4.row r1;have r2:=e4.row r2;by_cases g:eI s t.x t.y t.w t.h
 case neg=>
  rw[aA g];simp only[go_sem,b9 g];exact⟨trivial,E4⟩
 rw[aB g];obtain⟨g1,g2,g3,g4,g5,g6,g7,g8⟩:=g;have q1:aE h4 ⟨b1,1,none⟩=some q:=ao r1;have t4:aE h4 ⟨b2,4,none⟩=some (af t.h):=ao r2;have t2:aE h4 ⟨b2,2,none⟩=some (af t.y):=ao r2;simp only[go_sem,cH (show eI s t.x t.y t.w t.h from⟨g1,g2,g3,g4,g5,g6,g7,g8⟩),t4,q1,t2];refine(DM (hq.ext E4) F.wf.y).mono λr h5 ⟨u,e,S,e5⟩=>?_
 subst e;have E5:=E4.trans e5;have am:rh false 1 0 (.agg #[af (bK s.y t.y).1,u])=some (af (lnF s.y t.y)):=rfl;have t4:aE h5 ⟨b2,4,none⟩=some (af t.h):=ao (e5.row r2);simp only[go_sem,am,t4];obtain⟨H,hH⟩:∃H:Nat,t.h=(H:Int):=⟨t.h.toNat,ae⟩
 have b4:=F.wf.y.len;have ay:=F.mono;obtain⟨d,hd⟩:∃d:fS,d=⟨m,s,t⟩:=⟨_,rfl⟩
 have G:d.s=s:=by rw[hd]
 have al:Au s t m=nB d H t.y (lnF s.y t.y):=by
  unfold Au rj;rw[hd];show nB _ (t.y+t.h-t.y).toNat _ _=_;rw[show(t.y+t.h-t.y).toNat=H by omega]
 have W:∀k y e,lnF s.y y≤e→nB d k y e≤k*1048577:=λk y e he=>Kf (by rw[G];exact F.wf.y) k y e (by rw[G];exact he)
 have b3:=W H t.y (lnF s.y t.y) (gj _);rw[hH];refine bO (α:=Int×Int) H 0 (λk a=>[af a.1,af a.2,af (k:Int)])
  (λk a h'=>Ext h h'∧h'[b1]? =some (.cells #[p,q,af s.border] 81 (0,0))∧h'[b2]? =some (.cells (dO t).toArray 116 (0,0))∧0≤a.1∧a.1+nB d (H-k) (t.y+k) (max a.2 (lnF s.y (t.y+k)))-(H-k:Nat)=Au s t m∧(k<H→a.2≤lnE s.y (t.y+k)∧lnF s.y t.y≤a.2)) ((H:Int),lnF s.y t.y) rfl (bZ _)
  ⟨E5,e5.row r1,e5.row r2,by show(0:Int)≤(H:Int);omega,by
   show((H:Int)+(nB d (H-0) (t.y+(0:Nat)) (max (lnF s.y t.y) (lnF s.y (t.y+(0:Nat)))):Int))-_=_;rw[show t.y+((0:Nat):Int)=t.y by omega,show max (lnF s.y t.y) (lnF s.y t.y)=lnF s.y t.y by omega,al,AN];omega,λ_=>by
   show lnF s.y t.y≤lnE s.y (t.y+(0:Nat))∧_;rw[show t.y+((0:Nat):Int)=t.y by omega];exact⟨by unfold lnE lnF;omega,gj _⟩⟩ λk a h6 again ρ1 _ hk ⟨E6,U,ad,a0,I,hL⟩ an=>?_
 obtain⟨n,A⟩:=a;have a0:0≤n:=a0;have I:n+nB d (H-k) (t.y+k) (max A (lnF s.y (t.y+k)))-(H-k:Nat)=Au s t m:=I;have hL:k<H→A≤lnE s.y (t.y+k)∧lnF s.y t.y≤A:=hL;simp only[go_sem];refine aq (λh7=>?_) (λh7=>?_)
 ·have L:k<H:=ae;obtain⟨hL,bg⟩:=hL L;have q1:aE h6 ⟨b1,1,none⟩=some q:=ao U;have t2:aE h6 ⟨b2,2,none⟩=some (af t.y):=ao ad;simp only[go_sem,q1,t2];rw[w64 (n:=t.y+(k:Int)) ae ae];refine(DM (hq.ext E6) F.wf.y).mono λr h7 ⟨u,e,S,e7⟩=>?_
  subst e;have hl:=sD F.wf.y (t.y+k);refine cX (cs:=[af (bK s.y (t.y+k)).1,u]) rfl (az rfl (az S.one aU)) rfl λb8 h8 r8 e8 n8=>?_
  obtain⟨au,cu,eu⟩:=S.isSl;have a7:aD u=some (af ((bK s.y (t.y+k)).2.length:Int)):=by rw[eu];rfl
  have c0:aE h8 ⟨b8,0,none⟩=some (af (bK s.y (t.y+k)).1):=ao r8;have c1:aE h8 ⟨b8,1,none⟩=some u:=ao r8;simp only[go_sem,aO,c0,c1,a7];have ax:(bK s.y (t.y+k)).1+((bK s.y (t.y+k)).2.length:Int)=lnE s.y (t.y+k):=rfl;have ar:(bK s.y (t.y+k)).1=lnF s.y (t.y+k):=rfl;have be:lnF s.y (t.y+k)≤lnE s.y (t.y+k):=by unfold lnE lnF;omega
  have bo: -70368744177664≤lnE s.y (t.y+k)∧lnE s.y (t.y+k)≤70368745226240:=by unfold lnE;omega
  have aa:=sD F.wf.y t.y;have bd: -70368744177664≤lnF s.y t.y∧lnF s.y t.y≤70368744177664:=⟨aa.2.1,aa.2.2⟩
  have bk: -70368744177664≤lnF s.y (t.y+k):=hl.2.1;rw[w64 (n:=(bK s.y (t.y+k)).1+((bK s.y (t.y+k)).2.length:Int)) ae ae,ax,ar];have D:nB d (H-k) (t.y+k) (max A (lnF s.y (t.y+k)))=(lnE s.y (t.y+k)-max A (lnF s.y (t.y+k))).toNat+1+nB d (H-(k+1)) (t.y+(k+1:Nat)) (max (lnE s.y (t.y+k)) (lnF s.y (t.y+(k+1:Nat)))):=by
   rw[show H-k=(H-(k+1))+1 by omega];rw[nB,G,show t.y+(k:Int)+1=t.y+((k+1:Nat):Int)by omega]
  have b0:=W (H-(k+1)) (t.y+(k+1:Nat)) (max (lnE s.y (t.y+k)) (lnF s.y (t.y+(k+1:Nat)))) ae;rw[D]at I;generalize a8:nB d (H-(k+1)) (t.y+(k+1:Nat)) (max (lnE s.y (t.y+k)) (lnF s.y (t.y+(k+1:Nat))))=LL at*;rw[w64 (n:=lnE s.y (t.y+k)-max A (lnF s.y (t.y+k))) ae ae,w64 (n:=n+max 0 (lnE s.y (t.y+k)-max A (lnF s.y (t.y+k)))) ae ae,w64 (n:=(k:Int)+1) ae ae];refine an (n+max 0 (lnE s.y (t.y+k)-max A (lnF s.y (t.y+k))),max A (lnE s.y (t.y+k))) h8 L ⟨E6.trans (e7.trans e8),(e7.trans e8).row U,(e7.trans e8).row ad,?_,?_,λbv=>?_⟩
  ·show 0≤n+max 0 (lnE s.y (t.y+k)-max A (lnF s.y (t.y+k)));omega
  ·show n+max 0 (lnE s.y (t.y+k)-max A (lnF s.y (t.y+k)))+(nB d (H-(k+1)) (t.y+(k+1:Nat)) (max (max A (lnE s.y (t.y+k))) (lnF s.y (t.y+(k+1:Nat)))):Int)-_=_;rw[show max A (lnE s.y (t.y+k))=lnE s.y (t.y+k)by omega,a8];omega
  ·have:=ay.e (t.y+k) (t.y+(k+1:Nat)) ae ae ae;show max A (lnE s.y (t.y+k))≤lnE s.y (t.y+(k+1:Nat))∧lnF s.y t.y≤max A (lnE s.y (t.y+k));omega
 ·have a9:k=H:=ae;subst a9;refine⟨?_,E6⟩;rw[T6]at I;have:n=Au s t m:=by unfold nB at I;omega
  rw[this]
end
end Go.Proofs.YtjljhnandbbldaaGreatDoor
namespace Go.Proofs.YtjljhnandbbldaaGreatDoor
open Go Go.Crisp
attribute [local irreducible] ag cO aT stK aG vK qK bL gK eM bC mkK cR HA JA Ep bsK clK vu pP Zb
theorem Wj {t:Tbl}{i:Nat}(hi:i<t.lines.length):t.lines[i]=bK t (i:Int):=by
 unfold bK;rw[aB ae];simp[dr,hi]
def zfi (m:Pic)(s:Stg)(i:Nat):Int:=yQ m s ((i/m.c.toNat%s.x.lines.length:Nat):Int) ((i/m.c.toNat/s.x.lines.length:Nat):Int) ((i%m.c.toNat:Nat):Int)
def DP (m:Pic)(s:Stg):Pic:=⟨s.x.lines.length,s.y.lines.length,m.c,m.most,(List.range (s.y.lines.length*s.x.lines.length*m.c.toNat)).map λi:Nat=>zfi m s i⟩
theorem zdQ {m:Pic}{s:Stg}{x y c:Nat}(A:x<s.x.lines.length)(hc:c<m.c.toNat):zfi m s ((y*s.x.lines.length+x)*m.c.toNat+c)=yQ m s x y c:=by
 unfold zfi;have F:((y*s.x.lines.length+x)*m.c.toNat+c)/m.c.toNat=y*s.x.lines.length+x:=by
  rw[fG,T5 ae,uw hc,ic]
 have H:((y*s.x.lines.length+x)*m.c.toNat+c)%m.c.toNat=c:=by
  rw[fG,MZ,xf hc]
 rw[F,H];have D:(y*s.x.lines.length+x)%s.x.lines.length=x:=by rw[fG,MZ,xf A]
 have G:(y*s.x.lines.length+x)/s.x.lines.length=y:=by rw[fG,T5 ae,uw A,ic]
 rw[D,G]
theorem zbE {m:Pic}{s:Stg}{x y c:Int}(hi:inP (DP m s) x y c):atP (DP m s) x y c=yQ m s x y c:=by
 unfold atP;rw[aB hi];obtain⟨x0,D,y0,y1,H,A⟩:=hi;have D:x<s.x.lines.length:=D;have y1:y<s.y.lines.length:=y1;have A:c<m.c:=A;obtain⟨a,rfl⟩:∃a:Nat,x=a:=⟨x.toNat,ae⟩
 obtain⟨b,rfl⟩:∃b:Nat,y=b:=⟨y.toNat,ae⟩
 obtain⟨e,rfl⟩:∃e:Nat,c=e:=⟨c.toNat,ae⟩
 have F:(qM (DP m s) a b e).toNat=(b*s.x.lines.length+a)*m.c.toNat+e:=by
  show(((b:Int)*(s.x.lines.length:Int)+a)*m.c+e).toNat=_;have:((((b*s.x.lines.length+a)*m.c.toNat+e:Nat)):Int)=((b:Int)*(s.x.lines.length:Int)+a)*m.c+e:=by
   rw[MW,mQ,MW,mQ,AK ae]
  omega
 rw[F];have h1:b*s.x.lines.length+a<s.y.lines.length*s.x.lines.length:=by
  have:(b+1)*s.x.lines.length≤s.y.lines.length*s.x.lines.length:=gO _ ae;rw[fb,uv]at this;omega
 have G:(b*s.x.lines.length+a)*m.c.toNat+e<s.y.lines.length*s.x.lines.length*m.c.toNat:=by
  have:(b*s.x.lines.length+a+1)*m.c.toNat≤s.y.lines.length*s.x.lines.length*m.c.toNat:=gO _ ae;rw[fb,uv]at this;omega
 show((List.range _).map _).getD _ 0=_;rw[dr,vH,T4 G];exact zdQ ae ae
end Go.Proofs.YtjljhnandbbldaaGreatDoor
namespace Go.Crisp
open Go
def pf (w:Nat)(h:ai)(v:Value)(n:Nat)(cs:List Value):Prop:=
 (v=.slice none 0 0∧n=0∧cs=[])∨∃b cap p r e,v=.slice (some ⟨b,p.length,none⟩) n cap∧n≤cap∧cs.length=n*w∧(cs++r).length=cap*w∧h[b]? =some (.cells (p++(cs++r)).toArray e (0,0))
theorem pf.nil {w:Nat}{h:ai}:pf w h (.slice none 0 0) 0 []:=.inl ⟨rfl,rfl,rfl⟩
theorem Own.o {w:Nat}{h:ai}{v:Value}{n:Nat}{cs:List Value}(H:Own w h v n cs):pf w h v n cs:=by
 rcases H with H|⟨b,cap,r,e,rfl,h1,A,D,F⟩
 ·exact .inl H
 ·exact .inr ⟨b,cap,[],r,e,rfl,h1,A,D,F⟩
theorem pf.fr {w:Nat}{M:Nat→Prop}{h h':ai}{v:Value}{n:Nat}{cs:List Value}(H:pf w h v n cs)(f:Fr M h h')(F:∀b,blk v b→¬M b):pf w h' v n cs:=by
 rcases H with⟨rfl,rfl,rfl⟩|⟨b,cap,p,r,e,rfl,hc,D,A,G⟩
 ·exact .inl ⟨rfl,rfl,rfl⟩
 ·exact .inr ⟨b,cap,p,r,e,rfl,hc,D,A,f.row G (F b rfl)⟩
theorem pf.ext {w:Nat}{h h':ai}{v:Value}{n:Nat}{cs:List Value}(H:pf w h v n cs)(f:Ext h h'):pf w h' v n cs:=H.fr (M:=λ_=>False) f.fr λ_ _=>id
theorem pf.lt {w:Nat}{h:ai}{v:Value}{n:Nat}{cs:List Value}(H:pf w h v n cs){b:Nat}(A:blk v b):b<h.size:=by
 rcases H with⟨rfl,rfl,rfl⟩|⟨D,cap,p,r,e,rfl,hc,G,F,h'⟩
 ·cases A
 ·rw[show b=D from A];exact(mT.1 h').1
theorem pf.sl {w:Nat}{h:ai}{v:Value}{n:Nat}{cs:List Value}(H:pf w h v n cs):SlC w h v n cs:=by
 rcases H with⟨rfl,rfl,rfl⟩|⟨b,cap,p,r,e,rfl,hc,F,_,D⟩
 ·exact⟨by simp,none,0,rfl,.inl rfl⟩
 ·refine⟨F,_,cap,rfl,.inr ⟨b,p.length,rfl,λj A=>?_⟩⟩;rw[ao D];simp only[yX];rw[mP (Nat.le_add_right _ _),Zk,pR A];simp[A]
theorem zdx (ds p cs r:List Value)(h:ds.length≤r.length):wrL (p++(cs++r)).toArray (p.length+cs.length) ds=(p++(cs++ds++r.drop ds.length)).toArray:=by
 have:=Ii ds (p++cs) r h;rw[cF]at this;rw[←cL,this];simp
theorem zbF {z:Value}{e:TypeId}{w bytes n m:Nat}{s x:Value}{h:ai}{cs ds:List Value}{K:Value→ai→Prop}
  (hs:pf w h s n cs) (hx:SlC w h x m ds) (ho:∀v∈ds,aV v=true) (hz:z.cells.size=w) (W:(n+m)*bytes≤140737488355328) (hn:n+m≤9223372036854775807)
  (H:∀I h',pf w h' I (n+m) (cs++ds)→Fr (blk s) h h'→(∀b,blk I b→blk s b∨h.size≤b)→K I h'):cR z e w bytes s x h K:=by
 rcases hs with⟨rfl,rfl,rfl⟩|⟨b,cap,p,r,e0,rfl,hc,L,hr,G⟩
 ·exact ui (.inl ⟨rfl,rfl,rfl⟩) hx ho hz W hn λI h' o=>H I h' o.o
 ·have F:SlC w h (.slice (some ⟨b,p.length,none⟩) n cap) n cs:=pf.sl (.inr ⟨b,cap,p,r,e0,rfl,hc,L,hr,G⟩);have F:=F.loads;have U:=hx.loads;obtain⟨D,a',al,rfl,am⟩:=hx;unfold cR;simp only[RL];split
  ·rename_i h0;rw[U];have aa:ds.length≤r.length:=by
    rw[cF]at hr;rw[D];have:(n+m)*w≤cap*w:=gO w h0;rw[fb]at this;omega
   have ad:=nZ (o:=p.length+n*w) ds 0 h _ G (by simp;omega) ho;simp only[nO,ad];rw[ic,←L,zdx ds p cs r aa];refine H _ _ (.inr ⟨b,cap,p,r.drop ds.length,e0,rfl,h0,?_,?_,lD G⟩) (Upd.set.fr) (λk hk=>.inl hk)
   ·simp[L,D,fb]
   ·rw[←hr];simp;omega
  ·rename_i h0;rw[F,U];refine⟨by simp only[IntKind.max];simp only[IntKind.signed,IntKind.bits];omega,bA (Uy ae W) (by decide),λA h1 h2=>?_⟩;refine H _ _ (.inr ⟨h.size,A,[],(Builtin.zeroCells z.cells (A-(n+m))).toList,e,rfl,h1,?_,?_,?_⟩) (Ext.push h _).fr (λb W=>.inr (by rw[show b=h.size from W];exact ck _))
   ·simp[L,D,fb]
   ·simp[L,D,Tc,hz];rw[←fb,←fb];congr 1;omega
   ·rw[tN];simp
theorem pf.tail {w:Nat}{h:ai}{v x:Value}{n:Nat}{cs ds:List Value}(H:pf w h v (n+1) (ds++cs))(hd:ds.length=w)(U:0<n){k:IntKind}:
  ∃D,ni w v (some (.int k 1)) none=some D∧pf w h D n cs∧∀b,blk D b→blk v b:=by
 rcases H with⟨_,h0,_⟩|⟨b,cap,p,r,e,rfl,hc,I,F,L⟩
 ·cases h0
 ·have A:¬cap=1:=ae;refine⟨.slice (some ⟨b,p.length+w,none⟩) n (cap-1),?_,.inr ⟨b,cap-1,p++ds,r,e,by rw[cF,hd],ae,?_,?_,?_⟩,λc hc=>hc⟩
  ·have G:bdV (some (Value.int k 1)) 0 (n+1)=some 1:=yC k 1 0 (n+1) ae;simp only[ni,bdV,G,aA A,cU,nO,uv,AQ];rw[aB ae];simp[A]
  ·rw[cF,hd,fb,uv]at I;omega
  ·simp only[cF]at F ⊢;rw[hd]at F;have:cap*w=(cap-1)*w+w:=by rw[←sI];congr 1;omega
   omega
  ·rw[L];simp
def OwO (k:IntKind)(h:ai)(v:Value)(l:List Int):Prop:=pf 1 h v l.length (l.map λx=>Value.int k x)
theorem OwO.nil {k:IntKind}{h:ai}:OwO k h (.slice none 0 0) []:=pf.nil
theorem OwO.sl {k:IntKind}{h:ai}{v:Value}{l:List Int}(H:OwO k h v l):Rp.Sl (Rp.int k) (blk v) h v l:=by
 have s:=pf.sl H;refine⟨_,s,λ_ b A=>A,λi hi=>?_⟩;show Rp.el 1 (l.map λx=>Value.int k x) i=[Value.int k l[i]];rw[Rp.el_one (by simpa using hi)];simp
theorem OwO.push {k:IntKind}{z z':Value}{t t':TypeId}{bytes:Nat}{s:Value}{h:ai}{l:List Int}{x:Int}{K:Value→ai→Prop}(U:OwO k h s l)(G:z.cells.size=1)
  (hb:(l.length+1)*bytes≤140737488355328) (L:l.length+1≤9223372036854775807)
  (H:∀A h',OwO k h' A (l++[x])→Fr (blk s) h h'→(∀b,blk A b→blk s b∨h.size≤b)→K A h'):cO #[z'] t 1 [(0,1,.int k x)] h λI h3=>cR z t' 1 bytes s I h3 K:=by
 refine cT (Rp.fill_one rfl) λb h1 r1 D n1=>?_
 refine zbF (pf.ext U D) (Rp.SlC.single (cs:=[.int k x]) r1) (az (a:=Value.int k x) rfl aU) G hb L λA h' o' F n'=>H A h' ?_ (D.fr.trans F) λc hc=>(n' c hc).imp id λW=>bA D.1 W
 unfold OwO;rw[cF,jW];exact o'
theorem OwO.tail {k k':IntKind}{h:ai}{v:Value}{x:Int}{l:List Int}(H:OwO k h v (x::l))(D:0<l.length):
  ∃A,ni 1 v (some (.int k' 1)) none=some A∧OwO k h A l∧∀b,blk A b→blk v b:=
 pf.tail (x:=v) (ds:=[.int k x]) H rfl D
end Go.Crisp
namespace Go.Proofs.YtjljhnandbbldaaGreatDoor
open Go Go.Crisp
attribute [local irreducible] ag cO aT stK aG vK qK bL gK eM bC mkK cR HA JA Ep bsK clK vu pP Zb
open _root_.Go.Proofs.Tryz
def oQ (e E:Int):List (Int×Int):=(List.range (E-e).toNat).map λi:Nat=>((1:Int),e+(i:Int))
def mO (d:fS):Nat→Int→Int→List (Int×Int)
 |0,_,_=>[]
 |k+1,y,e=>oQ e (lnE d.s.y y)++(2,y)::mO d k (y+1) (max (lnE d.s.y y) (lnF d.s.y (y+1)))
def ut (d:fS)(y e:Int):List (Int×Int):=mO d (d.t.y+d.t.h-y).toNat y e
theorem Oc {e E:Int}(h:E≤e):oQ e E=[]:=by
 unfold oQ;rw[show(E-e).toNat=0 by omega];rfl
theorem XE {e E:Int}(h:e<E):oQ e E=(1,e)::oQ (e+1) E:=by
 unfold oQ;rw[show(E-e).toNat=(E-(e+1)).toNat+1 by omega,List.range_succ_eq_map,yV,AZ]
 congr 1
 ·simp
 ·apply EL;intro i _;show((1:Int),e+((i+1:Nat):Int))=(1,e+1+(i:Int))
  congr 1
  omega
theorem XD {e E:Int}(h:e≤E):oQ e (E+1)=oQ e E++[(1,E)]:=by
 unfold oQ;rw[show(E+1-e).toNat=(E-e).toNat+1 by omega,rK,jW]
 congr 1
 show[((1:Int),e+((E-e).toNat:Int))]=[(1,E)];rw[show e+((E-e).toNat:Int)=E by omega]
theorem KM {e E:Int}:(oQ e E).length=(E-e).toNat:=by unfold oQ;rw[da,fF]
theorem He (d:fS):∀(k:Nat) (y e:Int),(mO d k y e).length=nB d k y e
 |0,_,_=>rfl
 |k+1,y,e=>by
  unfold mO nB;rw[cF,pS,KM,He d k];omega
theorem Sf (d:fS)(y e:Int):(ut d y e).length=rj d y e:=He d _ y e
theorem Pg {d:fS}{y e:Int}(h:y<d.t.y+d.t.h):ut d y e=oQ e (lnE d.s.y y)++(2,y)::ut d (y+1) (max (lnE d.s.y y) (lnF d.s.y (y+1))):=by
 unfold ut;rw[show(d.t.y+d.t.h-y).toNat=(d.t.y+d.t.h-(y+1)).toNat+1 by omega];rfl
theorem XZ {d:fS}{y e:Int}(hk:bP d y e≠0)(he:e≤lnE d.s.y y):ut d y e=(bP d y e,eT d y e)::ut d (eJ d y e) (fV d y e):=by
 have A:¬d.t.y+d.t.h≤y:=λh=>hk (by unfold bP;rw[aB h])
 have I:=Pg (e:=e) (show y<d.t.y+d.t.h by omega);by_cases h1:e<lnE d.s.y y
 ·have L:bP d y e=1:=by unfold bP;rw[aA A,aB h1]
  have W:eT d y e=e:=by unfold eT;rw[aA A,aB h1]
  have G:eJ d y e=y:=by unfold eJ;rw[aA ae]
  have H:fV d y e=e+1:=by unfold fV;rw[aB L]
  rw[G,H,L,W,I,Pg (e:=e+1) ae,XE h1];rfl
 ·have D:bP d y e=2:=by unfold bP;rw[aA A,aA h1]
  have U:eT d y e=y:=by unfold eT;rw[aA A,aA h1]
  have G:eJ d y e=y+1:=by unfold eJ;rw[aB D]
  have H:fV d y e=max e (lnF d.s.y (y+1)):=by unfold fV;rw[aA ae,aB D]
  have F:e=lnE d.s.y y:=ae;rw[G,H,D,U,I,Oc ae,F];rfl
def w8:Rp (Int×Int) where
 w:=2
 R:=λ_ _ cs x=>cs=[.int .i64 x.1,.int .i64 x.2]
 len:=by rintro _ _ _ _ rfl;rfl
 one:=by rintro _ _ _ _ rfl;exact az rfl (az rfl aU)
 fr:=by rintro _ _ _ _ _ _ h _ _;exact h
 mono:=by rintro _ _ _ _ _ h _;exact h
theorem New.push2 {z:Value}{c:Array Value}{t U:TypeId}{bytes:Nat}{h h1:ai}{v:Value}{l:List (Int×Int)}{a b:Int}{K:Value→ai→Prop}(H:New w8 h h1 v l)(hc:c.size=2)(G:z.cells.size=2)(D:(l.length+1)*bytes≤140737488355328)(L:l.length+1≤9223372036854775807)
  (HK:∀A h',New w8 h h' A (l++[(a,b)])→Fr (blk v) h1 h'→(∀b,blk A b→blk v b∨h1.size≤b)→K A h'):cO c t 1 [(0,2,.agg #[af a,af b])] h1 λI W=>cR z U 2 bytes v I W K:=by
 refine Rp.push_ow (e:=w8) (cs:=[af a,af b]) (x:=(a,b)) H.1 rfl hc G D L (λb D=>D.elim) λA h' o' F n'=>HK A h' ⟨o',H.2.1.then_fr F H.2.2,λb D=>?_⟩ F n'
 rcases n' b D with h1|h1
 ·exact H.2.2 b h1
 ·exact bA H.2.1.1 h1
theorem zev {h:ai}{Z:Nat→Prop}{v:Value}{l:List Int}{j:Int}(H:Rp.Sl (Rp.int .i64) Z h v l)(hl:l.length≤4611686018427387904):ag prog Ie #[v,af j] h λr h'=>r=.bool (decide (j∈l))∧h'=h:=by
 apply VR;unfold LK;obtain⟨a,c,e⟩:=H.isSl;have L:aD v=some (af (l.length:Int)):=by rw[e];rfl
 rw[L,ah];refine bO (α:=Unit) l.length 0 (λk _=>[af (k:Int)]) (λk _ h'=>h'=h∧∀x∈l.take k,x≠j) () rfl (bZ _) ⟨rfl,by simp⟩ λk _ h1 again ρ1 _ hk ⟨w,F⟩ G=>?_
 subst w;simp only[go_sem];refine aq (λh0=>?_) (λh0=>?_)
 ·have A:k<l.length:=ae;obtain⟨p,q1,U⟩:=H.int_at (k':=.i64) A;simp only[go_sem,q1,U];refine aq (λI=>?_) (λI=>?_)
  ·refine⟨?_,trivial⟩;rw[cH];rw[←I];exact cQ A
  ·rw[w64 ae ae];refine G () h1 A ⟨rfl,λx D=>?_⟩;rw[jE A]at D;rcases gP.1 D with D|D
   ·exact F x D
   ·rw[ia.1 D];exact I
 ·have:k=l.length:=ae;subst this;refine⟨?_,trivial⟩;rw[b9];intro W;rw[JF]at F;exact F j W rfl
structure rn (l:List Int)(F e:Int)(most:Nat):Prop where
 up:l.Pairwise (· < ·)
 inn:∀j,F≤j→j<e→j∈l
 lt:∀x∈l,x<e
 len:l.length≤most
theorem rn.start (F:Int)(most:Nat):rn [] F F most:=⟨List.Pairwise.nil,λj a b=>ae,by simp,by simp⟩
theorem rn.move {l:List Int}{F e A:Int}{most:Nat}(H:rn l F e most)(G:F≤A):rn l A (max e A) most:=
 ⟨H.up,λj a b=>H.inn j ae ae,λx D=>by have:=H.lt x D;omega,H.len⟩
theorem rn.nodup {l:List Int}(h:l.Pairwise (· < ·)):l.Nodup:=h.imp λa=>ae
theorem rn.push {l:List Int}{F e:Int}{most:Nat}(H:rn l F e most):(l++[e]).Pairwise (· < ·)∧(∀j,F≤j→j<e+1→j∈l++[e])∧(∀x∈l++[e],x<e+1):=by
 refine⟨?_,λj a b=>?_,λx G=>?_⟩
 ·rw[sF];exact⟨H.up,by simp,λa D b A=>by rw[ia.1 A];exact H.lt a D⟩
 ·by_cases I:j<e
  ·exact MX _ (H.inn j a I)
  ·rw[show j=e by omega];simp
 ·rcases gP.1 G with h|h
  ·have:=H.lt x h;omega
  ·rw[ia.1 h];omega
theorem rn.next {l:List Int}{F e E:Int}{most:Nat}(H:rn l F e most)(he:F≤e)(hE:e<E)(hm:E-F≤most):(l.length+1≤most∧rn (l++[e]) F (e+1) most)∨(∃x t,l++[e]=x::t∧most<l.length+1∧0<t.length∧rn t F (e+1) most):=by
 obtain⟨I,U,L⟩:=H.push;by_cases h1:l.length+1≤most
 ·exact .inl ⟨h1,I,U,L,by simpa using h1⟩
 ·cases l with
  |nil=>simp at h1;omega
  | cons x l=>
   have W:=H.len;refine .inr ⟨x,l++[e],rfl,ae,by simp,?_⟩;have hx:x<F:=by
    rcases oA x F with h|h
    ·exact h
    ·have D:∀z∈x::l,F≤z∧z<e:=λz A=>by
      refine⟨?_,H.lt z A⟩;rcases kC.1 A with rfl|A
      ·exact h
      ·have:=(Ul.1 H.up).1 z A;omega
     have:=nodup_range (rn.nodup H.up) D;omega
   have G:(x::(l++[e])).Pairwise (· < ·):=I;refine⟨(Ul.1 G).2,λj a b=>?_,λz A=>L z (xh _ A),by simp at W ⊢;omega⟩;have:=U j a b;rcases kC.1 (show j∈x::(l++[e])from this)with h|h
   ·omega
   ·exact h
theorem Yw {h:ai}{Z:Nat→Prop}{ds:List Value}{s:Stg}{m:Pic}{t:dc}(K:yP.R Z h ds s)(OK:DQ s)(hy:0≤t.y)(hh:1≤t.h)(ep:t.y+t.h≤s.y.lines.length):
  ag prog y6 #[.agg ds.toArray,af t.y,af t.h] h λr h'=>New w8 h h' r (ut ⟨m,s,t⟩ t.y (lnF s.y t.y)):=by
 apply Oy;unfold Cr;obtain⟨X,Y,rfl,HX,HY⟩:=K;have WS:=OK.wf;have ef:=WS.y.len;simp only[bF];refine aI λb1 h1 r1 e1 n1=>?_
 have k1:aE h1 ⟨b1,1,none⟩=some Y:=ao r1;obtain⟨aY,cY,eY⟩:=HY.isSl;have c2:aD Y=some (af (s.y.lines.length:Int)):=by rw[eY];rfl
 simp only[go_sem,aO,k1,c2]
 -- a line, read into a variable
 have rd:∀{I:ai} {i:Nat} (hi:i<s.y.lines.length),Ext h I→∀{Kp:Value→ai→Prop},(∀b h3 u,h3[b]? =some (.cells #[af (bK s.y i).1,u] 240 (0,0))→Ext I h3→I.size≤b→aD u=some (af ((bK s.y i).2.length:Int))→Kp (ptr b) h3)→
   vK (bh 2 Y (af (i:Int))) λc9=>vK (aM 2 I c9) λdl=>aT #[aj,(.slice none 0 0)] 240 I λb2 c6=>stK 2 b2 dl c6 λet dz=>Kp b2 dz:=by
  intro I i hi E Kp HK;obtain⟨p,cs,q1,q2,Rr⟩:=Rp.Sl.atw (e:=ns) (HY.ext E) (show 0<2 by omega) (k:=.i64) hi;rw[Wj hi]at Rr;obtain⟨u,rfl,Su⟩:=Rr;have q1:bh 2 Y (af (i:Int))=some p:=q1;have q2:aM 2 I p=some (.agg #[af (bK s.y i).1,u]):=q2;rw[q1,ah,q2,ah];obtain⟨au,cu,eu⟩:=Su.isSl;exact cX (cs:=[af (bK s.y i).1,u]) rfl (az rfl (az Su.one aU)) rfl λb h3 r3 e3 n3=>HK b h3 u r3 e3 n3 (by rw[eu];rfl)
 -- the most taps of a line
 have bk:∀k,k<s.y.lines.length→bT (s.y.lines.take (k+1))=max (bT (s.y.lines.take k)) ((bK s.y k).2.length:Int):=λk hk=>by
  rw[jE hk,Hh,Wj hk]
 have cz:=OK.most;have ct:=Ze s.y.lines;have ei:∀k,0≤bT (s.y.lines.take k)∧bT (s.y.lines.take k)≤bT s.y.lines:=λk=>⟨Ze _,Hf ct λx hx=>(JD s.y.lines 0).2 x (AT hx)⟩
 refine bO (α:=Unit) s.y.lines.length 0 (λk _=>[af (bT (s.y.lines.take k)),af (k:Int)]) (λk _ h'=>Ext h1 h') () rfl (bZ _) (Ext.refl _) λk _ I again ρ1 _ hk E2 am=>?_
 have ay:=e1.trans E2;simp only[go_sem];refine aq (λg1=>?_) (λg1=>?_)
 ·have aa:k<s.y.lines.length:=ae;refine rd aa ay λb3 h3 u r3 e3 n3 ar=>?_
  have c1:aE h3 ⟨b3,1,none⟩=some u:=ao r3;have b0:=bk k aa;simp only[go_sem,aO,c1,ar];refine aq (λg2=>?_) (λg2=>?_)
  ·try simp only[go_sem,aO,c1,ar]
   rw[w64 ae ae];have:=am () h3 aa (E2.trans e3);rw[b0,show max (bT (s.y.lines.take k)) ((bK s.y k).2.length:Int)=((bK s.y k).2.length:Int)by omega]at this;exact this
  ·rw[w64 ae ae];have:=am () h3 aa (E2.trans e3);rw[b0,show max (bT (s.y.lines.take k)) ((bK s.y k).2.length:Int)=bT (s.y.lines.take k)by omega]at this;exact this
 have cp:k=s.y.lines.length:=ae;subst cp;rw[JF]
 clear am
 obtain⟨most,cc⟩:∃n:Nat,bT s.y.lines=(n:Int):=⟨(bT s.y.lines).toNat,ae⟩
 rw[cc];obtain⟨d,hd⟩:∃d:fS,d=⟨m,s,t⟩:=⟨_,rfl⟩
 have a8:d.s=s:=by rw[hd]
 rw[←hd];obtain⟨H,hH⟩:∃H:Nat,t.h=(H:Int):=⟨t.h.toNat,ae⟩
 obtain⟨y0,bv⟩:∃y0:Nat,t.y=(y0:Int):=⟨t.y.toNat,ae⟩
 have dq:ut d t.y (lnF s.y t.y)=mO d H y0 (lnF s.y y0):=by
  unfold ut;have:d.t=t:=by rw[hd]
  rw[this,bv,show((y0:Int)+t.h-(y0:Int)).toNat=H by omega]
 rw[dq,hH,bv];have be:∀k y e,lnF s.y y≤e→(mO d k y e).length≤k*1048577:=λk y e he=>by
  rw[He];exact Kf (by rw[a8];exact WS.y) k y e (by rw[a8];exact he)
 have es:=be H y0 (lnF s.y y0) (gj _);have a9:=OK.mono
 -- line by line
 refine bO (α:=Value×Value×List (Int×Int)×List Int×Int) H 0 (λk a=>[a.1,a.2.1,af (k:Int)])
  (λk a h'=>New w8 h h' a.1 a.2.2.1∧OwO .i64 h' a.2.1 a.2.2.2.1∧(∀b,blk a.2.1 b→I.size≤b)∧(∀b,blk a.1 b→I.size≤b∧¬blk a.2.1 b)∧Ext I h'∧(k<H→rn a.2.2.2.1 (lnF s.y (y0+k:Nat)) a.2.2.2.2 most∧lnF s.y (y0+k:Nat)≤a.2.2.2.2∧a.2.2.2.2≤lnE s.y (y0+k:Nat))∧
   a.2.2.1++mO d (H-k) ((y0+k:Nat):Int) a.2.2.2.2=mO d H y0 (lnF s.y y0))
  (.slice none 0 0,.slice none 0 0,[],[],lnF s.y y0) rfl (bZ _)
  ⟨New.nil ay,OwO.nil,λb A=>A.elim,λb A=>A.elim,Ext.refl _,λ_=>⟨rn.start _ _,gj _,by unfold lnE lnF;show(bK s.y ((y0+0:Nat):Int)).1≤_;omega⟩,rfl⟩ λk a h3 again ρ2 _ hk ⟨N3,O3,b3,a3,E3,H3,M3⟩ am=>?_
 obtain⟨ov,U,out,held,e⟩:=a;have N3:New w8 h h3 ov out:=N3;have O3:OwO .i64 h3 U held:=O3;have b3:∀b,blk U b→I.size≤b:=b3;have a3:∀b,blk ov b→I.size≤b∧¬blk U b:=a3;have H3:k<H→rn held (lnF s.y (y0+k:Nat)) e most∧lnF s.y (y0+k:Nat)≤e∧e≤lnE s.y (y0+k:Nat):=H3;have M3:out++mO d (H-k) ((y0+k:Nat):Int) e=mO d H y0 (lnF s.y y0):=M3;simp only[go_sem];refine aq (λg1=>?_) (λg1=>?_)
 ·have aa:k<H:=ae;obtain⟨HL,eh,eg⟩:=H3 aa;have k1:aE h3 ⟨b1,1,none⟩=some Y:=ao (E3.row (E2.row r1));simp only[go_sem,aO,k1];rw[w64 (n:=(y0:Int)+(k:Int)) ae ae,show(y0:Int)+(k:Int)=((y0+k:Nat):Int)by omega];refine rd ae (ay.trans E3) λb4 h4 u r4 e4 n4 ar=>?_
  have c1:aE h4 ⟨b4,1,none⟩=some u:=ao r4;simp only[go_sem,aO,c1,ar];have hl:=sD WS.y ((y0+k:Nat):Int);have c8:=a9.m ((y0+k:Nat):Int);have bo:k+1<H→lnF s.y ((y0+k:Nat):Int)≤lnF s.y ((y0+(k+1):Nat):Int)∧lnE s.y ((y0+k:Nat):Int)≤lnE s.y ((y0+(k+1):Nat):Int):=λh=>⟨a9.f _ _ ae ae ae,a9.e _ _ ae ae ae⟩
  have ea:mO d (H-k) ((y0+k:Nat):Int) e=oQ e (lnE s.y ((y0+k:Nat):Int))++(2,((y0+k:Nat):Int))::mO d (H-(k+1)) ((y0+(k+1):Nat):Int) (max (lnE s.y ((y0+k:Nat):Int)) (lnF s.y ((y0+(k+1):Nat):Int))):=by
   rw[show H-k=(H-(k+1))+1 by omega];rw[mO,a8,show((y0+k:Nat):Int)+1=((y0+(k+1):Nat):Int)by omega]
  rw[ea]at M3;have ec:(mO d H y0 (lnF s.y y0)).length≤68719542272:=ae;generalize ej:((y0+k:Nat):Int)=W at*;have c3:lnE s.y W=lnF s.y W+((bK s.y W).2.length:Int):=rfl;have ee:(bK s.y W).1=lnF s.y W:=rfl;have em: -70368744177664≤lnF s.y W∧lnF s.y W≤70368744177664:=hl.2;obtain⟨L,hL⟩:∃L:Nat,(bK s.y W).2.length=L:=⟨_,rfl⟩
  rw[hL]at c3 ar c8 hl;rw[hL];have cw:h4[b4]? =some (.cells #[af (lnF s.y W),u] 240 (0,0)):=r4;generalize lnF s.y W=F at*
  -- the rows that the line lacks
  refine bO (α:=Value×Value×List Int×Int) L 0 (λi a=>[a.1,a.2.1,af (i:Int)])
   (λi a h'=>New w8 h h' a.1 (out++oQ e a.2.2.2)∧OwO .i64 h' a.2.1 a.2.2.1∧(∀b,blk a.2.1 b→I.size≤b∧b≠b4)∧(∀b,blk a.1 b→I.size≤b∧b≠b4∧¬blk a.2.1 b)∧Ext I h'∧h'[b4]? =some (.cells #[af F,u] 240 (0,0))∧b4<h'.size∧rn a.2.2.1 F a.2.2.2 most∧a.2.2.2=max e (F+i))
   (ov,U,held,e) rfl (bZ _)
   ⟨by show New w8 h h4 ov (out++oQ e e);rw[Oc (gj _),iC];exact N3.ext e4,pf.ext O3 e4,λb A=>⟨b3 b A,λhe=>by have:=pf.lt O3 A;omega⟩,λb A=>⟨(a3 b A).1,λhe=>by have:=N3.lt A;omega,(a3 b A).2⟩,E3.trans e4,cw,aW r4,HL,by show e=max e (F+((0:Nat):Int));omega⟩
   λi a h5 b6 ρ3 _ hi ⟨N5,O5,b5,a5,E5,r5,l5,H5,m5⟩ an=>?_
  obtain⟨bd,al,D,G⟩:=a;have N5:New w8 h h5 bd (out++oQ e G):=N5;have O5:OwO .i64 h5 al D:=O5;have b5:∀b,blk al b→I.size≤b∧b≠b4:=b5;have a5:∀b,blk bd b→I.size≤b∧b≠b4∧¬blk al b:=a5;have H5:rn D F G most:=H5;have m5:G=max e (F+i):=m5;have b8:(out++oQ e G).length+1≤68719542273:=by
   have:=congrArg List.length M3;rw[cF,cF,KM]at this;rw[cF,KM];omega
  simp only[go_sem];refine aq (λg2=>?_) (λg2=>?_)
  ·have bg:i<L:=ae;have c0:aE h5 ⟨b4,0,none⟩=some (af F):=ao r5;simp only[go_sem,aO,c0];rw[w64 (n:=F+(i:Int)) ae ae];refine ag.at (zev O5.sl (by have:=H5.len;omega)) ?_;refine aq (λg3=>?_) (λg3=>?_)
   ·have:=H5.lt _ g3;rw[w64 ae ae];refine an (bd,al,D,G) h5 bg ⟨N5,O5,b5,a5,E5,r5,l5,H5,?_⟩;show G=max e (F+((i+1:Nat):Int));omega
   ·have ca:G=F+i:=by
     rcases oA (F+(i:Int)) G with h|h
     ·exact absurd (H5.inn _ ae h) g3
     ·omega
    rw[←ca];rw[show aR #[aj,aj] [(0,1,aJ),(1,1,af G)]=some #[aJ,af G]from A5 rfl rfl,bH,ah];have ek:G<lnE s.y W:=ae;refine New.push2 (a:=1) (b:=G) N5 rfl rfl ae ae λad h6 N6 f6 n6=>?_
    have O6:OwO .i64 h6 al D:=pf.fr O5 f6 λb A U=>(a5 b U).2.2 A
    have r6:=f6.row r5 λU=>(a5 _ U).2.1 rfl
    have er:=f6.1;have v6:∀b,blk ad b→I.size≤b∧b≠b4∧¬blk al b:=λb A=>by
     rcases n6 b A with h|h
     ·exact a5 b h
     ·have hs:=E5.1;exact⟨ae,ae,λU=>by have:=pf.lt O5 U;omega⟩
    have E6:Ext I h6:=E5.then_fr f6 λb A=>(a5 b A).1
    refine OwO.push (x:=G) O6 rfl (by have:=H5.len;omega) (by have:=H5.len;omega) λax h7 O7 f7 n7=>?_
    have N7:New w8 h h7 ad (out++oQ e (G+1)):=by
     rw[XD ae,←cL];exact N6.fr f7 (λb A=>bA ay.1 (b5 b A).1) λb A U=>(v6 b A).2.2 U
    have r7:=f7.row r6 λU=>(b5 _ U).2 rfl
    have E7:Ext I h7:=E6.then_fr f7 λb A=>(b5 b A).1
    have l7:=aW r7;have b7:∀b,blk ax b→I.size≤b∧b≠b4:=λb A=>by
     rcases n7 b A with h|h
     ·exact b5 b h
     ·have hs:=E6.1;have:=aW r6;exact⟨ae,ae⟩
    have v7:∀b,blk ad b→I.size≤b∧b≠b4∧¬blk ax b:=λb A=>by
     refine⟨(v6 b A).1,(v6 b A).2.1,λU=>?_⟩;rcases n7 b U with h|h
     ·exact(v6 b A).2.2 h
     ·have:=N6.lt A;omega
    obtain⟨a7,c7,e7⟩:=O7.sl.isSl;have cr:aD ax=some (af ((D.length+1:Nat):Int)):=by rw[e7,cF];rfl
    simp only[go_sem,cr];rcases H5.next (E:=lnE s.y W) ae ae ae with⟨q1,q2⟩|⟨x,tl,q1,q2,q3,q4⟩
    ·rw[b9 ae];simp only[go_sem];rw[w64 ae ae];refine an (ad,ax,D++[G],G+1) h7 bg ⟨N7,O7,b7,v7,E7,r7,l7,q2,?_⟩;show G+1=max e (F+((i+1:Nat):Int));omega
    ·rw[cH ae];simp only[go_sem];rw[q1]at O7;obtain⟨c5,s8,O8,n8⟩:=O7.tail (k':=.i64) q3;rw[s8,ah,w64 ae ae];refine an (ad,c5,tl,G+1) h7 bg ⟨N7,O8,λb A=>b7 b (n8 b A),λb A=>⟨(v7 b A).1,(v7 b A).2.1,λU=>(v7 b A).2.2 (n8 b U)⟩,E7,r7,l7,q4,?_⟩;show G+1=max e (F+((i+1:Nat):Int));omega
  ·have cb:i=L:=ae;subst cb;have c4:G=lnE s.y W:=ae;rw[show aR #[aj,aj] [(0,1,(af 2)),(1,1,af W)]=some #[af 2,af W]from A5 rfl rfl,bH,ah];refine New.push2 (a:=2) (b:=W) N5 rfl rfl ae ae λad h6 N6 f6 n6=>?_
   try simp only[go_sem]
   rw[w64 ae ae];have E6:Ext I h6:=E5.then_fr f6 λb A=>(a5 b A).1
   refine am (ad,al,out++oQ e G++[(2,W)],D,max G (lnF s.y ((y0+(k+1):Nat):Int))) h6 aa ⟨N6,pf.fr O5 f6 λb A U=>(a5 b U).2.2 A,λb A=>(b5 b A).1,λb A=>?_,E6,λci=>?_,?_⟩
   ·rcases n6 b A with h|h
    ·exact⟨(a5 b h).1,(a5 b h).2.2⟩
    ·have hs:=E5.1;exact⟨ae,λU=>by have:=pf.lt O5 U;omega⟩
   ·obtain⟨g5,g6⟩:=bo ci;refine⟨H5.move g5,by show _≤max G _;omega,?_⟩;show max G _≤_;have:lnF s.y ((y0+(k+1):Nat):Int)≤lnE s.y ((y0+(k+1):Nat):Int):=by unfold lnE lnF;omega
    omega
   ·show(out++oQ e G++[(2,W)])++mO d (H-(k+1)) ((y0+(k+1):Nat):Int) (max G (lnF s.y ((y0+(k+1):Nat):Int)))=_;rw[c4];rw[←M3];simp
 ·have eb:k=H:=ae;subst eb;rw[T6]at M3;have M3:out++[]=mO d k y0 (lnF s.y y0):=M3;rw[iC]at M3;rw[←M3];exact N3
theorem Zc (a b c d:Int):ak (.st [(0,1,.i),(1,1,.i)]) .eql (Dq a b) (Dq c d)=some (.bool (decide (a=c∧b=d))):=by
 have D:(a==c)=decide (a=c):=rfl;have F:(b==d)=decide (b=d):=rfl;simp only[ak,eqV,IZ,NX,NY,yW,yX,EJ,yB,cV,D,F];by_cases h:a=c<;>by_cases A:b=d<;>simp[h,A]
theorem zdX (a b c d:Int):ak (.st [(0,1,.i),(1,1,.i)]) .neq (Dq a b) (Dq c d)=some (.bool (!decide (a=c∧b=d))):=by
 have D:(a==c)=decide (a=c):=rfl;have F:(b==d)=decide (b=d):=rfl;simp only[ak,eqV,IZ,NX,NY,yW,yX,EJ,yB,cV,D,F];by_cases h:a=c<;>by_cases A:b=d<;>simp[h,A]
structure BY (Z:Nat→Prop)(h:ai)(bf:Nat)(vf:Value)(bt:Nat)(vt p q:Value)(m n:Pic)(s:Stg):Prop where
 src:du h bf vf m
 out:du h bt vt n
 ne:bf≠bt
 tx:gd Z h p s.x
 ty:gd Z h q s.y
 zf:Z bf∧∀c,blk vf c→Z c
 zz:∀c,Z c→¬blk vt c
 zb:∀c,Z c→c≠bt
 zl:∀c,Z c→c<h.size
theorem BY.ext {Z:Nat→Prop}{h h':ai}{bf:Nat}{vf:Value}{bt:Nat}{vt p q:Value}{m n:Pic}{s:Stg}(S:BY Z h bf vf bt vt p q m n s)(e:Ext h h'):BY Z h' bf vf bt vt p q m n s:=
 ⟨S.src.ext e,S.out.ext e,S.ne,S.tx.ext e,S.ty.ext e,S.zf,S.zz,S.zb,λc hc=>ce (S.zl c hc) e.1⟩
theorem BY.chg {Z Q:Nat→Prop}{h h':ai}{bf:Nat}{vf:Value}{bt:Nat}{vt p q:Value}{m n n':Pic}{s:Stg}(S:BY Z h bf vf bt vt p q m n s)(f:Fr Q h h')(A:∀c,Z c→¬Q c)(I:du h' bt vt n'):BY Z h' bf vf bt vt p q m n' s:=
 ⟨S.src.fr f (A _ S.zf.1) λc hc=>A _ (S.zf.2 c hc),I,S.ne,S.tx.fr f λc _ D=>A c D,S.ty.fr f λc _ D=>A c D,S.zf,S.zz,S.zb,λc hc=>ce (S.zl c hc) f.1⟩
theorem BY.mk3 {h0 h1 A:ai}{bf:Nat}{vf:Value}{D p q:Value}{m n:Pic}{s:Stg}(I:du h1 bf vf m)(nb:h0.size≤bf)(nv:∀c,blk vf c→h0.size≤c)(tx:gd (gn h0 h1) h1 p s.x)(ty:gd (gn h0 h1) h1 q s.y)(N:uC h1 A D n):
  ∃bt vt,D=ptr bt∧BY (gn h0 h1) A bf vf bt vt p q m n s∧h1.size≤bt∧(∀c,blk vt c→h1.size≤c)∧Ext h1 A:=by
 obtain⟨bt,vt,rfl,O,F,mv,E⟩:=N;have l:=I.lt;exact⟨bt,vt,rfl,⟨I.ext E,O,ae,tx.ext E,ty.ext E,⟨⟨nb,l⟩,λc hc=>⟨nv c hc,I.ltv hc⟩⟩,λc hc G=>by have:=hc.2;have:=mv c G;omega,λc hc H=>by have:=hc.2;omega,λc hc=>ce hc.2 E.1⟩,F,mv,E⟩
theorem ZX {Z:Nat→Prop}{h:ai}(G:fC h){bf:Nat}{vf:Value}{bt:Nat}{vt p q:Value}{m n:Pic}{s:Stg}{t:dc}(S:BY Z h bf vf bt vt p q m n s)(W:m.Wf)(D:n.Wf)(A:s.Wf):
  ag prog qa #[ptr bf,ptr bt,.agg #[p,q,af s.border],.agg (dO t).toArray] h (YN Z h bf vf bt vt p q m n s t):=
 zfM G S.src S.out S.ne W D S.tx S.ty A S.zf S.zz S.zl
def kP:Pic:=vO 3 1 1 255
def pK:OpD:=⟨1,0,0,1,[],[],0,0,0⟩
def gi:dc:=⟨0,0,0,3,1,0,0,0,0,0⟩
theorem YC {h:ai}(G:fC h):ag prog zj #[] h λr h'=>r=.bool true∧Ext h h':=by
 apply OQ;unfold CJ;have a0:Dw 3 1 1 255=0:=by decide+kernel
 refine Ah.mono λr h1 ⟨pp,e,e1,_,s1⟩=>?_
 subst e;obtain⟨bm,vm,rfl,I,a8,be,_⟩:=s1 a0;have I:du h1 bm vm kP:=I;have W:kP.Wf:=EN a0;rw[a0];simp only[go_sem];have hf:(aR #[aj,aj,aj,aj,(.slice none 0 0),(.slice none 0 0),aj,aj,aj] [(0,1,aJ),(3,1,aJ)])=some #[aJ,aj,aj,aJ,.slice none 0 0,.slice none 0 0,aj,aj,aj]:=rfl;rw[hf,bH,ah];have wf:pK.Wf:=C7 (by simp[I64]);refine(Lr (Z:=λ_=>True) (o:=pK) (G.ext e1) C8 wf (by simp[pK]) (by simp[pK]) (by unfold I64;omega) (by unfold I64;omega)).mono λw h2 ⟨sv,e,e2,_,s2⟩=>?_
 subst e;have a1:fJ pK 3 1=0:=by decide+kernel
 have HS:=s2 a1;rw[a1];obtain⟨p,q,rfl,hp,hq,al⟩:=jQ HS;simp only[go_sem];refine cX (cs:=[p,q,af _]) rfl al rfl λb3 h3 r3 e3 n3=>?_
 refine Ah.mono λr h4 ⟨pp,e,e4,_,s4⟩=>?_
 subst e;have N4:=s4 a0;rw[a0];have ad:=e2.trans e3;have up:∀c,c<h2.size→gn h1 h2 c→gn h h3 c:=λc hc hz=>⟨bA e1.1 hz.1,ce hz.2 e3.1⟩
 obtain⟨bn,vn,rfl,S,b0,ax,_⟩:=BY.mk3 (h0:=h) (I.ext ad) a8 be ((hp.mono up).ext e3) ((hq.mono up).ext e3) N4;simp only[go_sem];have E4:=e1.trans (ad.trans e4);refine ag.to (YE (G.ext E4)) λh5 e5=>?_
 simp only[go_sem];refine ag.to (YD (G.ext (E4.trans e5))) λh6 e6=>?_
 have E6:=E4.trans (e5.trans e6);simp only[go_sem,eqT];rw[aL (l:=[p,q,af _]) ((e4.trans (e5.trans e6)).row r3) 3 rfl,ah];have bg:aR #[aj,aj,aj,aj] [(2,1,(af 3)),(3,1,aJ)]=some #[aj,aj,af 3,aJ]:=rfl;have au:aR #[aj,aj,aj,aj,aj,aj,aj,aj,aj,aj] [(1,4,.agg #[aj,aj,af 3,aJ])]=some (dO gi).toArray:=rfl;rw[bg,bH,ah,au,bH,ah];have hN:(vO 3 1 1 255).Wf:=EN a0;have H:pg kP (vO 3 1 1 255) (cB pK 3 1) gi=0:=by decide+kernel
 refine(ZX (G.ext E6) (S.ext (e5.trans e6)) W hN (Ac a1).1).mono λr h7 ⟨e7,v,U,_,s7⟩=>?_
 subst U;obtain⟨bj,rv,rfl,J⟩:=s7 H;rw[H];simp only[go_sem,eqT,XP];have OK:DQ (cB pK 3 1):=Pm a1 ae (by decide+kernel);have R:=OK.room (m:=kP) (n:=vO 3 1 1 255) (t:=gi) W H;have WJ:=PA (t:=gi) W OK.wf H
 -- the steps, one behind the other
 have f1:bP ⟨kP,cB pK 3 1,gi⟩ 0 (-1)=1∧eT ⟨kP,cB pK 3 1,gi⟩ 0 (-1)= -1∧eJ ⟨kP,cB pK 3 1,gi⟩ 0 (-1)=0∧fV ⟨kP,cB pK 3 1,gi⟩ 0 (-1)=0:=by decide+kernel
 have f2:bP ⟨kP,cB pK 3 1,gi⟩ 0 0=1∧eT ⟨kP,cB pK 3 1,gi⟩ 0 0=0∧eJ ⟨kP,cB pK 3 1,gi⟩ 0 0=0∧fV ⟨kP,cB pK 3 1,gi⟩ 0 0=1:=by decide+kernel
 have f3:bP ⟨kP,cB pK 3 1,gi⟩ 0 1=1∧eT ⟨kP,cB pK 3 1,gi⟩ 0 1=1∧eJ ⟨kP,cB pK 3 1,gi⟩ 0 1=0∧fV ⟨kP,cB pK 3 1,gi⟩ 0 1=2:=by decide+kernel
 have f4:bP ⟨kP,cB pK 3 1,gi⟩ 0 2=2∧eT ⟨kP,cB pK 3 1,gi⟩ 0 2=0∧eJ ⟨kP,cB pK 3 1,gi⟩ 0 2=1:=by decide+kernel
 have f5:∀e,bP ⟨kP,cB pK 3 1,gi⟩ 1 e=0∧eT ⟨kP,cB pK 3 1,gi⟩ 1 e=0:=λe=>by
  have:gi.y+gi.h≤1:=by decide
  unfold bP eT;exact⟨aB this,aB this⟩
 have hF:lnF (cB pK 3 1).y gi.y= -1:=by decide+kernel
 rw[hF]at J;have J:lJ (gn h h3) (rV (λ_=>False) h6 h7) h7 bj bm vm bn vn p q rv ⟨kP,cB pK 3 1,gi⟩ 0 (-1) (vO 3 1 1 255) (kn (bT (cB pK 3 1).y.lines)) (gH (gi.w*kP.c)):=J;generalize hD:(⟨kP,cB pK 3 1,gi⟩:fS)=D at*;generalize kn (bT (cB pK 3 1).y.lines)=room at*;generalize gH (gi.w*kP.c)=w at*;have hB:∀c,rV (λ_=>False) h6 h7 c→h.size≤c:=λc hc=>by
  rcases hc with hc|hc
  ·exact hc.elim
  ·have:=E6.1;omega
 have ay:∀c,blk vn c→h.size≤c:=λc hc=>by have:=ax c hc;have:=e1.1;have:=ad.1;omega
 -- from step to step all that was is as it was
 have L:∀{h' F:ai} {B:Nat→Prop},Ext h h'→(∀c,B c→h.size≤c)→Fr (λc=>blk vn c∨B c) h' F→Ext h F:=λE hB f=>E.then_fr f λc hc=>by
  rcases hc with hc|hc
  ·exact ay c hc
  ·exact hB c hc
 have ar:∀{h' F:ai} {B:Nat→Prop},Ext h h'→(∀c,B c→h.size≤c)→∀c,rV B h' F c→h.size≤c:=λE hB c hc=>by
  rcases hc with hc|hc
  ·exact hB c hc
  ·have:=E.1;omega
 have a9:∀a b:Int,aR #[aj,aj] [(0,1,(af a)),(1,1,af b)]=some #[af a,af b]:=λ_ _=>rfl
 have an:∀a:Int,aR #[aj,aj] [(0,1,(af a))]=some #[af a,aj]:=λ_=>rfl
 have E7:=E6.trans e7;refine dy (λk xs h'=>∃e B n',xs=[af e]∧(k:Int)=2-e∧ -1≤e∧Ext h h'∧(∀c,B c→h.size≤c)∧lJ (gn h h3) B h' bj bm vm bn vn p q rv D 0 e n' room w) 3
  ⟨-1,_,_,rfl,ae,ae,E7,hB,J⟩ λk xs ρ1 h8 again ⟨e,B,n',ex,hk,he,E8,A,J8⟩ a7=>?_
 subst ex;simp only[go_sem];refine aq (λg1=>?_) (λg1=>?_)
 ·refine(UX J8 WJ R).mono λr h9 ⟨U,n9,J9,aa,_⟩=>?_
  subst U;have hs:bP D 0 e=1∧eT D 0 e=e∧eJ D 0 e=0∧fV D 0 e=e+1:=by
   have:e= -1∨e=0∨e=1:=ae;rcases this with rfl|rfl|rfl
   ·exact f1
   ·exact f2
   ·exact f3
  rw[hs.1,hs.2.1]at*;rw[hs.2.2.1,hs.2.2.2]at J9;rw[a9,bH,ah,zdX];simp only[go_sem,eqT,AH];rw[w64 ae ae];exact a7 _ _ (k-1) ae ⟨e+1,_,n9,rfl,ae,ae,L E8 A aa,ar E8 A,J9⟩
 ·have bk:e=2:=ae;subst bk;refine(UX J8 WJ R).mono λr h9 ⟨U,n9,J9,aa,_⟩=>?_
  subst U;rw[f4.2.2]at J9;rw[f4.1,f4.2.1,an,bH,ah,Zc];simp only[go_sem,eqT,AH];refine(UX J9 WJ R).mono λr bo ⟨U,n10,bv,am,_⟩=>?_
  subst U;rw[(f5 _).1,(f5 _).2];have bd:aR #[aj,aj] []=some #[aj,aj]:=rfl;simp only[go_sem,bd,bH,Zc,eqT,AH];exact⟨by simp,L (L E8 A aa) (ar E8 A) am⟩
end Go.Proofs.YtjljhnandbbldaaGreatDoor
namespace Go.Proofs.YtjljhnandbbldaaGreatDoor
open Go Go.Crisp
attribute [local irreducible] ag cO aT stK aG vK qK bL gK eM bC mkK cR HA JA Ep bsK clK vu pP Zb
section
def B8 (n:Int):Prop:=0≤n∧n≤255
def bgS (a:uj)(o:OpD):Stg:=cB o (fh a).w (fh a).h
def bgN (a:uj)(o:OpD):Pic:=vO (bgS a o).x.lines.length (bgS a o).y.lines.length (fh a).c (fh a).most
structure MQ (a:uj)(o:OpD):Prop where
 little:¬nH 12 o
 made:fJ o (fh a).w (fh a).h=0
 fit:gR (bgS a o).x.lines.length (bgS a o).y.lines.length (fh a).c
 sx:1≤(bgS a o).x.lines.length∧(bgS a o).x.lines.length≤12
 sy:1≤(bgS a o).y.lines.length∧(bgS a o).y.lines.length≤12
theorem bg_ok {a:uj}{o:OpD}(L:oR 12 [o])(hc:BZ [o] (fh a).w (fh a).h (fh a).c=0):MQ a o:=by
 have h1:¬nH 12 o:=L o (by simp);have U:=DE a;unfold BZ at hc;rw[aA (by simp)]at hc;have I:gR (fh a).w (fh a).h (fh a).c:=(xr a).fits;rw[aA (by simpa using I)]at hc;unfold Ia at hc;by_cases F:fJ o (fh a).w (fh a).h=0
 ·rw [aA (by simpa using F)]at hc;have A:=La F;by_cases D:gR (qR o (fh a).w) (uM o (fh a).h) (fh a).c
  ·have H:=dB D;have⟨W,b2⟩:qR o (fh a).w≤12∧uM o (fh a).h≤12:=by
    unfold qR uM at H ⊢;unfold nH at h1;split<;>rename_i G
    ·rw[aB G,aB G]at H;omega
    ·omega
   refine⟨h1,F,?_,?_,?_⟩
   ·unfold bgS;rw[A.1,A.2];exact D
   ·unfold bgS;omega
   ·unfold bgS;omega
  ·rw[aB D]at hc;cases hc
 ·rw[aB F]at hc;exact absurd hc F
section
variable {a:uj}{o:OpD}
theorem MQ.stg (H:MQ a o):DQ (bgS a o):=Pm H.made (by have:=DE a;omega) (by have:=(La H.made).1;have:=H.sx;unfold bgS at this;omega)
theorem MQ.suits (H:MQ a o):mz (fh a) (bgN a o) (bgS a o):=⟨L4 H.made,rfl,rfl,rfl,rfl⟩
theorem MQ.imgc (H:MQ a o):Dw (bgS a o).x.lines.length (bgS a o).y.lines.length (fh a).c (fh a).most=0:=Ag.2 ⟨H.fit,(xr a).m1,(xr a).m2⟩
end
end
section
structure zge (h:ai)(cs os:List Value)(a:uj)(o:OpD):Prop where
 pic:∃Z,pG.R Z h cs a
 wa:a.Wf
 op:∃Z,rOp.R Z h os o
 wo:Gz [o]
theorem Wb {ls:List (Int×List Int)}{x:Int×List Int}(A:x∈ls)(h1:1≤x.2.length):1≤bT ls:=by
 have:=(JD ls 0).2 x A;unfold bT;omega
theorem Wg {o:OpD}{w h:Int}(hc:fJ o w h=0)(hy:1≤(cB o w h).y.lines.length):1≤bT (cB o w h).y.lines:=by
 have A:jf o w h=0:=by
  unfold fJ at hc;split at hc
  ·cases hc
  ·exact hc
 have hy:1≤(fQ o h).lines.length:=hy;show 1≤bT (fQ o h).lines;unfold jf at A;by_cases I:o.kind=3
 ·rw[aB I]at A;have e:fQ o h=fX o.filter h o.hh:=by unfold fQ;rw[aB I]
  by_cases h1:dK o.filter w o.w=0
  ·rw[aA (by simpa using h1)]at A;have F:¬(¬(0≤o.filter∧o.filter<3)∨¬bE h∨¬bE o.hh):=λhh=>by unfold dK at A;rw[aB hh]at A;cases A
   have L:=A;unfold dK at L;rw[aA F]at L;have G:0≤o.filter∧o.filter<3:=cA λh=>F (.inl h)
   have U:bE h:=cA λh=>F (.inr (.inl h))
   have W:bE o.hh:=cA λh=>F (.inr (.inr h))
   unfold bE at U W;have h2:=sN L 0 ae;have H:xb o.filter h o.hh (0:Nat):=⟨G.1,G.2,U.1,U.2,W.1,W.2,ae,ae⟩
   have D:(fI o.filter h o.hh (0:Nat),cC (dp o.filter h o.hh (0:Nat)))∈(fX o.filter h o.hh).lines:=gQ.2 ⟨0,uA.2 ae,rfl⟩;rw[e];refine Wb D ?_;show 1≤(cC (dp o.filter h o.hh (0:Nat))).length;rw[xx h2];unfold dp;rw[aB H];unfold EZ;rw[da,fF];have:=NG H;omega
  ·rw[aB h1]at A;exact absurd A h1
 ·rw[aA I]at A;have e:fQ o h=kG (cW o) h:=by unfold fQ;rw[aA I]
  have G:jm (cW o) h=0:=by
   split at A
   ·exact absurd A (by assumption)
   ·split at A
    ·exact absurd A (by assumption)
    ·exact A
  unfold jm at G;split at G
  ·cases G
  ·split at G
   ·cases G
   ·rename_i h1 h2;have h3:bE h:=cA h1;unfold bE at h3;have D:(((0:Nat):Int)-((cW o).length/2:Nat),cC (cW o))∈(kG (cW o) h).lines:=gQ.2 ⟨0,uA.2 ae,rfl⟩;rw[e];refine Wb D ?_;show 1≤(cC (cW o)).length;rw[xx G];omega
theorem MQ.most1 {a:uj}{o:OpD}(H:MQ a o):1≤bT (bgS a o).y.lines:=Wg H.made H.sy.1
structure zam (hL:ai)(B0 Q:Nat→Prop)(Z:Nat→Prop)(h:ai)(bj bf:Nat)(vf:Value)(bt:Nat)(vt p q rv:Value)(d:fS)(y e:Int)(n:Pic)(room w:Nat):Prop where
 st:∃B,lJ Z B h bj bf vf bt vt p q rv d y e n room w∧∀c,c<hL.size→B c→B0 c
 fr:Fr (λc=>(blk vt c∨B0 c)∨Q c) hL h
def GoFr (vt:Value)(B Q:Nat→Prop)(h h':ai):Prop:=Fr (λc=>(blk vt c∨B c)∨Q c) h h'
theorem GoFr.row {vt:Value}{B Q:Nat→Prop}{h h':ai}(e:GoFr vt B Q h h'){b:Nat}{o:Obj}(r:h[b]? =some o)(A:¬((blk vt b∨B b)∨Q b)):h'[b]? =some o:=Go.Crisp.Fr.row e r A
section
variable {hL:ai}{B0 Q:Nat→Prop}{Z:Nat→Prop}{h:ai}{bj bf:Nat}{vf:Value}{bt:Nat}{vt p q rv:Value}{d:fS}{y e:Int}{n:Pic}{room w:Nat}
theorem zam.row {b:Nat}{ob:Obj}(J:zam hL B0 Q Z h bj bf vf bt vt p q rv d y e n room w)(r:hL[b]? =some ob)(F:¬blk vt b)(A:¬B0 b)(D:¬Q b):h[b]? =some ob:=J.fr.row r λhh=>hh.elim (λhh=>hh.elim F A) D
theorem zam.out (J:zam hL B0 Q Z h bj bf vf bt vt p q rv d y e n room w):KC d n∧du h bt vt n∧du h bf vf d.m:=by
 obtain⟨⟨B,S,A⟩,f⟩:=J;exact⟨S.out,S.img,S.src⟩
end
theorem YN.go {Z:Nat→Prop}{h:ai}{bf:Nat}{vf:Value}{bt:Nat}{vt p q:Value}{m n:Pic}{s:Stg}{t:dc}{r:Value}{h':ai}(H:YN Z h bf vf bt vt p q m n s t r h')(hc:pg m n s t=0):
  ∃bj rv,r=.tuple #[ptr bj,aj]∧Ext h h'∧lJ Z (rV (λ_=>False) h h') h' bj bf vf bt vt p q rv ⟨m,s,t⟩ t.y (lnF s.y t.y) n (kn (bT s.y.lines)) (gH (t.w*m.c)):=by
 obtain⟨e,v,A,_,H⟩:=H;obtain⟨bj,rv,rfl,J⟩:=H hc;exact⟨bj,rv,by rw[A,hc],e,J⟩
end
end Go.Proofs.YtjljhnandbbldaaGreatDoor
namespace Go.Proofs.YtjljhnandbbldaaGreatDoor
open Go Go.Crisp
theorem zbD {h:ai}{ts:List TS}{args:Array Value}(R:xJ (.st zat:: .st tOp::ts) h args.toList):∃cs os a o r,args.toList=.agg (List.toArray cs):: .agg (List.toArray os)::r∧zge h cs os a o∧xJ ts h r:=by
 obtain⟨v,r,G,⟨x,c,rfl,F⟩,u,I,D,⟨y,d,rfl,A⟩,h0⟩:=R;have F:Rd zat h c.toList x:=F;have A:Rd tOp h d.toList y:=A;obtain⟨h1,H⟩:=zfj F;refine⟨c.toList,d.toList,Y9 x,VL y,I,by rw[G,D,EH,EH],⟨⟨_,h1⟩,H,⟨_,(ze0 A).1⟩,zdS A⟩,h0⟩
theorem YU {h:ai}{ts:List TS}{l:List Value}(R:xJ (.int .u8::ts) h l):∃n r,l=.int .u8 n::r∧B8 n∧xJ ts h r:=by
 obtain⟨v,r,F,⟨x,D,A⟩,h0⟩:=R;obtain rfl:v=.int .u8 x:=by simpa using D
 exact⟨x,r,F,zeZ A,h0⟩
end Go.Proofs.YtjljhnandbbldaaGreatDoor
namespace Go.Proofs.YtjljhnandbbldaaGreatDoor
open Go Go.Crisp
open _root_.Go.Proofs.Tryz
def Oh:Go.Shelf.Ren:=⟨λn=>match n with|23=>177|n=>n,λn=>match n with|0=>0|3=>3|4=>4|22=>41|n=>n,λn=>n⟩
theorem X6:Go.Proofs.Lays2.n23 prog Oh where
 mixed:=by kernel_rfl
 f23:=by kernel_rfl
 t0:=by kernel_rfl
 a0:=λw=>cG (by kernel_rfl)
 z0:=λw=>bJ (by kernel_rfl)
 v0:=λw=>bD (by kernel_rfl)
 t3:=by kernel_rfl
 a3:=λw=>cG (by kernel_rfl)
 z3:=λw=>bJ (by kernel_rfl)
 v3:=λw=>bD (by kernel_rfl)
 t4:=by kernel_rfl
 a4:=λw=>cG (by kernel_rfl)
 z4:=λw=>bJ (by kernel_rfl)
 v4:=λw=>bD (by kernel_rfl)
 t22:=by kernel_rfl
 a22:=λw=>cG (by kernel_rfl)
 z22:=λw=>bJ (by kernel_rfl)
 v22:=λw=>bD (by kernel_rfl)
 i3:=by kernel_rfl
end Go.Proofs.YtjljhnandbbldaaGreatDoor
namespace Go.Proofs.YtjljhnandbbldaaGreatDoor
open Go Go.Crisp
attribute [local irreducible] ag cO aT stK aG vK qK bL gK eM bC mkK cR HA JA Ep bsK clK vu pP Zb
structure fj (n n':Pic):Prop where
 w:n'.w=n.w
 h:n'.h=n.h
 c:n'.c=n.c
 m:n'.most=n.most
theorem fj.refl (n:Pic):fj n n:=⟨rfl,rfl,rfl,rfl⟩
theorem fj.newC {m n n':Pic}{s:Stg}{t:dc}(D:fj n n')(h:pg m n s t=0):pg m n' s t=0:=by
 obtain⟨h1,A⟩:=rC.1 h;exact rC.2 ⟨⟨h1.1,by rw[D.w];exact h1.2.1,by rw[D.h];exact h1.2.2.1,by rw[D.c];exact h1.2.2.2.1,by rw[D.m];exact h1.2.2.2.2⟩,A⟩
theorem fj.inP {n n':Pic}(D:fj n n'){x y c:Int}:Go.Proofs.YtjljhnandbbldaaGreatDoor.inP n' x y c↔Go.Proofs.YtjljhnandbbldaaGreatDoor.inP n x y c:=by
 unfold Go.Proofs.YtjljhnandbbldaaGreatDoor.inP;rw[D.w,D.h,D.c]
theorem zb7 {n n':Pic}(W:n.Wf)(l2:(n'.l.length:Int)=n'.w*n'.h*n'.c)(D:fj n n')(H:∀x y c,inP n x y c→atP n x y c=atP n' x y c):n.l=n'.l:=by
 have hf:=dB W.fits;have l1:=W.len;rw[D.w,D.h,D.c]at l2;refine TY ae λi h1 h2=>?_
 have L:0<n.c:=ae;have I:0<n.w:=ae;have e1:=xd (i:Int) n.c;have e2:=xd ((i:Int)/n.c) n.w;have m1:=kD (i:Int) (show n.c≠0 by omega);have m2:=iP (i:Int) L;have m3:=kD ((i:Int)/n.c) (show n.w≠0 by omega);have U:=iP ((i:Int)/n.c) I;have q0:0≤(i:Int)/n.c:=AI ae ae;have q1:0≤(i:Int)/n.c/n.w:=AI q0 ae;have q2:(i:Int)/n.c<n.w*n.h:=by
  rw[yv L];omega
 have q3:(i:Int)/n.c/n.w<n.h:=by
  rw[yv I,gv];exact q2
 have A:inP n ((i:Int)/n.c%n.w) ((i:Int)/n.c/n.w) ((i:Int)%n.c):=⟨m3,U,q1,q3,m1,m2⟩
 have F:qM n ((i:Int)/n.c%n.w) ((i:Int)/n.c/n.w) ((i:Int)%n.c)=(i:Int):=by
  unfold qM;rw[gv ((i:Int)/n.c/n.w),e2,gv ((i:Int)/n.c),e1]
 have G:qM n' ((i:Int)/n.c%n.w) ((i:Int)/n.c/n.w) ((i:Int)%n.c)=(i:Int):=by
  unfold qM at F ⊢;rw[D.w,D.c];exact F
 have:=H _ _ _ A;unfold atP at this;rw[aB A,aB (D.inP.2 A),F,G,dJ]at this;simpa[dr,h1,h2]using this
end Go.Proofs.YtjljhnandbbldaaGreatDoor
