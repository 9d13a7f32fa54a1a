/- Several texts of this session, one behind the other, without what this claim does not need (put together by its program pack.py). Conditions: none. -/
import Derived.Test.YtjljhnandbbldaaGreatDoorMw4
set_option linter.unusedVariables false
set_option linter.unusedSimpArgs false
set_option maxRecDepth 100000
namespace Go.Proofs.YtjljhnandbbldaaGreatDoor
open Go Go.Crisp
attribute [local irreducible] ag cO aT stK aG vK qK bL gK eM bC mkK cR HA JA Ep bsK clK vu pP Zb
open _root_.Go.Proofs.Tryz
section
theorem zbO {C:C21}{E:Option WE}{w:WD}{d:QD}(A:w.state=0∨w.state=1∨w.state=2)(h:tg w d→0≤bi d∧bi d<bN C.d):cD E (joP C (bi d)) w d=cD E (C.jo (bi d)) w d:=by
 unfold cD;split
 ·rfl
 split
 ·rfl
 split
 ·rename_i a b c;have:=h ⟨ae,c⟩;unfold joP;rw[aB this]
 ·rfl
theorem Vl (E:Option WE)(jo:Option (dc×Int×Int))(w:WD)(d:QD):(cD E jo w d).2.1.closed=d.closed:=by
 unfold cD;split
 ·split<;>rfl
 split
 ·rfl
 split
 ·rfl
 split<;>rfl
section
variable {Z:Nat→Prop}{C:C21}{K N:Nat}{P:bS}{V:DV}{h:ai}
theorem zbc (O:C.Ok)(H:DAt Z C K N P V h)(zl:∀c,Z c→c<h.size)(hN:(N:Int)=bN C.d){k:Nat}(hk:k<K)(hK:K≤100000)(W:QA C P.sent (P.ws k) (P.words k))(he:∀t y e,(P.ws k).job=some (t,y,e)→e≤lnE C.d.s.y y)(ht:(P.ws k).tiles.length≤1000000)(hx:tg (P.ws k) P.q→0≤bi P.q∧bi P.q<bN C.d)
  (hr:(P.rows (k+1)).length=K+1) (SS:∀s∈P.stamps,s.length=K+1∧∀x∈s,0≤x) (SF:(evP C P k).1=3→P.fin.length=K+1∧∀x∈P.fin,0≤x) (i5:P.left.length≤1000000) (ek:kY C.m C.d.s) (mw:gR C.m.w C.m.h C.m.c) (nw:gR C.d.X C.d.Y C.m.c) (ha:P.acc.length≤999999)
  (fv:(evP C P k).1≠1→(evP C P k).1≠3→(evP C P k).1=2∧(0≤(evP C P k).2.1∧(evP C P k).2.1<bN C.d)∧I64 (evP C P k).2.2.2∧((evP C P k).2.2.1≠1→0≤(evP C P k).2.2.2∧(evP C P k).2.2.2<C.d.Y)∧bT C.d.s.y.lines*(aS C.d (evP C P k).2.1).w*C.m.c=(dk C P k).words k∧0≤bT C.d.s.y.lines*(aS C.d (evP C P k).2.1).w∧bT C.d.s.y.lines*(aS C.d (evP C P k).2.1).w≤100000000000∧1≤(dk C P k).words k∧(dk C P k).words k≤100000000000)
  (fi:(evP C P k).1=1→0≤(evP C P k).2.1∧(evP C P k).2.1<P.stamps.length):
  ag prog vU #[.agg (dpC C P V).toArray,af ((k:Int)+1)] h (DTo Z C K N h (iH C K P k)):=by
 apply QR;unfold Fy;rw[bF];refine aI λF g1 r1 e1 n1=>aI λb3 g3 r3 e3 n3=>?_
 have k1:=aW r1;have k3:=aW r3;have s1:=e1.1;have s3:=e3.1;have r1:=e3.row r1;have E3:=e1.trans e3;have H3:=H.ext E3;have hz:∀c,Z c→c<g3.size:=λc hc=>by have:=zl c hc;omega
 obtain⟨pt,cs,q1,q2,hv⟩:=H3.w.atw (show 0<3 by omega) (k:=.i64) (i:=k) (by simp;omega);have q1:bh 3 V.wv (af (k:Int))=some pt:=q1;have q2:aM 3 g3 pt=some (.agg cs.toArray):=q2;have ev:((List.range K).map λi=>vOf C.E (P.ws i))[k]'(by simp;omega)=vOf C.E (P.ws k):=by simp
 rw[ev]at hv;have HQ:rQ.R Z g3 [af P.q.room,V.ql,.bool P.q.closed] P.q:=⟨V.ql,rfl,H3.q.1,H3.q.2⟩
 have hj:=zau hN W.st he (d:=P.q);have h1:(vOf C.E (P.ws k)).state=1→(vOf C.E (P.ws k)).tiles≠[]∧(vOf C.E (P.ws k)).left≠[]:=λh=>by
  have h:(P.ws k).state=1:=h;rcases W.st with⟨_,h2,h3⟩|⟨h2,_⟩
  ·exact⟨h3,zaR h2⟩
  ·omega
 refine bB (λxs g=>∃x y z b0 cc,xs=[ptr x,ptr y,ptr z]∧jd Z g3 (jI (fR C N) (vOf C.E (P.ws k)) P.q).1 (jI (fR C N) (vOf C.E (P.ws k)) P.q).2.1 (some (b0,cc)) (some (x,some b0)) (some (y,some cc)) (some (z,some [af (jI (fR C N) (vOf C.E (P.ws k)) P.q).2.2.1,af (jI (fR C N) (vOf C.E (P.ws k)) P.q).2.2.2.1,af (jI (fR C N) (vOf C.E (P.ws k)) P.q).2.2.2.2.1,af (jI (fR C N) (vOf C.E (P.ws k)) P.q).2.2.2.2.2])) g) ?_ ?_
 ·refine aQ (Ext g3) (Ext.refl _) ?_;have f12:aC 12 (ptr F)=some (.pointer (some ⟨F,12,none⟩)):=rfl;have f8:aC 8 (ptr F)=some (.pointer (some ⟨F,8,none⟩)):=rfl;have f7:aC 7 (ptr F)=some (.pointer (some ⟨F,7,none⟩)):=rfl;have sb:ak .i .sub (af ((k:Int)+1)) aJ=some (af (k:Int)):=by
   show some (af (IntKind.i64.wrap ((k:Int)+1-1)))=_;rw[w64 ae ae,show(k:Int)+1-1=(k:Int)by omega]
  rw[f12,ah];refine aF V.wv (λg' e=>by rw[dn];exact ao (e.row r1)) ?_;rw[sb,ah,q1,ah];refine aF (.agg cs.toArray) (λg' e=>e.lds q2) ?_;rw[f8,ah];refine aF (.agg [af P.q.room,V.ql,.bool P.q.closed].toArray) (λg' e=>Du (e.row r1) 8 3 _ rfl rfl) ?_;rw[f7,ah];refine aF V.mv (λg' e=>by rw[dn];exact ao (e.row r1)) ?_;have M0:=jd.start Z g3 (jI (fR C N) (vOf C.E (P.ws k)) P.q).1 (jI (fR C N) (vOf C.E (P.ws k)) P.q).2.1;have x0:∀a b c:Value,aP (.tuple #[a,b,c]) 0=some a:=λ_ _ _=>rfl
  have x1:∀a b c:Value,aP (.tuple #[a,b,c]) 1=some b:=λ_ _ _=>rfl
  have x2:∀a b c:Value,aP (.tuple #[a,b,c]) 2=some c:=λ_ _ _=>rfl
  repeat' first
   |exact⟨_,_,_,_,_,rfl, ‹jd _ _ _ _ _ _ _ _ _›⟩
   |exact jd.ext ‹jd _ _ _ _ _ _ _ _ _›
   |refine And.intro ?_ ?_
   |refine jd.call ‹jd _ _ _ _ none _ _ _ _› hv HQ H3.m hz h1 ht λb0 cc g' S=>?_
   |refine jd.new_a ‹jd _ _ _ _ _ none _ _ _› λx g' S=>?_
   |refine jd.new_b ‹jd _ _ _ _ _ _ none _ _› λx g' S=>?_
   |refine jd.new_c ‹jd _ _ _ _ _ _ _ none _› λx g' S=>?_
   |refine jd.st_a ‹jd _ _ _ _ _ _ _ _ _› λg' S=>?_
   |refine jd.st_b ‹jd _ _ _ _ _ _ _ _ _› λg' S=>?_
   |refine jd.st_c ‹jd _ _ _ _ _ _ _ _ _› λg' S=>?_
   |simp only[x0,x1,x2,ah]
 rintro xs ρ g4 ⟨x,y,z,b0,cc,rfl,S⟩;have ih:(P.ws k).state=0∨(P.ws k).state=1∨(P.ws k).state=2:=by
  rcases W.st with h|h
  ·exact .inr (.inl h.1)
  ·exact h.1.elim .inl λh=>.inr (.inr h)
 rw[hj,zbO ih hx]at S;obtain⟨e4,res,vx,vy,vz,xy,xz,yz⟩:=S;obtain⟨Zr,rx,ry,hl⟩:=res _ rfl;obtain⟨nx,vx⟩:=vx _ rfl;obtain⟨ny,vy⟩:=vy _ rfl;obtain⟨nz,vz⟩:=vz _ rfl;have vx:g4[x]? =some (.cells b0.toArray 69 (0,0)):=vx;have vy:g4[y]? =some (.cells cc.toArray 43 (0,0)):=vy;have s4:=e4.1;simp only[iq,vN,zck];have fq:=e4.row r1
 -- the row of workers, with another one
 let Zw:Nat→Prop:=λc=>Z c∨Zr c
 have zw:∀c,Zw c→(Z c∨h.size≤c)∧c<g4.size∧c≠F∧c≠b3:=λc hc=>by
  rcases hc with hc|hc
  ·have:=zl c hc;exact⟨.inl hc,ae,ae,ae⟩
  ·obtain⟨w1,w2,_⟩:=hl c hc;rcases w1 with w1|w1
   ·have:=zl c w1;exact⟨.inl w1,w2,ae,ae⟩
   ·exact⟨.inr ae,w2,ae,ae⟩
 have H4:=(H3.ext e4).mono (Z':=Zw) λc _ h=>.inl h
 refine Cp.row0 (Cp.start (e:=rVD) (Z:=Zw) g4 λc hc=>(zw c hc).2.1) λv1 g5 M1=>?_
 have sb:ak .i .sub (af ((k:Int)+1)) aJ=some (af (k:Int)):=by
  show some (af (IntKind.i64.wrap ((k:Int)+1-1)))=_;rw[w64 ae ae,show(k:Int)+1-1=(k:Int)by omega]
 have f12:aC 12 (ptr F)=some (.pointer (some ⟨F,12,none⟩)):=rfl;have f8:aC 8 (ptr F)=some (.pointer (some ⟨F,8,none⟩)):=rfl;have gf:aE g5 ⟨F,12,none⟩=some V.wv:=ao (M1.ext.row fq);rw[f12,ah,dn,gf,ah];refine M1.app H4.w rfl (by simp;omega) (by simp;omega) λv2 g6 M2=>?_
 obtain⟨o6,n6⟩:=M2.row _ rfl;have lc:=rVD.len rx;rw[sb,ah,aL (M2.ext.row vx) 3 lc,ah];obtain⟨p7,eb,ff⟩:=Rp.Ow.setw (e:=rVD) o6 (k:=.i64) (i:=k) (by simp;omega);have eb:bh 3 v2 (af (k:Int))=some p7:=eb;rw[eb,ah];refine ff b0 (vOf C.E (cD (some C.E) (C.jo (bi P.q)) (P.ws k) P.q).1) _ (rVD.ext (rVD.mono rx λc _ h=>.inr h) M2.ext) λg7 o7 f7 s7=>?_
 have E7:Ext g4 g7:=M2.ext.then_fr f7 n6;have s6:=E7.1;rw[ah];refine bG (E7.row fq) (by simp[dpC]) o7.one λg8 r8 u8=>?_
 have s8:=u8.1;have lq:=rQ.len ry;have oq:=rQ.one ry;rw[aL (u8.row (show y≠F by omega) (E7.row vy)) 3 lq,ah,f8,ah];obtain⟨ql,rfl,h8,hp⟩:=ry;refine YY r8 (by simp[dpC]) oq rfl λg9 r9 u9=>?_
 have s9:=u9.1;have eP:(wrL ((dpC C P V).toArray.setIfInBounds (0+12) v2) 8 [af (cD (some C.E) (C.jo (bi P.q)) (P.ws k) P.q).2.1.room,ql,.bool (cD (some C.E) (C.jo (bi P.q)) (P.ws k) P.q).2.1.closed])=(dpC C (dk C P k) {V with wv:=v2,ql:=ql}).toArray:=by
  have hc:=Vl (some C.E) (C.jo (bi P.q)) (P.ws k) P.q;unfold dpC dk;simp only[hc];rfl
 have r9:g9[F]? =some (.cells (dpC C (dk C P k) {V with wv:=v2,ql:=ql}).toArray 48 (0,0)):=by rw[←eP];exact r9
 let Z9:Nat→Prop:=λc=>Zw c∨blk v2 c
 have z9:∀c,Z9 c→(Z c∨h.size≤c)∧c<g7.size∧c≠F∧c≠b3:=λc hc=>by
  rcases hc with hc|hc
  ·have:=zw c hc;exact⟨this.1,ae,this.2.2⟩
  ·have:=n6 c hc;exact⟨.inr ae,o7.lt hc,ae,ae⟩
 have D9:DAt Z9 C K N (dk C P k) {V with wv:=v2,ql:=ql} g9:=by
  have D7:=(H4.ext E7).mono (Z':=Z9) λc _ h=>.inl h
  have ew:([]++(List.range K).map λi=>vOf C.E (P.ws i)).set k (vOf C.E (cD (some C.E) (C.jo (bi P.q)) (P.ws k) P.q).1)=(List.range K).map λi=>vOf C.E ((dk C P k).ws i):=by
   rw[eZ,KO];apply EL;intro i _;unfold dk;simp only;split<;>rfl
  have eh:=o7.sl;rw[ew]at eh;have D:DAt Z9 C K N (dk C P k) {V with wv:=v2,ql:=ql} g7:=⟨D7.x,D7.y,D7.t,D7.m,⟨(h8.ext E7).mono λc _ h=>.inl (.inr h),hp⟩,D7.c,eh,D7.a,D7.s,D7.e,D7.f⟩
  have q:∀c,Z9 c→¬c=F:=λc hc=>(z9 c hc).2.2.1
  exact(D.fr u8.fr λc _ hc=>q c hc).fr u9.fr λc _ hc=>q c hc
 have rz:=u9.row (show z≠F by omega) (u8.row (show z≠F by omega) (E7.row vz));have c6:=u9.row (show b3≠F by omega) (u8.row (show b3≠F by omega) (E7.row (e4.row r3)));have E9:Ext h g9:=((E3.trans (e4.trans E7)).upd n1 u8).upd n1 u9;have ee:evP C P k=(cD (some C.E) (C.jo (bi P.q)) (P.ws k) P.q).2.2:=rfl;rw[←ee]at rz;have d0:aE g9 ⟨z,0,none⟩=some (af (evP C P k).1):=ao rz;have d1:aE g9 ⟨z,1,none⟩=some (af (evP C P k).2.1):=ao rz;have d17:aE g9 ⟨F,17,none⟩=some V.st:=ao r9;have dl:∀c,Z9 c→c<g9.size:=λc hc=>by have:=(z9 c hc).2.1;omega
 by_cases c1:(evP C P k).1=1
 ·have ew:iH C K P k={dk C P k with rows:=xm P.rows (k+1) (P.stamps.getD (evP C P k).2.1.toNat [])}:=by
   obtain⟨t0,t1⟩:=fi c1;have hm:P.stamps.getD (evP C P k).2.1.toNat []∈P.stamps:=by
    rw[dr,gN (show(evP C P k).2.1.toNat<P.stamps.length by omega)];exact cQ _
   have hs:=SS _ hm;unfold iH;rw[aB c1,Ab ae hs.1 hs.2]
  obtain⟨t0,t1⟩:=fi c1;obtain⟨n,en⟩:∃n:Nat,(evP C P k).2.1=(n:Int):=⟨(evP C P k).2.1.toNat,ae⟩
  rw[en]at d1;have f0:aC 0 (ptr z)=some (.pointer (some ⟨z,0,none⟩)):=rfl;have f1:aC 1 (ptr z)=some (.pointer (some ⟨z,1,none⟩)):=rfl;have f17:aC 17 (ptr F)=some (.pointer (some ⟨F,17,none⟩)):=rfl;have hn:n<P.stamps.length:=ae;obtain⟨p,s,i1,i2,i3⟩:=KQ (k:=.i64) (i:=n) D9.s hn;rw[f0,ah,dn,d0,ah,mf,ah,cH c1,fK];refine aQ (λg=>g=g9) rfl ?_;refine aF (.agg (dpC C (dk C P k) {V with wv:=v2,ql:=ql}).toArray) (λg e=>by rw[e];exact aL r9 20 rfl) ?_;rw[f17,ah];refine aF V.st (λg e=>by rw[e,dn];exact d17) ?_;rw[f1,ah];refine aF (af (n:Int)) (λg e=>by rw[e,dn];exact d1) ?_;rw[i1,ah];refine aF s (λg e=>by rw[e];exact i2) ?_;have es:(dk C P k).stamps[n]'hn=P.stamps.getD (evP C P k).2.1.toNat []:=by
   rw[en,dJ,dr,gN hn];rfl
  have hs:=SS _ (cQ hn);rw[show(k:Int)+1=((k+1:Nat):Int)by omega];refine(Lm (i:=k+1) D9 dl ae hK (by show(P.rows (k+1)).length≤_;omega) i3 (by have:=hs.1;show(P.stamps[n]).length≤_;omega)).mono λr I ⟨be,cp,er,an,b2,G⟩=>?_
  subst er;rw[es]at an ⊢;have eW:({dk C P k with rows:=xm (dk C P k).rows (k+1) (P.stamps.getD (evP C P k).2.1.toNat [])}:bS)=iH C K P k:=by rw[ew];rfl
  rw[eW]at an ⊢;have ep:=G.1;have L:∀c,be c→(Z c∨h.size≤c)∧c<I.size∧c≠b3:=λc hc=>by
   obtain⟨w1,w2⟩:=b2 c hc;rcases w1 with w1|w1
   ·have:=z9 c w1;exact⟨this.1,w2,this.2.2.2⟩
   ·exact⟨.inr ae,w2,ae⟩
  refine bI (G.row c6) (by rfl) an.ones (by rfl) λb8 ct a9=>?_
  rw[aL ct 20 rfl,ah];exact⟨be,cp,rfl,an.fr a9.fr λc _ hc=>(L c hc).2.2,λc hc=>⟨(L c hc).1,by rw[a9.1];exact(L c hc).2.1⟩,(E9.trans G).upd ae a9⟩
 have f0:aC 0 (ptr z)=some (.pointer (some ⟨z,0,none⟩)):=rfl;rw[f0,ah,dn,d0,ah,mf,ah,b9 c1,cg];by_cases c3:(evP C P k).1=3
 ·have hf:=SF c3;have ew:iH C K P k=UH K (dk C P k) k:=by
   unfold iH;rw[aA c1,aA ae,aB c3]
  have f18:aC 18 (ptr F)=some (.pointer (some ⟨F,18,none⟩)):=rfl;have d18:aE g9 ⟨F,18,none⟩=some V.en:=ao r9;rw[mf,ah,cH c3,fK,aL r9 20 rfl,ah,f18,ah,dn,d18,ah,show(k:Int)+1=((k+1:Nat):Int)by omega];refine(Lm (i:=k+1) D9 dl ae hK (by show(P.rows (k+1)).length≤_;omega) D9.e (by show P.fin.length≤_;omega)).mono λr I ⟨be,cp,er,an,b2,G⟩=>?_
  subst er;have em:xm (dk C P k).rows (k+1) (dk C P k).fin=jk (K+1) P.rows (k+1:Nat) P.fin:=(Ab ae hf.1 hf.2).symm;rw[em]at an ⊢;have ep:=G.1;have L:∀c,be c→(Z c∨h.size≤c)∧c<I.size∧c≠F∧c≠b3:=λc hc=>by
   obtain⟨w1,w2⟩:=b2 c hc;rcases w1 with w1|w1
   ·have:=z9 c w1;exact⟨this.1,w2,this.2.2⟩
   ·exact⟨.inr ae,w2,ae,ae⟩
  refine bI (G.row r9) (by rfl) an.ones (by rfl) λb8 ct a9=>?_
  have e8:=a9.1;have a8:=an.fr a9.fr λc _ hc=>(L c hc).2.2.1
  have e5:(jk (K+1) P.rows (k+1:Nat) P.fin (k+1)).length=K+1:=by
   rw[Ab ae hf.1 hf.2];unfold xm;rw[aB rfl,kF,hr,hf.1];omega
  rw[aL ct 20 rfl,ah];refine(Ll (i:=k+1) a8 (λc hc=>by have:=(L c hc).2.1;omega) ae hK e5).mono λr a7 ⟨u,s,cu,e7,hb,ej,⟨c9,eu,bk⟩,cb⟩=>?_
  subst e7 eu;have x0:∀a b:Value,aP (.tuple #[a,b]) 0=some a:=λ_ _=>rfl
  have x1:∀a b:Value,aP (.tuple #[a,b]) 1=some b:=λ_ _=>rfl
  rw[x0,ah,x1,ah];have e9:=cb.1;refine aI λb7 cr hg ax fw=>?_
  refine bI hg (by rfl) bk.ones (by rfl) λb4 au ay=>?_
  have bg:Ext a7 b4:=ax.upd fw ay;have is:=bg.1;have k7:=aW au;have zc:∀c,(be c∨cu c)→(Z c∨h.size≤c)∧c<a7.size∧c≠F∧c≠b3:=λc hc=>by
   rcases hc with hc|hc
   ·have:=L c hc;exact⟨this.1,ae,this.2.2⟩
   ·obtain⟨w1,w2⟩:=hb c hc;rcases w1 with w1|w1
    ·have:=L c w1;exact⟨this.1,w2,this.2.2⟩
    ·exact⟨.inr ae,w2,ae,ae⟩
  have fp:=(cb.trans bg).row ct;have fa:=(cb.trans bg).row (a9.row (show b3≠F by omega) (G.row c6));refine Cp.row0 (Cp.start (e:=rIs) (Z:=λc=>be c∨cu c) b4 λc hc=>by have:=(zc c hc).2.1;omega) λv3 hw M3=>?_
  have g0:aE hw ⟨F,19,none⟩=some cp.lf:=ao (M3.ext.row fp);have f19:aC 19 (ptr F)=some (.pointer (some ⟨F,19,none⟩)):=rfl;rw[f19,ah,dn,g0,ah];have fz:Rp.Sl rIs (λc=>be c∨cu c) b4 cp.lf P.left:=((a8.f.ext cb).ext bg).mono λc _ h=>.inl h
  refine M3.app fz rfl (by simp;omega) (by simp;omega) λv4 iw M4=>?_
  refine Cp.row1c (e:=rIs) (x:=jk (K+1) P.rows (k+1:Nat) P.fin (k+1)) rfl M4 ⟨s,rfl,(ej.ext bg).mono λc _ h=>.inr h⟩ λv5 it M5=>?_
  refine M5.app1 rfl (by simp;omega) (by simp;omega) λv6 ez ef b6 n18=>?_
  have i9:=b6.1;have fe:aC 19 (ptr b7)=some (.pointer (some ⟨b7,19,none⟩)):=rfl;rw[fe,ah];refine bG (b6.row au) (by simp[dpC]) ef.one λe6 hy cw=>?_
  have im:=cw.1
  let Zf:Nat→Prop:=λc=>(be c∨cu c)∨blk v6 c
  have zf:∀c,Zf c→(Z c∨h.size≤c)∧c<ez.size∧c≠b3∧c≠b7:=λc hc=>by
   rcases hc with hc|hc
   ·have:=zc c hc;exact⟨this.1,ae,this.2.2.2,ae⟩
   ·have:=n18 c hc;exact⟨.inr ae,ef.lt hc,ae,ae⟩
  have ar:=((bk.ext bg).ext b6).mono (Z':=Zf) λc _ h=>.inl (.inr h)
  have ey:DAt Zf C K N (iH C K P k) {c9 with lf:=v6} e6:=by
   rw[ew];have D:DAt Zf C K N (UH K (dk C P k) k) {c9 with lf:=v6} ez:=⟨ar.x,ar.y,ar.t,ar.m,ar.q,ar.c,ar.w,ar.a,ar.s,ar.e,ef.sl⟩
   exact D.fr cw.fr λc _ hc=>(zf c hc).2.2.2
  have fs:e6[b7]? =some (.cells (dpC C (iH C K P k) {c9 with lf:=v6}).toArray 48 (0,0)):=by rw[ew];exact hy
  refine Eo fs (cw.row (show b3≠b7 by omega) (b6.row fa)) rfl rfl ey.ones λip c8=>?_
  have EE:Ext h b4:=((E9.trans G).upd n1 a9).trans (cb.trans bg);exact⟨Zf,_,rfl,ey.fr c8.fr λc _ hc=>(zf c hc).2.2.1,λc hc=>⟨(zf c hc).1,by have:=(zf c hc).2.1;have:=c8.1;omega⟩,((EE.trans b6).upd ae cw).upd ae c8⟩
 obtain⟨k2,i0,h7,h6,fc,w0,w1,w2,w3⟩:=fv c1 c3;obtain⟨n,en⟩:∃n:Nat,(evP C P k).2.1=(n:Int):=⟨(evP C P k).2.1.toNat,ae⟩
 have ew:iH C K P k=pM C (dk C P k) k (evP C P k):=by
  unfold iH;rw[aA c1,aB k2]
 rw[en]at d1 fc w0 w1;have i6:n<N:=ae;have d2:aE g9 ⟨z,2,none⟩=some (af (evP C P k).2.2.1):=ao rz;have d3:aE g9 ⟨z,3,none⟩=some (af (evP C P k).2.2.2):=ao rz;have d6:aE g9 ⟨F,6,none⟩=some V.tv:=ao r9;have f6:aC 6 (ptr F)=some (.pointer (some ⟨F,6,none⟩)):=rfl;have f1:aC 1 (ptr z)=some (.pointer (some ⟨z,1,none⟩)):=rfl;rw[mf,ah,b9 c3,cg,f6,ah,dn,d6,ah,f1,ah,dn,d1,ah];obtain⟨e0,ei,a1,a2,a3⟩:=D9.t.atw (show 0<10 by omega) (k:=.i64) (i:=n) (by simp[dA];omega);have a1:bh 10 V.tv (af (n:Int))=some e0:=a1;have a2:aM 10 g9 e0=some (.agg ei.toArray):=a2;have et:(dA C.d N)[n]'(by simp[dA];omega)=aS C.d n:=by simp[dA]
 rw[et]at a3;have one:=Gn.one a3;obtain⟨q0,i4,q3,q5,ec⟩:=a3;rw[a1,ah,a2,ah];refine cX (cs:=ei) (by rw[ec];rfl) one (by rw[ec];rfl) λb5 I bv G n10=>?_
 rw[ec]at bv;have ep:=G.1;have t9:aE I ⟨b5,9,none⟩=some (af (bT C.d.s.y.lines)):=ao bv;have t3:aE I ⟨b5,3,none⟩=some (af (aS C.d n).w):=ao bv;have t1:aE I ⟨b5,1,none⟩=some (af (aS C.d n).x):=ao bv;have al:=G.row r9;have m5:aE I ⟨F,5,none⟩=some (af C.m.c):=ao al;have m2:aE I ⟨z,2,none⟩=some (af (evP C P k).2.2.1):=ao (G.row rz);simp only[go_sem,aO,t9,t3,m5,m2];rw[w64 (n:=bT C.d.s.y.lines*(aS C.d n).w) ae ae,fc,w64 (n:=(dk C P k).words k) ae ae];have il:(dk C P k).acc.length≤999999:=ha;have an:=D9.ext G;have c4:∀c,Z9 c→c<I.size:=λc hc=>by have:=dl c hc;omega
 have c2:=G.row c6;have who:((k:Int)+1)=((k+1:Nat):Int):=ae;have bm:=dB mw;have bn:=dB nw;have h5:C.d.s.x.n=C.m.w:=ek.1;have h9:C.d.s.y.n=C.m.h:=ek.2.1;have gr:aE I ⟨z,3,none⟩=some (af (evP C P k).2.2.2):=ao (G.row rz);have e2:aM 20 I (ptr F)=some (.agg (dpC C (dk C P k) {V with wv:=v2,ql:=ql}).toArray):=aL al 20 rfl;have b2:∀c,Z9 c→(Z c∨h.size≤c)∧c<I.size∧c≠F∧c≠b3:=λc hc=>by have:=z9 c hc;exact⟨this.1,ae,this.2.2⟩
 refine aq (λhm=>?_) (λhm=>?_)
 ·have ho:aE I ⟨F,2,none⟩=some (af C.m.w):=by rw[←h5];exact ao al
  have m3:aE I ⟨F,3,none⟩=some (af C.m.h):=by rw[←h9];exact ao al
  have m4:aE I ⟨F,4,none⟩=some (af C.d.s.border):=ao al;have wc:1≤C.m.w*C.m.c∧C.m.w*C.m.c≤65536*3:=⟨vv ae ae,lV ae ae ae ae⟩
  simp only[go_sem,aO,ho,m3,m4,gr];rw[w64 (n:=C.m.w*C.m.c) ae ae];refine ag.at (zfO h7) ?_;have ik:=zdn (p:=C.d.s.border) (j:=(evP C P k).2.2.2) (n:=C.m.h) ae ae;have h4:=kz (a:=atZ C.d.s.border (evP C P k).2.2.2 C.m.h) (A:=65536) (b:=C.m.w*C.m.c) (B:=65536*3) ae ae ae ae;rw[e2,ah];simp only[go_sem];rw[w64 (n:=atZ C.d.s.border (evP C P k).2.2.2 C.m.h*(C.m.w*C.m.c)) ae ae,who];refine(rP (who:=k+1) an c4 ae ae h4.1 ae ae).mono λr b8 ⟨eg,dz,er,a8,c7,aa⟩=>?_
  subst er;have e8:=aa.1;have ad:∀c,eg c→(Z c∨h.size≤c)∧c<b8.size∧c≠F∧c≠b3:=λc hc=>by
   obtain⟨w1,w2⟩:=c7 c hc;rcases w1 with w1|w1
   ·have:=b2 c w1;exact⟨this.1,w2,this.2.2⟩
   ·exact⟨.inr ae,w2,ae,ae⟩
  refine bI (aa.row al) (by rfl) a8.ones (by rfl) λa7 ci U=>?_
  have e9:=U.1;have bk:=a8.fr U.fr λc _ hc=>(ad c hc).2.2.1
  rw[aL ci 20 rfl,ah]
  try simp only[go_sem]
  rw[w64 (n:=1+((k+1:Nat):Int)) ae ae,show 1+((k+1:Nat):Int)=(k:Int)+2 by omega];refine(rP (who:=k+1) bk (λc hc=>by have:=(ad c hc).2.1;omega) ae (by simp[mL];omega) (gj _) ae ae).mono λr cr ⟨ca,ea,er,bo,dq,ax⟩=>?_
  subst er;have gp:=ax.1;have am:∀c,ca c→(Z c∨h.size≤c)∧c<cr.size∧c≠b3:=λc hc=>by
   obtain⟨w1,w2⟩:=dq c hc;rcases w1 with w1|w1
   ·have:=ad c w1;exact⟨this.1,w2,this.2.2.2⟩
   ·exact⟨.inr ae,w2,ae⟩
  have eW:mL (mL (dk C P k) (k+1) 0 (atZ C.d.s.border (evP C P k).2.2.2 C.m.h*(C.m.w*C.m.c)) (C.m.w*C.m.c) false) (k+1) ((k:Int)+2) 0 ((dk C P k).words k) true=iH C K P k:=by
   rw[ew];unfold pM;rw[aB hm]
  rw[eW]at bo ⊢;refine bI (ax.row (U.row (show b3≠F by omega) (aa.row c2))) (by rfl) bo.ones (by rfl) λb4 au ay=>?_
  rw[aL au 20 rfl,ah];exact⟨ca,ea,rfl,bo.fr ay.fr λc _ hc=>(am c hc).2.2,λc hc=>⟨(am c hc).1,by rw[ay.1];exact(am c hc).2.1⟩,((((E9.trans G).trans aa).upd n1 U).trans ax).upd ae ay⟩
 ·obtain⟨y0,y1⟩:=h6 hm;have wf:=iF O.d (i:=(n:Int)) ae ae;unfold eI at wf;have bd:=dC.bd O.d;have wX:(aS C.d n).x+(aS C.d n).w≤C.d.X:=by show _≤((C.d.s.x.lines.length:Nat):Int);omega
  have gl:=kz (a:=(aS C.d n).w) (A:=65536) (b:=C.m.c) (B:=3) ae ae ae ae;have i7:=kz (a:=(evP C P k).2.2.2) (A:=65536) (b:=C.d.X) (B:=65536) ae ae ae ae;have gs:=kz (a:=(evP C P k).2.2.2*C.d.X+(aS C.d n).x) (A:=65536*65536+65536) (b:=C.m.c) (B:=3) ae ae ae ae;rw[e2,ah,w64 (n:=1+((k:Int)+1)) ae ae,show 1+((k:Int)+1)=(k:Int)+2 by omega,who];refine(rP (who:=k+1) an c4 ae ae (gj _) ae ae).mono λr b8 ⟨eg,dz,er,a8,c7,aa⟩=>?_
  subst er;have e8:=aa.1;have ad:∀c,eg c→(Z c∨h.size≤c)∧c<b8.size∧c≠F∧c≠b3:=λc hc=>by
   obtain⟨w1,w2⟩:=c7 c hc;rcases w1 with w1|w1
   ·have:=b2 c w1;exact⟨this.1,w2,this.2.2⟩
   ·exact⟨.inr ae,w2,ae,ae⟩
  refine bI (aa.row al) (by rfl) a8.ones (by rfl) λa7 ci U=>?_
  have e9:=U.1;have bk:=a8.fr U.fr λc _ hc=>(ad c hc).2.2.1
  have kb:=aW (G.row rz);have c0:aE a7 ⟨F,0,none⟩=some dz.X:=ao ci;have c5:aE a7 ⟨F,5,none⟩=some (af C.m.c):=ao ci;have cz:aE a7 ⟨z,3,none⟩=some (af (evP C P k).2.2.2):=ao (U.row (show z≠F by omega) (aa.row (G.row rz)));have gg:aE a7 ⟨b5,1,none⟩=some (af (aS C.d n).x):=ao (U.row (show b5≠F by omega) (aa.row bv));have gz:aE a7 ⟨b5,3,none⟩=some (af (aS C.d n).w):=ao (U.row (show b5≠F by omega) (aa.row bv));have eX:aD dz.X=some (af C.d.X):=jR bk.x;rw[aL ci 20 rfl,ah,cz,ah,c0,ah,eX,ah,gg,c5,gz];simp only[go_sem];rw[w64 (n:=(evP C P k).2.2.2*C.d.X) ae ae,w64 (n:=(evP C P k).2.2.2*C.d.X+(aS C.d n).x) ae ae,w64 (n:=((evP C P k).2.2.2*C.d.X+(aS C.d n).x)*C.m.c) ae ae,w64 (n:=(aS C.d n).w*C.m.c) ae ae];refine(rP (who:=k+1) bk (λc hc=>by have:=(ad c hc).2.1;omega) ae (by simp[mL];omega) gs.1 gl.1 ae).mono λr cr ⟨ca,ea,er,bo,dq,ax⟩=>?_
  subst er;have gp:=ax.1;have am:∀c,ca c→(Z c∨h.size≤c)∧c<cr.size∧c≠b3:=λc hc=>by
   obtain⟨w1,w2⟩:=dq c hc;rcases w1 with w1|w1
   ·have:=ad c w1;exact⟨this.1,w2,this.2.2.2⟩
   ·exact⟨.inr ae,w2,ae⟩
  have eW:mL (mL (dk C P k) (k+1) ((k:Int)+2) 0 ((dk C P k).words k) false) (k+1) 1 (((evP C P k).2.2.2*C.d.X+(aS C.d n).x)*C.m.c) ((aS C.d n).w*C.m.c) true=iH C K P k:=by
   rw[ew];unfold pM;rw[aA hm,en]
  rw[eW]at bo ⊢;refine bI (ax.row (U.row (show b3≠F by omega) (aa.row c2))) (by rfl) bo.ones (by rfl) λb4 au ay=>?_
  rw[aL au 20 rfl,ah];exact⟨ca,ea,rfl,bo.fr ay.fr λc _ hc=>(am c hc).2.2,λc hc=>⟨(am c hc).1,by rw[ay.1];exact(am c hc).2.1⟩,((((E9.trans G).trans aa).upd n1 U).trans ax).upd ae ay⟩
end
end
section
theorem zdV {K:Nat}(h:1≤K∧K≤256):RG ((K:Int)+1)=K+1:=by unfold RG;omega
theorem zbV {α:Type}(n:Nat)(x:α):List.replicate n x=(List.range n).map λ_=>x:=by rw[List.map_const',fF]
structure mg (h0:ai)(K:Nat)(room:Int)(q:Option Nat)(c:Option (Value×(Nat→Prop)))(d:Option Value)(g:ai):Prop where
 ext:Ext h0 g
 hq:∀b,q=some b→IsQ (λc=>c=b) g b ⟨min (max 1 room) 4096,[],false⟩∧h0.size≤b
 hc:∀p,c=some p→ga p.2 g p.1 (K+1) (pe (K+1))∧∀b,p.2 b→h0.size≤b∧b<g.size
 hd:∀v,d=some v→Own 1 g v K ((List.range K).map λ_=>.int .i64 0)∧∀b,blk v b→h0.size≤b
 qc:∀b p,q=some b→c=some p→¬p.2 b
 qd:∀b v,q=some b→d=some v→¬blk v b
 cd:∀p v b,c=some p→d=some v→p.2 b→¬blk v b
section
variable {h0 g:ai}{K:Nat}{room:Int}{q:Option Nat}{c:Option (Value×(Nat→Prop))}{d:Option Value}{X:Value→ai→Prop}
theorem mg.start (h:ai)(K:Nat)(room:Int):mg h K room none none none h:=⟨Ext.refl _,by simp,by simp,by simp,by simp,by simp,by simp⟩
theorem mg.ex {A:ai}(M:mg h0 K room q c d g)(e:Ext g A):mg h0 K room q c d A:=
 ⟨M.ext.trans e,λb h=>⟨(M.hq b h).1.ext e,(M.hq b h).2⟩,λp h=>⟨(M.hc p h).1.ext e,λb D=>⟨((M.hc p h).2 b D).1,ce ((M.hc p h).2 b D).2 e.1⟩⟩,λv h=>⟨(M.hd v h).1.fr (M:=λ_=>False) e.fr λ_ _=>id,(M.hd v h).2⟩,M.qc,M.qd,M.cd⟩
theorem mg.queue (M:mg h0 K room none c d g)(H:∀b A,mg h0 K room (some b) c d A→X (ptr b) A):ag prog oW #[af room] g X:=by
 refine zc2.mono λr A ⟨b,I,Q,e,n⟩=>?_
 subst I;have M':=M.ex e;have s:=M.ext.1;refine H b A ⟨M'.ext,λF h=>by cases h;exact⟨Q,ae⟩,M'.hc,M'.hd,λF p h G D=>?_,λF v h L D=>?_,M.cd⟩
 ·cases h;have:=((M.hc p G).2 b D).2;omega
 ·cases h;have:=(M.hd v L).1.lt D;omega
theorem mg.clock (U:1≤K∧K≤256)(M:mg h0 K room q none d g)(H:∀p D,mg h0 K room q (some p) d D→X p.1 D):ag prog pd #[af ((K:Int)+1)] g X:=by
 refine(c_New ((K:Int)+1)).mono λr D ⟨W,I,e,n⟩=>?_
 rw[zdV U]at I;have M':=M.ex e;have s:=M.ext.1;refine H (r,W) D ⟨M'.ext,M'.hq,λp h=>by cases h;exact⟨I,λb A=>⟨by have:=n b A;omega,by obtain⟨_,_,_,_,_,L⟩:=I;exact L.lt b A⟩⟩,M'.hd,λb p h G A=>?_,M.qd,λp v b G hv A F=>?_⟩
 ·cases G;have:=n b A;have:=(M.hq b h).1.ql b rfl;omega
 ·cases G;have:=n b A;have:=(M.hd v hv).1.lt F;omega
theorem mg.words (U:1≤K∧K≤256)(M:mg h0 K room q c none g){t:TypeId}(H:∀v D,mg h0 K room q c (some v) D→X v D):mkK aj t 1 8 (af (K:Int)) (af (K:Int)) g X:=by
 refine pN rfl ae ae λv D o e n=>?_
 rw[zbV]at o;have M':=M.ex e;have s:=M.ext.1;refine H v D ⟨M'.ext,M'.hq,M'.hc,λI h=>by cases h;exact⟨o,λb A=>by have:=n b A;omega⟩,M.qc,λb I h G A=>?_,λp I b L G A F=>?_⟩
 ·cases G;have:=n b A;have:=(M.hq b h).1.ql b rfl;omega
 ·cases G;have:=n b F;have:=((M.hc p L).2 b A).2;omega
end
theorem za1 {vc dv:Value}{a b c d:Nat}(hc:aV vc=true)(hd:aV dv=true):(aR #[(.pointer none),(.pointer none),(.pointer none),(.pointer none),(.pointer none),(.slice none 0 0),(.slice none 0 0),(.slice none 0 0),aj,(.slice none 0 0),(.slice none 0 0),(.slice none 0 0),(.bool false),aj] [(0,1,ptr a),(1,1,ptr b),(2,1,ptr c),(3,1,ptr d),(4,1,vc),(7,1,dv)]).map Value.agg=
  some (.agg #[ptr a,ptr b,ptr c,ptr d,vc,.slice none 0 0,.slice none 0 0,dv,aj,.slice none 0 0,.slice none 0 0,.slice none 0 0,.bool false,aj]):=by
 have:aR #[(.pointer none),(.pointer none),(.pointer none),(.pointer none),(.pointer none),(.slice none 0 0),(.slice none 0 0),(.slice none 0 0),aj,(.slice none 0 0),(.slice none 0 0),(.slice none 0 0),(.bool false),aj] [(0,1,ptr a),(1,1,ptr b),(2,1,ptr c),(3,1,ptr d),(4,1,vc),(7,1,dv)]=some #[ptr a,ptr b,ptr c,ptr d,vc,.slice none 0 0,.slice none 0 0,dv,aj,.slice none 0 0,.slice none 0 0,.slice none 0 0,.bool false,aj]:=by
  refine(cn (n:=1) (l:=[ptr a]) rfl rfl (by simp)).trans ?_;refine(cn (n:=1) (l:=[ptr b]) rfl rfl (by simp[cN])).trans ?_;refine(cn (n:=1) (l:=[ptr c]) rfl rfl (by simp[cN])).trans ?_;refine(cn (n:=1) (l:=[ptr d]) rfl rfl (by simp[cN])).trans ?_;refine(cn (n:=1) (l:=[vc]) (cJ hc) rfl (by simp[cN])).trans ?_;refine(cn (n:=1) (l:=[dv]) (cJ hd) rfl (by simp[cN])).trans ?_;rw[ii];simp[wrL]
 rw[this];rfl
structure zga (hL:ai)(bp:Nat)(row:Value→Array Value)(T:TypeId)(i:Nat)(wv:Value)(bw:Nat→Nat)(g:ai):Prop where
 fr:Fr (λc=>c=bp) hL g
 own:Own 1 g wv i ((List.range i).map λj=>ptr (bw j))
 ws:∀j,j<i→g[bw j]? =some (.cells #[.int .i64 0,.slice none 0 0,.pointer none,.int .i64 0] 182 (0,0))∧hL.size≤bw j
 ne:∀j k,j<k→k<i→bw j≠bw k
 nw:∀b,blk wv b→hL.size≤b∧∀j,j<i→b≠bw j
 p:g[bp]? =some (.cells (row wv) T (0,0))
theorem zdw {hL:ai}{bp:Nat}{row:Value→Array Value}{T:TypeId}{K:Nat}(hK:1≤K∧K≤256)(r0:hL[bp]? =some (.cells (row (.slice none 0 0)) T (0,0)))(h6:∀v,(row v)[6]? =some v)(U:∀v v',(row v).setIfInBounds 6 v'=row v'){tA tB:TypeId}{X:ai→Prop}
  (HX:∀wv bw g,zga hL bp row T K wv bw g→X g):
  bC [aj] hL λH b2 D A=>vK (ak .i .lss (ix H 0) (af (K:Int))) λar=>aG ar (
  bL D λS=>vK (aX (ptr bp)) λbe=>vK (aC 6 be) λa9=>qK S (λD=>ldV D a9) λa7=>
  ag prog p9 #[] D λaa I=>S I∧(cO #[(.pointer none)] tA 1 [(0,1,aa)] I λax W=>S W∧(cR (.pointer none) tB 1 8 a7 ax W λbv au=>
  vK (aX (ptr bp)) λbd=>vK (aC 6 bd) λa8=>stK 1 a8 bv au λb0 am=>vK (ak .i .add (ix H 0) aJ) λbg=>A [bg] am))) (X D):=by
 have b1:=aW r0;refine bO (α:=Value×(Nat→Nat)) K 0 (λi _=>[af (i:Int)]) (λi s g=>zga hL bp row T i s.1 s.2 g) (.slice none 0 0,λ_=>0) rfl (bZ _) ⟨Fr.refl _ _,.inl ⟨rfl,rfl,rfl⟩,by simp,ae,λb F=>F.elim,r0⟩ λi s g again ρ _ hi M al=>?_
 obtain⟨wv,bw⟩:=s;have M:zga hL bp row T i wv bw g:=M;simp only[iq];rw[cI,ah];refine aq (λg1=>?_) (λg1=>?_)
 ·have bk:i<K:=ae;have ay:(i:Int)+1=((i+1:Nat):Int):=ae;have sg:=M.fr.1;refine aQ (Ext g) (Ext.refl _) ?_;simp only[go_sem,aO];refine aF wv (λk e=>by rw[ao (e.row M.p)];exact h6 wv) ?_;refine Mf.mono λr g2 ⟨b,er,r2,e2,n2⟩=>⟨e2,?_⟩
  subst er;have l2:=aW r2;refine cT (Rp.fill_one rfl) λb3 g3 r3 e3 n3=>⟨e2.trans e3,?_⟩
  have E3:=e2.trans e3;have o3:Own 1 g3 wv i ((List.range i).map λj=>ptr (bw j)):=M.own.fr (M:=λ_=>False) E3.fr λ_ _=>id
  have S1:=Rp.SlC.single (cs:=[ptr b]) r3;have G:∀c,blk wv c→c<g.size:=λc hc=>M.own.lt hc
  refine ui o3 S1 (az rfl aU) rfl ae ae λs' g4 o4 f4 n4=>?_
  have bo:¬blk wv bp:=λF=>by have:=(M.nw bp F).1;omega
  have r4:=f4.row (E3.row M.p) bo;have os:aV s'=true:=by obtain⟨a,c,e⟩:=Own.isSl o4;rw[e];rfl
  have ad:6<(row wv).size:=(mT.1 (h6 wv)).1;refine bG r4 ad os λg5 r5 u5=>?_
  rw[U]at r5;have s2:=e2.1;have s3:=e3.1;have s4:=f4.1;rw[w64 (n:=(i:Int)+1) ae ae,ay];have b5:b≠bp:=ae;have L:∀c,blk s' c→c≠bp∧hL.size≤c:=λc hc=>by
   rcases n4 c hc with h|h
   ·have:=(M.nw c h).1;exact⟨ae,ae⟩
   ·exact⟨ae,ae⟩
  refine al (s',λj=>if j=i then b else bw j) g5 bk ⟨?_,?_,λj hj=>?_,λj k an hk=>?_,λc hc=>⟨(L c hc).2,λj hj=>?_⟩,r5⟩
  ·exact(((M.fr.trans E3.fr).after f4 λc hc F=>by have:=(M.nw c F).1;omega)).trans u5.fr
  ·have e:(List.range (i+1)).map (λj=>ptr (if j=i then b else bw j))=(List.range i).map (λj=>ptr (bw j))++[ptr b]:=by
    rw[rK,jW]
    congr 1
    ·refine EL λj hj=>?_
     rw[aA (by have:=uA.1 hj;omega)]
    ·simp
   rw[e];exact o4.fr u5.fr λc hc=>(L c hc).1
  ·by_cases e:j=i
   ·subst e;simp only[cV];exact⟨u5.row b5 (f4.row (e3.row r2) λF=>by have:=G b F;omega),ae⟩
   ·simp only[aA e];obtain⟨w1,w2⟩:=M.ws j ae;exact⟨u5.row ae (f4.row (E3.row w1) λF=>(M.nw _ F).2 j ae rfl),w2⟩
  ·show(if j=i then b else bw j)≠(if k=i then b else bw k);have lj:∀m,m<i→bw m<g.size:=λm hm=>aW (M.ws m hm).1
   by_cases e:k=i
   ·rw[aA ae,aB e];have:=lj j ae;omega
   ·rw[aA ae,aA e];exact M.ne j k an ae
  ·show c≠(if j=i then b else bw j);by_cases e:j=i
   ·rw[aB e];rcases n4 c hc with h|h
    ·have:=G c h;omega
    ·omega
   ·rw[aA e];rcases n4 c hc with h|h
    ·exact(M.nw c h).2 j ae
    ·have:=aW (M.ws j ae).1;omega
 ·have:i=K:=ae;subst this;exact HX wv bw g M
end
def Gr (K:Nat)(room:Int):bS:=⟨⟨min (max 1 room) 4096,[],false⟩,pe (K+1),[],λ_=>⟨0,[],none,0⟩,λ_=>0,0,[],[],[],false,0⟩
def Gq (K:Nat)(room a b:Int):bS:=mL (mL (Gr K room) 0 0 0 a true) 0 1 0 b true
theorem zb4 {C:C21}{K:Nat}{room:Int}(h:0≤bN C.d):mU C K (Gr K room):=
 ⟨⟨gj _,h⟩,rfl,(λx D=>by cases D),(λi _=>⟨(λx D=>by cases D),.inr ⟨.inl rfl,rfl⟩,(λt y e h=>by cases h)⟩),(λi _=>gj _),(λi _=>by simp[Gr,pe]),(λs A=>by cases A),bZ _,(λs A=>by cases A),gj _,(by show(0:Int)≤2+2*0;omega),gj _,(λh=>by cases h)⟩
theorem zb3 {C:C21}{K:Nat}{room a b:Int}(h:0≤bN C.d):mU C K (Gq K room a b):=by
 have H:=zb4 (C:=C) (K:=K) (room:=room) h;exact⟨H.sent,H.st,H.q,H.w,H.tn,H.rows,H.ss,H.fn,H.ls,H.ln,(by show(2:Int)≤2+2*0;omega),H.pk,H.cl⟩
theorem label {P:Nat→Nat→Prop}(h0:∀c,¬P 0 c)(u:∀k k' c,P k c→P k' c→k=k'):∃o:Nat→Nat,∀k,k≠0→∀c,o c=k↔P k c:=by
 classical
 refine⟨λc=>if h:∃k,P k c then Classical.choose h else 0,λk A c=>?_⟩;by_cases h:∃k,P k c
 ·simp only[JP h];have hc:=ZC h;exact⟨λe=>e▸hc,λe=>u _ _ c hc e⟩
 ·simp only[dif_neg h];exact⟨λe=>absurd e.symm A,λe=>absurd ⟨k,e⟩ h⟩
def zdt (Z0:Nat→Prop)(h:ai)(m:Pic)(s:Stg)(tw th room:Int)(bf:Nat)(K:Nat)(r:Value)(h':ai):Prop:=
 ∃bp C Z bw o,r=.tuple #[ptr bp,.int .i64 0]∧C.m=m∧C.d=⟨s,tw,th⟩∧C.bf=bf∧C.Ok∧eF C Z K h bw bp o (vO s.x.lines.length s.y.lines.length m.c m.most) (Gq K room (m.w*m.h*m.c) ((s.x.lines.length:Int)*s.y.lines.length*m.c)) h'∧(∀c,eB (some C.E) c→h.size≤c)∧Ext h h'∧(∀c,o c≠0→h.size≤c)∧(∀c,Z c→Z0 c∨h.size≤c)∧h.size≤C.bt
def Xo (h4:ai)(K:Nat)(room:Int)(bf bt bl:Nat)(xs:List Value)(g:ai):Prop:=
 ∃bp bq pc dv,xs=[ptr bp]∧mg h4 K room (some bq) (some pc) (some dv) g∧g[bp]? =some (.cells #[ptr bf,ptr bt,ptr bl,ptr bq,pc.1,.slice none 0 0,.slice none 0 0,dv,.int .i64 0,.slice none 0 0,.slice none 0 0,.slice none 0 0,.bool false,.int .i64 0] 106 (0,0))∧h4.size≤bp∧bp≠bq∧¬pc.2 bp∧¬blk dv bp
theorem KR {D g:ai}{K:Nat}{room:Int}{bf bt bl bq:Nat}{pc:Value×(Nat→Prop)}{dv:Value}(M:mg D K room (some bq) (some pc) (some dv) g):
  vK ((aR #[(.pointer none),(.pointer none),(.pointer none),(.pointer none),(.pointer none),(.slice none 0 0),(.slice none 0 0),(.slice none 0 0),aj,(.slice none 0 0),(.slice none 0 0),(.slice none 0 0),(.bool false),aj] [(0,1,ptr bf),(1,1,ptr bt),(2,1,ptr bl),(3,1,ptr bq),(4,1,pc.1),(7,1,dv)]).map .agg) λG=>aT (Value.cells G) 106 g λF A=>Ext D A∧Xo D K room bf bt bl [F] A:=by
 have I:aV pc.1=true:=by obtain⟨_,_,_,_,e,_⟩:=(M.hc pc rfl).1;rw[e];rfl
 have U:aV dv=true:=by obtain⟨a,c,e⟩:=Own.isSl (M.hd dv rfl).1;rw[e];rfl
 rw[za1 I U,ah];refine aI λbp W L H n'=>⟨M.ext.trans H,bp,bq,pc,dv,rfl,M.ex H,L,by have:=M.ext.1;omega,by have:=(M.hq bq rfl).1.ql bq rfl;omega,λh=>by have:=((M.hc pc rfl).2 bp h).2;omega,λh=>by have:=(M.hd dv rfl).1.lt h;omega⟩
theorem SO {h:ai}(G:fC h){Z0:Nat→Prop}{bf:Nat}{vf sv:Value}{m:Pic}{s:Stg}(I:du h bf vf m)(W:m.Wf)(HS:rl Z0 h sv s)(WS:DQ s)(ay:kY m s)(zf:Z0 bf∧∀c,blk vf c→Z0 c)(zl:∀c,Z0 c→c<h.size)(fit:Dw s.x.lines.length s.y.lines.length m.c m.most=0){tw th wk room:Int}:
  ag prog Bo #[ptr bf,sv,af tw,af th,af wk,af room] h λr h'=>
   (¬(fW tw∧fW th)→r=.tuple #[.pointer none,af 9]∧Ext h h')∧(fW tw∧fW th→¬(1≤wk∧wk≤256)→r=.tuple #[.pointer none,af 10]∧Ext h h')∧
   (fW tw∧fW th→∀K:Nat,wk=K→1≤K∧K≤256→zdt Z0 h m s tw th room bf K r h'):=by
 apply VX;unfold LR;have bv:=HS;obtain⟨p,q,rfl,hp,hq,b8⟩:=jQ HS;simp only[bF];refine aI λD h1 r1 e1 n1=>?_
 have nf:ak .p .eql (ptr bf) (.pointer none)=some (.bool false):=rfl;have l3:aM 3 h1 (ptr D)=some (.agg #[p,q,af s.border]):=aL (l:=[p,q,af s.border]) r1 3 rfl;simp only[go_sem,nf,l3];refine(Nt (G.ext e1) (I.ext e1) (bv.ext e1)).mono λr h2 ⟨er,e2⟩=>?_
 rw[cH ay]at er;subst er;simp only[go_sem];have E2:=e1.trans e2;have r2:=e2.row r1;refine aQ (λk=>k=h2) rfl ?_;refine aF p (λk e=>by rw[e];exact ao r2) ?_;refine aF q (λk e=>by rw[e];exact ao r2) ?_;have bg:=hp.ext E2;have bo:=hq.ext E2;refine ag.at (Fp bg) ⟨rfl,?_⟩;refine ag.at (Fp bo) ?_;have I2:=I.ext E2;refine ag.at (fZ I2) ?_;refine ag.at (wu I2) ?_;refine Ah.mono λr h3 ⟨pt,er,e3,_,hN⟩=>?_
 subst er;obtain⟨bt,vt,b0,It,cr,au,_⟩:=hN fit;subst b0;rw[fit];have x0:∀a b:Value,aP (.tuple #[a,b]) 0=some a:=λ_ _=>rfl
 have x1:∀a b:Value,aP (.tuple #[a,b]) 1=some b:=λ_ _=>rfl
 simp only[x0,x1,ah];have a7:ak .i .neq aj aj=some (.bool false):=rfl;rw[a7,ah,cg];have E3:=E2.trans e3;have s1:=e1.1;have s2:=e2.1;have s3:=e3.1;rw[aL (l:=[p,q,af s.border]) (e3.row r2) 3 rfl,ah];refine(SQ (Z:=Z0) (s:=s) ⟨p,q,rfl,hp.ext E3,hq.ext E3⟩).mono λr h4 ⟨e4,be,b3⟩=>?_
 have E4:=E3.trans e4;by_cases F:fW tw∧fW th
 ·obtain⟨bl,pp,pq,er,cp,PL⟩:=be F;subst er;simp only[x0,x1,ah];rw[a7,ah,cg];by_cases am:wk<1
  ·simp only[go_sem,am];exact⟨λh=>absurd F h,λ_ _=>⟨trivial,E4⟩,λ_ K U h=>ae⟩
  by_cases ar:256<wk
  ·simp only[go_sem,am,ar];exact⟨λh=>absurd F h,λ_ _=>⟨trivial,E4⟩,λ_ K U h=>ae⟩
  simp only[go_sem,am,ar];obtain⟨K,U⟩:∃K:Nat,wk=(K:Int):=⟨wk.toNat,ae⟩
  subst U;have U:1≤K∧K≤256:=ae;have fin:∀{r h'},zdt Z0 h m s tw th room bf K r h'→(¬(fW tw∧fW th)→r=.tuple #[.pointer none,af 9]∧Ext h h')∧(fW tw∧fW th→¬(1≤(K:Int)∧(K:Int)≤256)→r=.tuple #[.pointer none,af 10]∧Ext h h')∧(fW tw∧fW th→∀K':Nat,(K:Int)=K'→1≤K'∧K'≤256→zdt Z0 h m s tw th room bf K' r h'):=λ{r h'} M=>⟨λh=>absurd F h,λ_ h=>absurd ae h,λ_ K' e _=>by
   obtain rfl:K=K':=ae;exact M⟩
  have cb:=It.lt;have cc:=aW PL.row;have s4:=e4.1;refine bB (Xo h4 K room bf bt bl) ?_ ?_
  ·refine aQ (Ext h4) (Ext.refl _) ?_
   try simp only[go_sem]
   rw[w64 (n:=(K:Int)+1) ae ae];have M0:=mg.start h4 K room;refine⟨?_,?_⟩
   ·refine M0.queue λbq g1 M1=>⟨M1.ext,?_,?_⟩
    ·refine M1.clock U λpc g2 M2=>⟨M2.ext,?_⟩
     refine M2.words U λdv g3 M3=>⟨M3.ext,?_⟩
     exact KR M3
    ·refine M1.words U λdv g2 M2=>⟨M2.ext,?_⟩
     refine M2.clock U λpc g3 M3=>⟨M3.ext,?_⟩
     exact KR M3
   ·refine M0.words U λdv g1 M1=>⟨M1.ext,?_⟩
    refine M1.queue λbq g2 M2=>⟨M2.ext,?_⟩
    refine M2.clock U λpc g3 M3=>⟨M3.ext,?_⟩
    exact KR M3
  rintro xs ρ g ⟨bp,bq,pc,dv,rfl,M,row,c2,b5,an,a9⟩;simp only[iq];refine zdw (row:=λv=>#[ptr bf,ptr bt,ptr bl,ptr bq,pc.1,.slice none 0 0,v,dv,aj,.slice none 0 0,.slice none 0 0,.slice none 0 0,.bool false,aj]) U row (λv=>rfl) (λv v'=>rfl) λwv bw g2 WM=>?_
  have c0:=M.ext;have sM:=c0.1;obtain⟨Qk,cw⟩:=M.hq bq rfl;obtain⟨Ck,cM⟩:=M.hc pc rfl;obtain⟨Dk,nd⟩:=M.hd dv rfl;have cz:=Qk.ql bq rfl;have a8:∀c,blk dv c→c<g.size:=λc hc=>Dk.lt hc
  have ct:=aW row;have e0:=WM.fr;have se:=e0.1;have wl:∀j,j<K→bw j<g2.size:=λj hj=>aW (WM.ws j hj).1
  have b4:∀c,blk wv c→c<g2.size:=λc hc=>WM.own.lt hc
  have wi:∀i j,i<K→j<K→bw i=bw j→i=j:=λi j hi hj h=>by
   rcases Nat.lt_trichotomy i j with h1|h1|h1
   ·exact absurd h (WM.ne i j h1 hj)
   ·exact h1
   ·exact absurd h.symm (WM.ne j i h1 hi)
  have u:∀k k' c,((k=1∧c=bq)∨(k=2∧pc.2 c)∨(k=4∧c=bp)∨(k=5∧blk dv c)∨(k=9∧blk wv c)∨∃j,j<K∧k=10+j∧c=bw j)→((k'=1∧c=bq)∨(k'=2∧pc.2 c)∨(k'=4∧c=bp)∨(k'=5∧blk dv c)∨(k'=9∧blk wv c)∨∃j,j<K∧k'=10+j∧c=bw j)→k=k':=by
   intro k k' c h1 h2;have q1:pc.2 c→c<g.size∧c≠bq∧c≠bp∧¬blk dv c:=λh=>⟨(cM c h).2,λe=>M.qc bq pc rfl rfl (e▸h),λe=>an (e▸h),M.cd pc dv c rfl rfl h⟩
   have q2:blk dv c→c<g.size∧c≠bq∧c≠bp:=λh=>⟨a8 c h,λe=>M.qd bq dv rfl rfl (e▸h),λe=>a9 (e▸h)⟩
   have q3:blk wv c→g.size≤c∧∀j,j<K→c≠bw j:=λh=>WM.nw c h
   have q4:∀j,j<K→g.size≤bw j:=λj hj=>(WM.ws j hj).2
   rcases h1 with⟨a1,D⟩|⟨a1,D⟩|⟨a1,D⟩|⟨a1,D⟩|⟨a1,D⟩|⟨i,i1,a1,D⟩<;>rcases h2 with⟨a2,H⟩|⟨a2,H⟩|⟨a2,H⟩|⟨a2,H⟩|⟨a2,H⟩|⟨j,j1,a2,H⟩<;>
    first
    |omega
    |(exfalso;exact(q1 D).2.2.2 H)
    |(exfalso;exact(q1 H).2.2.2 D)
    |(exfalso;have:=q1 D;have:=q3 H;omega)
    |(exfalso;have:=q1 H;have:=q3 D;omega)
    |(exfalso;have:=q2 D;have:=q3 H;omega)
    |(exfalso;have:=q2 H;have:=q3 D;omega)
    |(exfalso;have:=q1 D;omega)
    |(exfalso;have:=q1 H;omega)
    |(exfalso;have:=q2 D;omega)
    |(exfalso;have:=q2 H;omega)
    |(exfalso;have:=(q3 D).1;omega)
    |(exfalso;have:=(q3 H).1;omega)
    |(exfalso;exact(q3 D).2 _ j1 H)
    |(exfalso;exact(q3 H).2 _ i1 D)
    |(exfalso;have:=q1 D;have:=q4 _ j1;omega)
    |(exfalso;have:=q1 H;have:=q4 _ i1;omega)
    |(exfalso;have:=q2 D;have:=q4 _ j1;omega)
    |(exfalso;have:=q2 H;have:=q4 _ i1;omega)
    |(exfalso;have:=q4 _ j1;omega)
    |(exfalso;have:=q4 _ i1;omega)
    |(have:=wi i j i1 j1 (D.symm.trans H);omega)
  obtain⟨o,ho⟩:=label (λc h=>by rcases h with⟨a,_⟩|⟨a,_⟩|⟨a,_⟩|⟨a,_⟩|⟨a,_⟩|⟨j,_,a,_⟩<;>omega) u;have A:∀c,o c≠0→h4.size≤c∧c<g2.size:=λc hc=>by
   rcases(ho _ hc c).1 rfl with⟨_,e⟩|⟨_,e⟩|⟨_,e⟩|⟨_,e⟩|⟨_,e⟩|⟨j,j1,_,e⟩
   ·omega
   ·have:=cM c e;omega
   ·omega
   ·have:=nd c e;have:=a8 c e;omega
   ·have:=(WM.nw c e).1;have:=b4 c e;omega
   ·have:=(WM.ws j j1).2;have:=wl j j1;omega
  have ci:h4.size≤g2.size:=ae;have L:Ext h4 g2:=c0.then_fr e0 λc hc=>by have hc:c=bp:=hc;omega
  have E:=E4.trans L;obtain⟨C,hC⟩:∃C:C21,C=⟨0,0,0,0,bf,vf,bt,vt,pp,pq,.pointer none,bl,pp,pq,m,⟨s,tw,th⟩,0,bq⟩:=⟨_,rfl⟩
  have bk:du g2 bt vt (vO s.x.lines.length s.y.lines.length m.c m.most):=(It.ext e4).ext L;have I0:=I.lt;have Iv:∀c,blk vf c→c<h.size:=λc hc=>I.ltv hc
  have Tv:∀c,blk vt c→c<h3.size:=λc hc=>It.ltv hc
  have al:(vO s.x.lines.length s.y.lines.length m.c m.most).Wf:=EN fit;have ad:gR s.x.lines.length s.y.lines.length m.c:=al.fits;have hZ:∀c,(Z0 c∨c=bl)→c<g2.size∧c≠bt∧¬blk vt c:=λc hc=>by
   have h1:=au c;rcases hc with hc|hc
   ·have:=zl c hc;exact⟨ae,ae,λh=>by have:=h1 h;omega⟩
   ·exact⟨ae,ae,λh=>by have:=Tv c h;omega⟩
  have SU:BY (λc=>Z0 c∨c=bl) g2 C.bf C.vf C.bt C.vt C.p C.q C.m (vO s.x.lines.length s.y.lines.length m.c m.most) C.d.s:=by
   rw[hC];exact⟨I.ext E,bk,(by show bf≠bt;omega),(PL.x.ext L).mono λc _ hc=>.inl hc,(PL.y.ext L).mono λc _ hc=>.inl hc,⟨.inl zf.1,λc hc=>.inl (zf.2 c hc)⟩,λc hc=>(hZ c hc).2.2,λc hc=>(hZ c hc).2.1,λc hc=>(hZ c hc).1⟩
  have b6:uD (λc=>Z0 c∨c=bl) g2 C.bl C.d C.pp C.pq:=by
   rw[hC];exact⟨L.row PL.row,(PL.x.ext L).mono λc _ hc=>.inl hc,(PL.y.ext L).mono λc _ hc=>.inl hc⟩
  have CO:C.Ok:=by
   rw[hC];exact⟨W,⟨WS.wf,F.1,F.2⟩,WS⟩
  have SW:C.suits (vO s.x.lines.length s.y.lines.length m.c m.most):=by
   rw[hC];exact⟨al,ay,rfl,rfl,rfl,rfl⟩
  have eC:C.m=m∧C.d=⟨s,tw,th⟩∧C.bf=bf∧C.bq=bq∧C.bt=bt∧C.bl=bl∧C.vt=vt∧C.pp=C.p∧C.pq=C.q:=by rw[hC];exact⟨rfl,rfl,rfl,rfl,rfl,rfl,rfl,rfl,rfl⟩
  clear hC
  obtain⟨k1,k2,k3,k4,k5,k6,k7,k8,k9⟩:=eC;have bd:jM g2 (some C.E) (vO s.x.lines.length s.y.lines.length m.c m.most):=λE' hE=>by cases hE;exact⟨SU.out,al⟩
  have aa:∀c,h4.size≤c→¬(Z0 c∨c=bl)∧Az (some C.E) c∧¬eB (some C.E) c:=λc hc=>by
   refine⟨λh=>?_,?_,λh=>?_⟩
   ·rcases h with h|h
    ·have:=zl c h;omega
    ·omega
   ·show c≠C.bt;omega
   ·have h:blk C.vt c:=h;rw[k7]at h;have:=Tv c h;omega
  have ca:∀c,c≠bp→¬(λc=>c=bp) c:=λc h=>h
  have PB:aZ (λ_=>False) C (λc=>Z0 c∨c=bl) K h bw bp o (vO s.x.lines.length s.y.lines.length m.c m.most) ⟨pc.1,.slice none 0 0,wv,dv,.slice none 0 0,.slice none 0 0,.slice none 0 0⟩ (Gr K room) g2:=by
   refine⟨λ_=>?_,λ_=>?_,λ_=>⟨λ_=>False,Rp.Ow.nil,λc h=>h.elim,λc h=>h.elim⟩,λ_=>?_,λ_=>⟨?_,λc hc=>(ho 5 ae c).2 (.inr (.inr (.inr (.inl ⟨rfl,hc⟩))))⟩,λ_=>⟨λ_=>False,Rp.Ow.nil,λc h=>h.elim,λc h=>h.elim⟩,λ_=>⟨λ_=>False,Rp.Ow.nil,λc h=>h.elim,λc h=>h.elim⟩,λ_=>Rp.Sl.nil,λ_=>⟨WM.own.sl,λc hc=>(ho 9 ae c).2 (.inr (.inr (.inr (.inr (.inl ⟨rfl,hc⟩)))))⟩,λi hi _=>?_,(ho 4 ae bp).2 (.inr (.inr (.inl ⟨rfl,rfl⟩))),SU,b6,⟨.inr k6,k8,k9⟩,SW,λc hc=>⟨(A c hc).2,by have:=(A c hc).1;have:=E4.1;omega,aa c (A c hc).1⟩,E,U⟩
   ·rw[k4];exact(Qk.fr e0 λc hc h=>b5 (h.symm.trans hc)).bmono (λc hc=>(ho 1 ae c).2 (.inl ⟨rfl,hc⟩)) λc hc=>(A c (by rw[hc];omega)).2
   ·exact(Ck.fr e0 λc _ hc h=>an (by have h:c=bp:=h;rw[←h];exact hc)).bmono (λc hc=>(ho 2 ae c).2 (.inr (.inl ⟨rfl,hc⟩))) λc hc=>(A c (by rw[hc];omega)).2
   ·have:=WM.p;unfold jh;rw[k3,k5,k6,k4];exact this
   ·exact Dk.fr e0 λc hc h=>a9 (by have h:c=bp:=h;rw[←h];exact hc)
   ·have hw:=WM.ws i hi;have hn:=aa (bw i) ae;exact(IsW.new hw.1 hn.1 hn.2.1 hn.2.2 (λc hc=>(hZ c hc).1) bd).bmono (λc hc=>(ho (10+i) ae c).2 (.inr (.inr (.inr (.inr (.inr ⟨i,hi,rfl,hc⟩)))))) (λc hc=>(A c (by rw[hc];omega)).2) λc hc=>aa c (A c (by rw[hc];omega)).1
  have HP:eF C (λc=>Z0 c∨c=bl) K h bw bp o _ (Gr K room) g2:=⟨_,PB⟩
  -- the two notes
  have c1:=dB W.fits;have cu:=dB ad;have m1:1≤m.w*m.h*m.c:=vv (vv ae ae) ae;have m2:1≤(s.x.lines.length:Int)*s.y.lines.length*m.c:=vv (vv ae ae) ae;refine ag.at (HI (I.ext E) W.fits) ?_;refine(HN HP (who:=0) ae (by show 0≤1000000;omega) (gj 0) (gj 0) m1 ae).mono λr g3 ⟨_,o3,H3,q3,f3⟩=>?_
  have B3:=H3;obtain⟨V3,B3⟩:=B3;have ax:=B3.set.out;rw[k5,k7]at ax;refine ag.at (HI ax ad) ?_;refine(HN H3 (who:=0) ae (by show 1≤1000000;omega) ae (gj 0) m2 ae).mono λr g4 ⟨_,o4,H4,q4,f4⟩=>?_
  refine fin ⟨bp,C,λc=>Z0 c∨c=bl,bw,o4,rfl,k1,k2,k3,CO,H4,λc hc=>?_,?_,λc hc=>?_,λc hc=>hc.elim .inl λh=>.inr ae,ae⟩
  ·have hc:blk C.vt c:=hc;rw[k7]at hc;have:=au c hc;omega
  ·obtain⟨V4,B4⟩:=H4;exact B4.ext
  ·obtain⟨V4,B4⟩:=H4;exact(B4.ow c hc).2.1
 ·have er:=b3 F;subst er;simp only[x0,x1,ah];have b7:ak .i .neq (af 9) aj=some (.bool true):=rfl;rw[b7,ah,fK];exact⟨λ_=>⟨trivial,E4⟩,λh=>absurd h F,λh=>absurd h F⟩
section
section
variable {C:C21}{Z:Nat→Prop}{K:Nat}{h0 h:ai}{bw:Nat→Nat}{bp:Nat}{o:Nat→Nat}{n:Pic}{P:bS}
theorem Mk (O:C.Ok)(H:eF C Z K h0 bw bp o n P h){N:Nat}(hN:(N:Int)=bN C.d)(a7:N≤4096)(hs:gI C N 0≤1000000000):
  ag prog lM #[ptr bp] h λr h'=>r=af ((2*N+K+2+gI C N 0:Nat):Int)∧Ext h h':=by
 have HP:=H;obtain⟨V,H,row⟩:=H.row;apply GY;unfold wQ;have hK:=H.few;have c2:aE h ⟨bp,2,none⟩=some (ptr C.bl):=ao row;have c6:aE h ⟨bp,6,none⟩=some V.wv:=ao row;have D:=SlC.len (H.wk id).1;refine aQ (λk=>k=h) rfl ?_;simp only[go_sem,aO];refine aF (ptr C.bl) (λk e=>by rw[e];exact c2) ?_
 try simp only[go_sem,aO]
 refine aF V.wv (λk e=>by rw[e];exact c6) ?_;refine aF (af (K:Int)) (λ_ _=>D) ?_;refine ag.at (ET H.pl O.d) ⟨rfl,?_⟩;rw[←hN];simp only[go_sem];rw[w64 (n:=2*(N:Int)) ae ae,w64 (n:=2*(N:Int)+K) ae ae,w64 (n:=2*(N:Int)+K+2) ae ae,c2,ah];refine(zbk H.pl O.d hN ae).mono λav g3 NA=>?_
 obtain⟨aa,ca,ea⟩:=NA.sl.isSl;have I:(dA C.d N).length=N:=by simp[dA]
 have U:aD av=some (af (N:Int)):=by rw[ea];show some (af ((dA C.d N).length:Int))=_;rw[I]
 rw[U,ah];refine bO (α:=Unit) N 0 (λi _=>[af (2*(N:Int)+K+2+(gI C i 0:Nat)),af (i:Int)]) (λi _ g=>Ext g3 g) () (by simp[gI]) (bZ _) (Ext.refl _) λi _ g4 again ρ _ hi L ar=>?_
 simp only[iq,vN];have E4:=NA.2.1.trans L;have H4:=H.ex E4;rw[cI,ah];refine aq (λg1=>?_) (λg1=>?_)
 ·have al:i<N:=ae;obtain⟨pt,A,q1,q2,G⟩:=(NA.sl.ext L).atw (show 0<10 by omega) (k:=.i64) (i:=i) ae;have q1:bh 10 av (af (i:Int))=some pt:=q1;have q2:aM 10 g4 pt=some (.agg A.toArray):=q2;have G:A=dO (dA C.d N)[i]:=G;have q4:(dA C.d N)[i]=aS C.d i:=by simp[dA]
  rw[q4]at G;subst G;rw[q1,ah,q2,ah];refine cX (cs:=dO (aS C.d i)) rfl (kT _) rfl λb5 g5 r5 e5 n5=>?_
  have W:=H4.ex e5;have F:=W.p id;refine aQ (Ext g5) (Ext.refl _) ?_
  try simp only[go_sem,aO]
  refine aF (ptr C.bl) (λk e=>ao (e.row F)) ?_;refine aF (.agg (dO (aS C.d i)).toArray) (λk e=>aL (e.row r5) 10 rfl) ?_;refine(UY W.pl).mono λr g6 ⟨er,D⟩=>?_
  subst er;refine⟨D,?_⟩;have H6:=W.ex D;rw[H.zl.2.1,H.zl.2.2];refine ag.to (zeF C.m H6.set.tx H6.set.ty O.s) λg7 e7=>?_
  rw[aB (iF O.d ae ae)];have ad:Au C.d.s (aS C.d i) C.m=lR C i:=rfl;rw[ad];have ay:gI C (i+1) 0=gI C i 0+lR C i:=by
   rw[Cj C i 1 0,aO];show _+(lR C i+0)=_;omega
  have ax:gI C N 0=gI C (i+1) 0+gI C (N-(i+1)) (0+(i+1)):=by rw[←Cj];congr 1;omega
  have an:2*(N:Int)+K+2+(gI C i 0:Nat)+(lR C i:Int)=2*(N:Int)+K+2+(gI C (i+1) 0:Nat):=ae;have au:(i:Int)+1=((i+1:Nat):Int):=ae
  try simp only[go_sem]
  rw[an,w64 (n:=2*(N:Int)+K+2+(gI C (i+1) 0:Nat)) ae ae,w64 (n:=(i:Int)+1) ae ae,au];exact ar () g7 al (L.trans (e5.trans (D.trans e7)))
 ·have am:i=N:=ae;subst am;refine⟨?_,E4⟩
  congr 1
end
end
end Go.Proofs.YtjljhnandbbldaaGreatDoor
namespace Go.Proofs.YtjljhnandbbldaaGreatDoor
open Go Go.Crisp
attribute [local irreducible] ag cO aT stK aG vK qK bL gK eM bC mkK cR HA JA Ep bsK clK vu pP Zb
section
def BW (a b:Nat):List Int:=(List.range' a (b-a)).map λi:Nat=>(i:Int)
theorem zaI {a b:Nat}(h:a≤b):BW a (b+1)=BW a b++[(b:Int)]:=by
 unfold BW;rw[show b+1-a=(b-a)+1 by omega,List.range'_concat,jW]
 congr 1
 simp;omega
theorem V0 {a b:Nat}(h:a<b):BW a b=(a:Int)::BW (a+1) b:=by
 unfold BW;rw[show b-a=(b-(a+1))+1 by omega,List.range'_succ];rfl
theorem Sd {a b:Nat}:BW a b=[]↔b≤a:=by
 unfold BW;simp;omega
def xK (K:Nat)(f:Nat→Nat):Nat:=((List.range K).map f).sum
theorem wm (K:Nat)(f:Nat→Nat):xK (K+1) f=xK K f+f K:=by simp[xK,rK]
theorem KI {K:Nat}{f g:Nat→Nat}(h:∀i,i<K→f i=g i):xK K f=xK K g:=by
 unfold xK
 congr 1
 exact EL λi hi=>h i (uA.1 hi)
theorem zbM {f g:Nat→Nat}{k:Nat}(h:∀i,i≠k→g i=f i):∀K,k<K→xK K g+f k=xK K f+g k:=by
 intro K;induction K with
 |zero=>intro D;omega
 | succ K A=>
  intro D;rw[wm,wm];by_cases e:k=K
  ·subst e;rw[KI (f:=g) (g:=f) λi hi=>h i ae];omega
  ·have:=A ae;rw[h K ae];omega
def kR (w:WD):Nat:=if w.state=2 then 1 else 0
theorem UL (K:Nat)(ws:Nat→WD):xK K (λk=>kR (ws k))≤K:=by
 induction K with
 |zero=>exact ck _
 |succ K A=>rw[wm];unfold kR at A ⊢;split<;>omega
theorem zcp {K:Nat}{ws:Nat→WD}(h:xK K (λk=>kR (ws k))=K):∀k,k<K→(ws k).state=2:=by
 induction K with
 |zero=>intro k D;omega
 | succ K A=>
  rw[wm]at h;have h1:=UL K ws;have F:kR (ws K)≤1:=by unfold kR;split<;>omega
  intro k D;by_cases e:k=K
  ·subst e;have:kR (ws k)=1:=ae;unfold kR at this;split at this
   ·assumption
   ·omega
  ·exact A ae k ae
def rT (C:C21)(w:WD)(n:Pic):Prop:=
 ∀x y c,inP n x y c→∀i∈w.tiles,PE (aS C.d i) x y→(∀t yy e,w.job=some (t,yy,e)→i=w.tiles.getLast?.getD 0→y<yy)→atP n x y c=yQ C.m C.d.s x y c
structure lI (C:C21)(K N tk:Nat)(P:bS)(n:Pic):Prop where
 ok:mU C K P
 nn:(N:Int)=bN C.d
 sn:(tk:Int)≤P.sent
 ql:P.q.l=BW tk P.sent.toNat
 rm:1≤P.q.room
 cov:∀x:Nat,x<tk→∃k,k<K∧(x:Int)∈(P.ws k).tiles
 gone:∀k,k<K→(P.ws k).state=2→P.q.l=[]∧P.q.closed=true
 cnt:P.left.length=xK K λk=>kR (P.ws k)
 rt:P.ret=true→P.q.closed=true∧P.left.length=K
 rem:P.picks+((N-P.sent.toNat)+(if P.q.closed=true then 0 else 1)+(if P.ret=true then 0 else 1)+(N-tk)+gI C (N-tk) tk+xK K (λk=>muJ C.E (P.ws k).job)+(K-P.left.length):Nat)=(2*N+K+2+gI C N 0:Nat)
 paint:∀k,k<K→rT C (P.ws k) n
theorem U9 (C:C21)(K:Nat)(P:bS)(k:Nat):(iH C K P k).q=(dk C P k).q∧(iH C K P k).ws=(dk C P k).ws∧(iH C K P k).words=(dk C P k).words∧(iH C K P k).sent=P.sent∧(iH C K P k).ret=P.ret∧(iH C K P k).picks=P.picks∧(iH C K P k).left.length=P.left.length+if(evP C P k).1=3 then 1 else 0:=by
 unfold iH;split
 ·rename_i h;rw[h];exact⟨rfl,rfl,rfl,rfl,rfl,rfl,rfl⟩
 ·split
  ·rename_i h1 A;rw[aA ae];unfold pM;split<;>exact⟨rfl,rfl,rfl,rfl,rfl,rfl,rfl⟩
  ·split
   ·refine⟨rfl,rfl,rfl,rfl,rfl,rfl,?_⟩;show(P.left++[_]).length=_;simp
   ·exact⟨rfl,rfl,rfl,rfl,rfl,rfl,rfl⟩
section
variable {C:C21}{K N tk:Nat}{P:bS}{n n':Pic}
theorem zci (H:lI C K N tk P n)(h1:fB C K P 0=true):lI C K N tk (io C K P 0) n:=by
 have A:=Y8 H.ok 0;have hs:=H.ok.sent;have hn:=H.nn;have aa:=H.sn;have G:=H.rem;have D:P.ret=false:=by
  unfold fB at h1;rw[aA ae,aA ae]at h1;split at h1
  ·cases h1
  ·rename_i h;simpa using h
 rw[D]at G;have I:(if P.sent<bN C.d then decide (kO P.q≠1)else !P.q.closed||decide (P.left.length=K))=true:=by
  unfold fB at h1;rw[aA ae,aA ae,D]at h1;simpa using h1
 have e:io C K P 0=Ds C K {P with picks:=P.picks+1}:=by
  unfold io;rw[h1,aA (by simp),aB rfl]
 rw[e]at A ⊢;unfold Ds at A ⊢;by_cases g:P.sent<bN C.d
 ·have hc:P.q.closed=false:=by
   cases h:P.q.closed with
   |false=>rfl
   |true=>have:=H.ok.cl h;omega
  rw[aB g]at A I ⊢;have F:kO P.q≠1:=by simpa using I
  have hq:iL P.q P.sent={P.q with l:=P.q.l++[P.sent]}:=by
   unfold kO at F;unfold iL;rw[hc]at F ⊢;simp only[ig,cS]at F ⊢;split at F
   ·exact absurd rfl F
   ·rename_i h;rw[aA h];simp[hc]
  have L:(P.sent+1).toNat=P.sent.toNat+1:=ae;have W:((P.sent.toNat:Nat):Int)=P.sent:=ae;refine⟨A,H.nn,by show(tk:Int)≤P.sent+1;omega,?_,?_,H.cov,λk U h=>?_,H.cnt,λh=>?_,?_,H.paint⟩
  ·show(iL P.q P.sent).l=BW tk (P.sent+1).toNat;rw[hq,L,zaI ae,←H.ql,W]
  ·show 1≤(iL P.q P.sent).room;rw[hq];exact H.rm
  ·have:=(H.gone k U h).2;rw[hc]at this;cases this
  ·have h:P.ret=true:=h;rw[D]at h;cases h
  ·show P.picks+1+((N-(P.sent+1).toNat)+(if(iL P.q P.sent).closed=true then 0 else 1)+(if P.ret=true then 0 else 1)+(N-tk)+gI C (N-tk) tk+xK K (λk=>muJ C.E (P.ws k).job)+(K-P.left.length):Nat)=(2*N+K+2+gI C N 0:Nat);rw[hq,D,hc];rw[hc]at G;simp only[ig,cS]at G ⊢;omega
 ·rw[aA g]at A I ⊢;cases hc:P.q.closed with
  | false=>
   rw[hc]at A G;rw[aB rfl]at A ⊢;refine⟨A,H.nn,H.sn,H.ql,H.rm,H.cov,λk U h=>?_,H.cnt,λh=>?_,?_,H.paint⟩
   ·have:=(H.gone k U h).2;rw[hc]at this;cases this
   ·have h:P.ret=true:=h;rw[D]at h;cases h
   ·show P.picks+1+((N-P.sent.toNat)+(if true=true then 0 else 1)+(if P.ret=true then 0 else 1)+(N-tk)+gI C (N-tk) tk+xK K (λk=>muJ C.E (P.ws k).job)+(K-P.left.length):Nat)=(2*N+K+2+gI C N 0:Nat);rw[D];simp only[ig,cS,cV]at G ⊢;omega
  |true=>
   rw[hc]at A G I;rw[aA (by simp)]at A ⊢;have hl:P.left.length=K:=by simpa using I
   refine⟨A,H.nn,H.sn,H.ql,H.rm,H.cov,H.gone,H.cnt,λ_=>⟨hc,hl⟩,?_,H.paint⟩;show P.picks+1+((N-P.sent.toNat)+(if P.q.closed=true then 0 else 1)+(if true=true then 0 else 1)+(N-tk)+gI C (N-tk) tk+xK K (λk=>muJ C.E (P.ws k).job)+(K-P.left.length):Nat)=(2*N+K+2+gI C N 0:Nat);rw[hc];simp only[ig,cS,cV]at G ⊢;omega
theorem rT.keep {w:WD}(H:rT C w n)(D:fj n n')(k:∀x y c,inP n x y c→atP n x y c=yQ C.m C.d.s x y c→atP n' x y c=yQ C.m C.d.s x y c):rT C w n':=
 λx y c hi i h1 A F=>k x y c (D.inP.1 hi) (H x y c (D.inP.1 hi) i h1 A F)
theorem Sy {w:WD}(D:Ef (some C.E) w n n'):∀x y c,inP n x y c→atP n x y c=yQ C.m C.d.s x y c→atP n' x y c=yQ C.m C.d.s x y c:=by
 intro x y c hi h;obtain⟨I,A⟩:=D;cases G:w.job with
 |none=>rw[G]at A;rw[A];exact h
 | some j=>
  obtain⟨t,H,e⟩:=j;rw[G]at A;obtain⟨_,_,d1,d2⟩:=A;by_cases F:bP (C.E.d t) H e=2
  ·rw[d2 F x y c hi];split
   ·rfl
   ·exact h
  ·rw[d1 F];exact h
theorem rT.move (O:C.Ok){w:WD}{t:dc}{y e:Int}(hj:w.job=some (t,y,e))(h0:0≤w.tiles.getLast?.getD 0)(h1:w.tiles.getLast?.getD 0<bN C.d)(ht:t=aS C.d (w.tiles.getLast?.getD 0))(su:C.suits n)(H:rT C w n)(D:Ef (some C.E) w n n'){w':WD}(al:w'.tiles=w.tiles)(ad:w'.job=cE (some C.E) (some (t,eJ (C.E.d t) y e,fV (C.E.d t) y e))):rT C w' n':=by
 have W:=Sy D;obtain⟨D1,D2⟩:=D;rw[hj]at D2;obtain⟨O1,O2,d1,d2⟩:=D2;have hr:=(C21.newC O su h0 h1)
 have RO:=O.s.room (m:=C.m) (n:=n) (t:=t) O.m (by rw[ht];exact hr);intro U L c' hi i aa F hl;rw[al]at aa hl;rw[ad]at hl;have A:inP n U L c':=D1.inP.1 hi;by_cases I:i=w.tiles.getLast?.getD 0
 ·rw [I,←ht]at F;have hy:L<eJ (C.E.d t) y e:=by
   by_cases h0:bP (C.E.d t) (eJ (C.E.d t) y e) (fV (C.E.d t) y e)=0
   ·unfold bP at h0;split at h0
    ·rename_i h1;have h1:t.y+t.h≤eJ (C.E.d t) y e:=h1;unfold PE at F;omega
    ·split at h0<;>omega
   ·exact hl t _ _ (aA h0) I
  rcases oA L y with h2|h2
  ·exact W U L c' A (H U L c' A i aa (by rw[I,←ht];exact F) λt2 yy e2 h3 _=>by rw[hj]at h3;cases h3;exact h2)
  ·have hK:bP (C.E.d t) y e=2:=by
    unfold eJ at hy;split at hy
    ·assumption
    ·omega
   have hY:eJ (C.E.d t) y e=y+1:=aB hK;have ey:L=y:=ae;rw[d2 hK U L c' A,aB];refine⟨ey,F.1,F.2.1,?_⟩;have G:=RO.wid;have G:(gH (t.w*C.m.c):Int)=t.w*C.m.c:=G;rw[G];show(U-t.x)*C.m.c+c'<t.w*C.m.c;have hc:c'<C.m.c:=by have:=A.2.2.2.2.2;rw[←su.2.2.2.2.1];exact this
   have hx:=F.2.1;have:(U-t.x+1)*C.m.c≤t.w*C.m.c:=uu ae (by have:=A.2.2.2.2.1;omega);rw[jX,kZ]at this;omega
 ·exact W U L c' A (H U L c' A i aa F λt2 yy e2 _ h3=>absurd h3 I)
theorem rT.take (O:C.Ok){w:WD}{x:Int}(h0:0≤x)(h1:x<bN C.d)(hj:w.job=none)(H:rT C w n){w':WD}(U:w'.tiles=w.tiles++[x])(I:w'.job=cE (some C.E) (C.jo x)):rT C w' n:=by
 intro x' y' c' hi i D F G;rw[U]at D G;rw[I]at G;by_cases A:i=x
 ·subst A;have hw:=iF O.d h0 h1;have L:bP (C.E.d (aS C.d i)) (aS C.d i).y (lnF C.d.s.y (aS C.d i).y)≠0:=by
   unfold bP;rw[aA (by show¬(aS C.d i).y+(aS C.d i).h≤(aS C.d i).y;unfold eI at hw;omega)];split<;>omega
  have hs:cE (some C.E) (C.jo i)=C.jo i:=aA L;rw[hs]at G;have:=G _ _ _ rfl (by simp);unfold PE at F;omega
 ·rcases gP.1 D with h|h
  ·exact H x' y' c' hi i h F λt yy e W _=>by rw[hj]at W;cases W
  ·exact absurd (ia.1 h) A
end
end
section
section
variable {C:C21}{K N tk:Nat}{P:bS}{n n':Pic}
theorem zbN (K:Nat):xK K (λ_=>1)=K:=by
 induction K with
 |zero=>rfl
 |succ K A=>rw[wm,A]
theorem NF (K:Nat):xK K (λ_=>0)=0:=by
 induction K with
 |zero=>rfl
 |succ K A=>rw[wm,A]
theorem zbG (O:C.Ok)(H:lI C K N tk P n){k:Nat}(hk:k<K)(h1:fB C K P ((k:Int)+1)=true)(bd:∀t y e,(P.ws k).job=some (t,y,e)→e≤lnE C.d.s.y y)(su:C.suits n)(D:Ef (some C.E) (P.ws k) n n'):∃bg,lI C K N bg (io C K P ((k:Int)+1)) n':=by
 have am:=Y8 H.ok ((k:Int)+1);have ek:((k:Int)+1-1).toNat=k:=ae;have ax:io C K P ((k:Int)+1)=iH C K {P with picks:=P.picks+1} k:=by
  unfold io;rw[h1,aA (by simp),aA ae,ek]
 rw[ax]at am ⊢
 clear ax
 obtain⟨f1,f2,f3,f4,f5,f6,f7⟩:=U9 C K {P with picks:=P.picks+1} k;generalize iH C K {P with picks:=P.picks+1} k=Q at am f1 f2 f3 f4 f5 f6 f7 ⊢;have f4:Q.sent=P.sent:=f4;have f5:Q.ret=P.ret:=f5;have f6:Q.picks=P.picks+1:=f6;have f1:Q.q=(cD (some C.E) (C.jo (bi P.q)) (P.ws k) P.q).2.1:=f1;have f2:Q.ws=λi=>if i=k then(cD (some C.E) (C.jo (bi P.q)) (P.ws k) P.q).1 else P.ws i:=f2
 have f7:Q.left.length=P.left.length+if(cD (some C.E) (C.jo (bi P.q)) (P.ws k) P.q).2.2.1=3 then 1 else 0:=f7
 have hs:=H.ok.sent;have hn:=H.nn;have au:=H.sn;have hr:=H.rem;have Wk:=H.ok.w k hk;have a8:(P.ws k).state=1∨((P.ws k).state=0∧bX P.q≠1):=by
  unfold fB at h1;split at h1
  ·cases h1
  ·rw[aB ae,ek]at h1;simpa using h1
 have U:∀(f:WD→Nat),xK K (λi=>f (Q.ws i))+f (P.ws k)=xK K (λi=>f (P.ws i))+f (cD (some C.E) (C.jo (bi P.q)) (P.ws k) P.q).1:=λf=>by
  have:=zbM (f:=λi=>f (P.ws i)) (g:=λi=>f (Q.ws i)) (k:=k) (λi hi=>by rw[f2];simp only[aA hi]) K hk;rw[f2]at this ⊢;simp only[cV]at this;exact this
 have F:∀j,j<K→j≠k→Q.ws j=P.ws j:=λj _ h=>by rw[f2];simp only[aA h]
 have A:Q.ws k=(cD (some C.E) (C.jo (bi P.q)) (P.ws k) P.q).1:=by rw[f2];simp only[cV]
 have a7:=Sy D;have pO:∀j,j<K→j≠k→rT C (Q.ws j) n':=λj hj h=>by rw[F j hj h];exact(H.paint j hj).keep D.1 a7
 rcases Wk.st with⟨s1,s2,s3⟩|⟨s1,s2⟩
 ·-- it moves
  cases hj:(P.ws k).job with
  |none=>rw[hj]at s2;exact(show False from s2).elim
  | some jj=>
   obtain⟨t,y,e⟩:=jj;rw[hj]at s2;have s2:bP (C.E.d t) y e≠0:=s2;have es:cD (some C.E) (C.jo (bi P.q)) (P.ws k) P.q=(⟨stJ (cE (some C.E) (some (t,eJ (C.E.d t) y e,fV (C.E.d t) y e))),(P.ws k).tiles,cE (some C.E) (some (t,eJ (C.E.d t) y e,fV (C.E.d t) y e)),(P.ws k).words⟩,P.q,(2,(P.ws k).tiles.getLast?.getD 0,bP (C.E.d t) y e,eT (C.E.d t) y e)):=by
    unfold cD;rw[aB s1,hj]
   rw[es]at f1 f7 A U;have f1:Q.q=P.q:=f1;have f7:Q.left.length=P.left.length:=by rw[f7];simp
   have hl:=Wk.tl _ (Pu s3);obtain⟨j1,j2⟩:=Wk.jb t y e hj;have al:=U λw=>muJ C.E w.job
   have ad:=U kR;have g0:kR (P.ws k)=0:=by unfold kR;rw[aA ae]
   have gs:∀jo,kR ⟨stJ jo,(P.ws k).tiles,jo,(P.ws k).words⟩=0:=λjo=>by unfold kR;rw[aA];cases jo with|none=>exact(by decide:¬(0:Int)=2)|some x=>exact(by decide:¬(1:Int)=2)
   simp only[Se,hj]at al;have b1:muJ C.E (some (t,y,e))=rj (C.E.d t) y e:=rfl;have b2:=zaQ (d:=C.E.d t) s2 (bd t y e hj);simp only[gs,g0]at ad;refine⟨tk,am,H.nn,by rw[f4];exact au,by rw[f1,f4];exact H.ql,by rw[f1];exact H.rm,λx hx=>?_,λj G h=>?_,by rw[f7,H.cnt];omega,λh=>by rw[f5]at h;rw[f1,f7];exact H.rt h,?_,λj G=>?_⟩
   ·obtain⟨j,aa,W⟩:=H.cov x hx;refine⟨j,aa,?_⟩;by_cases I:j=k
    ·subst I;rw[A];exact W
    ·rw[F j aa I];exact W
   ·rw[f1];by_cases I:j=k
    ·subst I;rw[A]at h;have:=gs (cE (some C.E) (some (t,eJ (C.E.d t) y e,fV (C.E.d t) y e)));unfold kR at this;rw[aB h]at this;omega
    ·rw[F j G I]at h;exact H.gone j G h
   ·rw[f1,f4,f5,f6,f7];omega
   ·by_cases e':j=k
    ·subst e';exact rT.move O hj hl.1 ae j1 su (H.paint j G) D (by rw[A]) (by rw[A])
    ·exact pO j G e'
 ·have s0:(P.ws k).state=0∧bX P.q≠1:=by
   rcases a8 with h|h
   ·omega
   ·exact h
  have bk:n'=n:=by
   obtain⟨_,D2⟩:=D;rw[s2]at D2;exact D2
  subst bk;have g0:kR (P.ws k)=0:=by unfold kR;rw[aA ae]
  have m0:muJ C.E (P.ws k).job=0:=by rw[s2];rfl
  by_cases L:bX P.q=0
  ·-- it tg a tile
   have ar:P.q.l≠[]:=λh=>by unfold bX at L;rw[aB h]at L;split at L<;>omega
   have ay:tk<P.sent.toNat:=by
    rw[H.ql]at ar;exact Nat.lt_of_not_le λh=>ar (Sd.2 h)
   have hx:bi P.q=(tk:Int):=by unfold bi;rw[H.ql,V0 ay];rfl
   have es:cD (some C.E) (C.jo (bi P.q)) (P.ws k) P.q=(BA (some C.E) (P.ws k) (bi P.q) (C.jo (bi P.q)),iM P.q,(1,bi P.q,0,0)):=by
    unfold cD;rw[aA ae,aA ae,aB L]
   rw[es]at f1 f7 A U;have f1:Q.q=iM P.q:=f1;have f7:Q.left.length=P.left.length:=by rw[f7];simp
   have bo:(iM P.q).l=BW (tk+1) P.sent.toNat:=by
    unfold iM;show P.q.l.tail=_;rw[H.ql,V0 ay];rfl
   have ad:=U kR;have al:=U λw=>muJ C.E w.job
   have gs:∀jo wd tl,kR ⟨stJ jo,tl,jo,wd⟩=0:=λjo wd tl=>by unfold kR;rw[aA];cases jo with|none=>exact(by decide:¬(0:Int)=2)|some x=>exact(by decide:¬(1:Int)=2)
   have g1:kR (BA (some C.E) (P.ws k) (bi P.q) (C.jo (bi P.q)))=0:=gs _ _ _;have m1:muJ C.E (BA (some C.E) (P.ws k) (bi P.q) (C.jo (bi P.q))).job=lR C tk:=by
    rw[hx];show muJ C.E (cE (some C.E) (some ((aS C.d tk),(aS C.d tk).y,lnF C.d.s.y (aS C.d tk).y)))=_;rw[Se];rfl
   have b5:gI C (N-tk) tk=lR C tk+gI C (N-(tk+1)) (tk+1):=by
    rw[show N-tk=(N-(tk+1))+1 by omega];rfl
   have a9:(BA (some C.E) (P.ws k) (bi P.q) (C.jo (bi P.q))).tiles=(P.ws k).tiles++[bi P.q]:=rfl;simp only[m0,m1]at al;simp only[g0,g1]at ad;refine⟨tk+1,am,H.nn,by rw[f4];omega,by rw[f1,f4];exact bo,by rw[f1];exact H.rm,λx b4=>?_,λj G h=>?_,by rw[f7,H.cnt];omega,λh=>by rw[f5]at h;rw[f1,f7];exact H.rt h,?_,λj G=>?_⟩
   ·by_cases ex:x=tk
    ·refine⟨k,hk,?_⟩;rw[A,a9,hx,ex];simp
    ·obtain⟨j,aa,W⟩:=H.cov x ae;refine⟨j,aa,?_⟩;by_cases I:j=k
     ·subst I;rw[A,a9];exact MX _ W
     ·rw[F j aa I];exact W
   ·by_cases I:j=k
    ·subst I;rw[A]at h;unfold kR at g1;rw[aB h]at g1;omega
    ·rw[F j G I]at h;exact absurd (H.gone j G h).1 ar
   ·rw[f1,f4,f5,f6,f7];have be:(iM P.q).closed=P.q.closed:=rfl;rw[be];omega
   ·by_cases e':j=k
    ·subst e';exact rT.take O (x:=bi P.q) (by rw[hx];omega) (by rw[hx];omega) s2 (H.paint j G) (by rw[A];rfl) (by rw[A];rfl)
    ·exact pO j G e'
  ·-- it leaves
   have an:bX P.q=2:=by
    have:=s0.2;unfold bX at this L ⊢;split
    ·rename_i h;rw[aB h]at this L;split<;>simp_all
    ·rename_i h;rw[aA h]at L;exact absurd rfl L
   have hq:P.q.l=[]∧P.q.closed=true:=by
    unfold bX at an;split at an
    ·rename_i h;refine⟨h,?_⟩;split at an
     ·assumption
     ·omega
    ·omega
   have bv:iM P.q=P.q:=by
    unfold iM;rw[hq.1];cases h:P.q;rw[h]at hq
    simp_all
   have es:cD (some C.E) (C.jo (bi P.q)) (P.ws k) P.q=({P.ws k with state:=2},iM P.q,(3,0,0,0)):=by
    unfold cD;rw[aA ae,aA ae,aA L,aB an]
   rw[es]at f1 f7 A U;have f1:Q.q=P.q:=by rw[f1];exact bv
   have f7:Q.left.length=P.left.length+1:=by rw[f7];simp
   have ad:=U kR;have al:=U λw=>muJ C.E w.job
   have g1:kR {P.ws k with state:=2}=1:=rfl;have gl:=UL K Q.ws;simp only[m0,s2]at al;simp only[g0,g1]at ad;have b3:muJ C.E none=0:=rfl;have b0:=H.cnt;refine⟨tk,am,H.nn,by rw[f4];exact au,by rw[f1,f4];exact H.ql,by rw[f1];exact H.rm,λx hx=>?_,λj G h=>by rw[f1];exact hq,by rw[f7,H.cnt];omega,λh=>?_,?_,λj G=>?_⟩
   ·obtain⟨j,aa,W⟩:=H.cov x hx;refine⟨j,aa,?_⟩;by_cases I:j=k
    ·subst I;rw[A];exact W
    ·rw[F j aa I];exact W
   ·rw[f5]at h;have:=(H.rt h).2;have:=UL K P.ws;omega
   ·rw[f1,f4,f5,f6,f7];omega
   ·by_cases e':j=k
    ·subst e';have hp:=H.paint j G;rw[A];exact hp
    ·exact pO j G e'
theorem zb5 (O:C.Ok)(H:lI C K N tk P n){i:Int}(F:∀k,k<K→∀t y e,(P.ws k).job=some (t,y,e)→e≤lnE C.d.s.y y)(su:C.suits n)(D:zan C K P i n n'):∃G,lI C K N G (io C K P i) n':=by
 unfold zan at D;by_cases A:fB C K P i=true
 ·by_cases h0:i=0
  ·rw[aA (λh=>h.2 h0)]at D;subst h0 D;exact⟨tk,zci H A⟩
  ·rw[aB ⟨A,h0⟩]at D;have hi:0<i∧i≤K:=by
    unfold fB at A;split at A
    ·cases A
    ·omega
   obtain⟨k,rfl⟩:∃k:Nat,i=(k:Int)+1:=⟨(i-1).toNat,ae⟩
   rw[show((k:Int)+1-1).toNat=k by omega]at D;exact zbG O H ae A (F k ae) su D
 ·rw[aA (λh=>A h.1)]at D;subst D;refine⟨tk,?_⟩;have:io C K P i=P:=by unfold io;rw[aB (by simpa using A)]
  rw[this];exact H
theorem zbP (H:lI C K N tk P n)(hK:1≤K)(W:P.ret=false):∃i:Nat,i≤K∧fB C K P (i:Int)=true:=by
 have hs:=H.ok.sent;have wk:∀k,k<K→((P.ws k).state=1∨((P.ws k).state=0∧bX P.q≠1))→∃i:Nat,i≤K∧fB C K P (i:Int)=true:=λk A h=>by
  refine⟨k+1,ae,?_⟩;unfold fB;rw[aA ae,aB ae,show(((k+1:Nat):Int)-1).toNat=k by omega];exact cH h
 have L:(if P.sent<bN C.d then decide (kO P.q≠1)else !P.q.closed||decide (P.left.length=K))=true→∃i:Nat,i≤K∧fB C K P (i:Int)=true:=λh=>by
  refine⟨0,ae,?_⟩;unfold fB;rw[aA ae,aA ae,aA (by rw[W];simp)];exact h
 by_cases g:P.sent<bN C.d
 ·by_cases F:kO P.q=1
  ·have D:P.q.l≠[]:=λh=>by
    unfold kO at F;split at F
    ·omega
    ·split at F
     ·rename_i hh;rw[h]at hh;have:=H.rm;simp only[lX]at hh;omega
     ·omega
   have aa:bX P.q=0:=aA D;rcases(H.ok.w 0 ae).st with h|⟨h|h,_⟩
   ·exact wk 0 ae (.inl h.1)
   ·exact wk 0 ae (.inr ⟨h,ae⟩)
   ·exact absurd (H.gone 0 ae h).1 D
  ·exact L (by rw[aB g];exact cH F)
 ·cases hc:P.q.closed with
  |false=>exact L (by rw[aA g,hc];rfl)
  | true=>
   by_cases U:P.left.length=K
   ·exact L (by rw[aA g,hc];simpa using U)
   ·have:∃k,k<K∧(P.ws k).state≠2:=TZ λh=>U (by
     rw[H.cnt];have:∀k,k<K→kR (P.ws k)=1:=λk A=>by
      unfold kR;rw[aB (TZ λI=>h ⟨k,A,I⟩)]
     rw[KI (g:=λ_=>1) this,zbN])
    obtain⟨k,A,I⟩:=this;have G:bX P.q≠1:=by
     unfold bX;rw[hc];split<;>simp
    rcases(H.ok.w k A).st with h|⟨h|h,_⟩
    ·exact wk k A (.inl h.1)
    ·exact wk k A (.inr ⟨h,G⟩)
    ·exact absurd h I
theorem ZL (O:C.Ok)(H:lI C K N tk P n)(su:C.suits n)(hK:1≤K)(U:P.ret=true):n.l=(DP C.m C.d.s).l∧P.picks=(2*N+K+2+gI C N 0:Nat)∧tk=N:=by
 obtain⟨h1,h2⟩:=H.rt U;have hs:=H.ok.cl h1;have W:=H.cnt;have D:=zcp (K:=K) (ws:=P.ws) ae;have hn:=H.nn;have A:=H.rem;have F:∀k,k<K→(P.ws k).job=none:=λk G=>by
  rcases(H.ok.w k G).st with h|h
  ·have:=D k G;omega
  ·exact h.2
 have L:xK K (λk=>muJ C.E (P.ws k).job)=0:=by
  rw[KI (g:=λ_=>0) λk G=>by rw[F k G];rfl,NF]
 have I:tk=N:=by
  have:=(H.gone 0 ae (D 0 ae)).1;rw[H.ql]at this;have:=Sd.1 this;have:=H.sn;omega
 refine⟨?_,?_,I⟩
 ·refine VJ O H.nn (λx y c hi i aa ht _=>?_) su;obtain⟨k,G,hm⟩:=H.cov i ae;exact H.paint k G x y c hi i hm ht λt yy e h _=>by rw[F k G]at h;cases h
 ·rw[I,L,h1,U]at A;simp only[cV]at A;have e0:gI C (N-N) N=0:=by rw[T6];rfl
  rw[e0]at A;omega
end
end
end Go.Proofs.YtjljhnandbbldaaGreatDoor
namespace Go.Proofs.YtjljhnandbbldaaGreatDoor
open Go Go.Crisp
attribute [local irreducible] ag cO aT stK aG vK qK bL gK eM bC mkK cR HA JA Ep bsK clK vu pP Zb
open _root_.Go.Proofs.Tryz
section
def GoP (C:C21)(Z:Nat→Prop)(K N:Nat)(h0:ai)(bw:Nat→Nat)(bp:Nat)(o:Nat→Nat)(n:Pic)(P:bS)(h:ai):Prop:=eF C Z K h0 bw bp o n P h∧∃tk,lI C K N tk P n
theorem Y4 {C:C21}{K:Nat}{P:bS}{k:Nat}{x:Int}:x∈EY C K P k↔ ∃i:Nat,i<k∧x=(i:Int)∧fB C K P x=true:=by
 unfold EY;rw[List.mem_filter,gQ];constructor
 ·rintro⟨⟨i,hi,rfl⟩,h⟩;exact⟨i,uA.1 hi,rfl,h⟩
 ·rintro⟨i,hi,rfl,h⟩;exact⟨⟨i,uA.2 hi,rfl⟩,h⟩
theorem Sa {C:C21}{K:Nat}{P:bS}{i:Int}(h:fB C K P i=true):(io C K P i).picks=P.picks+1:=by
 unfold io;rw[h,aA (by simp)];split
 ·unfold Ds;split
  ·rfl
  ·split<;>rfl
 ·exact(U9 C K {P with picks:=P.picks+1} (i-1).toNat).2.2.2.2.2.1
section
variable {C:C21}{Z:Nat→Prop}{K N:Nat}{h0 h:ai}{bw:Nat→Nat}{bp:Nat}{o:Nat→Nat}{n:Pic}{P:bS}
theorem GoP.ext {h':ai}(H:GoP C Z K N h0 bw bp o n P h)(e:Ext h h'):GoP C Z K N h0 bw bp o n P h':=⟨H.1.ext e,H.2⟩
theorem GoP.picks (H:GoP C Z K N h0 bw bp o n P h):0≤P.picks∧P.picks≤(2*N+K+2+gI C N 0:Nat):=by
 obtain⟨_,tk,I⟩:=H;have:=I.rem;have:=I.ok.pk;omega
theorem GoP.few (H:GoP C Z K N h0 bw bp o n P h):1≤K∧K≤256∧Ext h0 h∧C.suits n:=by
 obtain⟨⟨V,H⟩,_⟩:=H;exact⟨H.few.1,H.few.2,H.ext,H.sui⟩
theorem Z7 (O:C.Ok)(G:fC h0)(H:GoP C Z K N h0 bw bp o n P h){i:Int}(hi:I64 i)(few:2*N+K+2+gI C N 0≤300000)(hb:∀c,eB (some C.E) c→h0.size≤c):
  ag prog kg #[ptr bp,af i] h λr h'=>r=.bool (fB C K P i)∧∃o' n',GoP C Z K N h0 bw bp o' n' (io C K P i) h'∧(∀c,c<h.size→o' c=o c)∧Fr (λc=>o c≠0∨eB (some C.E) c) h h':=by
 have hp:=H.picks;obtain⟨F,tk,I⟩:=H;have hN:=I.nn;refine(zf0 O G F I.ok hi ae ae hb).mono λr h' ⟨U,n',⟨o',a,b,c⟩,D⟩=>?_
 obtain⟨V,B⟩:=F;obtain⟨A,L⟩:=zb5 O I (λk W=>(B.ws k W id).job_e) B.sui D;exact⟨U,o',n',⟨a,A,L⟩,b,c⟩
theorem GoP.runs (H:GoP C Z K N h0 bw bp o n P h)(D:P.ret=false):EY C K P (K+1)≠[]:=by
 have F:=H.few.1;obtain⟨_,tk,I⟩:=H;obtain⟨i,hi,h1⟩:=zbP I F D;intro A;have:((i:Nat):Int)∈EY C K P (K+1):=Y4.2 ⟨i,ae,rfl,h1⟩;rw[A]at this;cases this
def zgc (C:C21)(K:Nat)(P:bS):Prop:=∀k,k<K→∀t y e,(P.ws k).job=some (t,y,e)→t.y≤y∧y<t.y+t.h∧lnF C.d.s.y y≤e∧e≤lnE C.d.s.y y
theorem eF.jobI (H:eF C Z K h0 bw bp o n P h):zgc C K P:=by
 obtain⟨V,B⟩:=H;exact λk A=>(B.ws k A id).job_at
end
end
end Go.Proofs.YtjljhnandbbldaaGreatDoor
namespace Go.Proofs.YtjljhnandbbldaaGreatDoor
open Go Go.Crisp
def InL (m:Int)(l:List Int):Prop:=∀x∈l,0≤x∧x≤m
theorem InL.more {a b:Int}{l:List Int}(H:InL a l)(h:a≤b):InL b l:=λx A=>by have:=H x A;omega
theorem InL.get {m:Int}{l:List Int}(H:InL m l)(A:0≤m)(i:Nat):0≤l.getD i 0∧l.getD i 0≤m:=by
 rw[dr];cases h:l[i]? with
 |none=>simp[A]
 |some x=>exact H x (vI h)
theorem InL.join {m:Int}{a b:List Int}(H:InL m a)(F:InL m b)(A:0≤m):InL m (xk a b):=by
 intro x D;unfold xk at D;obtain⟨i,_,rfl⟩:=gQ.1 D;have:=H.get A i;have:=F.get A i;omega
theorem InL.tick {m:Int}{K:Nat}{rows:Nat→List Int}(H:∀i,i≤K→InL m (rows i))(D:0≤m)(L:m≤1000000000)(j:Int):∀i,i≤K→InL (m+1) (tf (K+1) rows j i):=by
 intro i hi;unfold tf;split
 ·rename_i I;by_cases e:i=j.toNat
  ·simp only[aB e];have A:=H j.toNat ae;have G:=A.get D j.toNat;rw[w64 ae ae];intro x F;rcases Zo F with h|h
   ·have:=A x h;omega
   ·omega
  ·simp only[aA e];exact(H i hi).more ae
 ·exact(H i hi).more ae
theorem InL.meet {m:Int}{K:Nat}{rows:Nat→List Int}{s:List Int}(H:∀i,i≤K→InL m (rows i))(D:InL m s)(F:0≤m)(j:Int):∀i,i≤K→InL m (jk (K+1) rows j s i):=by
 intro i hi;unfold jk;split
 ·rename_i A;unfold Hj at A;simp only[dt,dH]at A;by_cases e:i=j.toNat
  ·simp only[aB e];exact(H j.toNat ae).join D F
  ·simp only[aA e];exact H i hi
 ·exact H i hi
theorem InL.meetAll {m:Int}{K:Nat}{l:List (List Int)}(A:∀s∈l,InL m s)(F:0≤m){rows:Nat→List Int}(H:∀i,i≤K→InL m (rows i)):∀i,i≤K→InL m (meetAll K rows l i):=by
 induction l generalizing rows with
 |nil=>exact H
 |cons s l D=>exact D (λx G=>A x (xh _ G)) (rows:=jk (K+1) rows 0 s) (InL.meet H (A s (by simp)) F 0)
structure Xq (K:Nat)(P:bS):Prop where
 rows:∀i,i≤K→InL (P.picks+1) (P.rows i)
 ss:∀s∈P.stamps,InL (P.picks+1) s
 fl:P.q.closed=true→P.fin.length=K+1
 fn:InL (P.picks+1) P.fin
 ls:∀s∈P.left,InL (P.picks+1) s
 aw:∀a∈P.acc,a.when_.length=K+1
theorem zcf {C:C21}{K N tk:Nat}{P:bS}{n:Pic}(I:lI C K N tk P n)(hp:P.picks≤1000000)(H:Xq K P)(i:Int):Xq K (io C K P i):=by
 obtain⟨a,b,c,d,e,f⟩:=H;have note:∀{l:List Acc} {x:Acc},(∀a∈l,a.when_.length=K+1)→x.when_.length=K+1→∀a∈l++[x],a.when_.length=K+1:=λ{l x} h1 h2 a ha=>by
  rcases gP.1 ha with h|h
  ·exact h1 a h
  ·rw[ia.1 h];exact h2
 have h0:=I.ok.pk;have L:∀i,i≤K→InL (P.picks+1+1) (P.rows i):=λi hi=>(a i hi).more ae
 have A:∀s∈P.stamps,InL (P.picks+1+1) s:=λi hi=>(b i hi).more ae
 have G:=d.more (show P.picks+1≤P.picks+1+1 by omega);have F:∀s∈P.left,InL (P.picks+1+1) s:=λi hi=>(e i hi).more ae
 unfold io;split
 ·exact⟨a,b,c,d,e,f⟩
 split
 ·unfold Ds;split
  ·refine⟨InL.tick a ae ae 0,λs hs=>?_,λhc=>c ?_,G,F,f⟩
   ·rcases gP.1 hs with h|h
    ·exact A s h
    ·rw[ia.1 h];exact L 0 ae
   ·rw[←IY P.q P.sent];exact hc
  split
  ·exact⟨InL.tick a ae ae 0,A,λ_=>I.ok.rows 0 ae,L 0 ae,F,f⟩
  ·exact⟨InL.meetAll F ae L,A,c,G,F,note f (zaj I.ok.rows P.left 0 ae)⟩
 ·rename_i W aa;have hk:(i-1).toNat<K:=by
   unfold fB at W;split at W
   ·exact absurd rfl W
   ·omega
  generalize(i-1).toNat=k at hk ⊢;have U:(dk C {P with picks:=P.picks+1} k).q.closed=true→P.fin.length=K+1:=λhc=>c (by rw[←(YX (E:=some C.E) (jo:=C.jo (bi P.q)) (w:=P.ws k) (q:=P.q)).2];exact hc)
  unfold iH;split
  ·refine⟨InL.meet L ?_ ae _,A,U,G,F,f⟩;rw[dr];cases h:P.stamps[(evP C {P with picks:=P.picks+1} k).2.1.toNat]? with
   |none=>intro x hx;cases hx
   |some s=>exact A s (vI h)
  split
  ·unfold pM;have D:=I.ok.rows (k+1) ae;split
   ·exact⟨L,A,U,G,F,note (note f D) D⟩
   ·exact⟨L,A,U,G,F,note (note f D) D⟩
  split
  ·have hm:=InL.meet a d ae (k+1:Nat);refine⟨InL.tick hm ae ae _,A,U,G,λs hs=>?_,f⟩;rcases gP.1 hs with h|h
   ·exact F s h
   ·rw[ia.1 h];exact InL.meet L G ae (k+1:Nat) (k+1) ae
  ·exact⟨L,A,U,G,F,f⟩
theorem zce {C:C21}{K:Nat}{room a b:Int}:Xq K (Gq K room a b):=by
 refine⟨λi _ x A=>?_,λs D=>(JG D).elim,λh=>(Bool.false_ne_true h).elim,λx A=>(JG A).elim,λs D=>(JG D).elim,λx A=>?_⟩
 rotate_left
 ·have A:x∈[_,_]:=A;simp only[kC,JG,or_false]at A;rcases A with rfl|rfl
  ·show(pe (K+1) 0).length=_;simp[pe]
  ·show(pe (K+1) 0).length=_;simp[pe]
 have A:x∈pe (K+1) i:=A;unfold pe at A;obtain⟨m,_,rfl⟩:=gQ.1 A;show _∧_≤(0:Int)+1;split<;>omega
theorem zd3 {E:WE}{jo:Option (dc×Int×Int)}{w:WD}{q:QD}(A:(cD (some E) jo w q).2.2.1=3):q.closed=true:=by
 unfold cD at A;split at A
 ·split at A
  ·exact absurd (show(2:Int)=3 from A) ae
  ·exact absurd (show(0:Int)=3 from A) ae
 split at A
 ·exact absurd (show(0:Int)=3 from A) ae
 split at A
 ·exact absurd (show(1:Int)=3 from A) ae
 split at A
 ·rename_i h;unfold bX at h;split at h
  ·split at h
   ·assumption
   ·omega
  ·omega
 ·exact absurd (show(0:Int)=3 from A) ae
theorem zdH {C:C21}{K:Nat}{P:bS}{k:Nat}(W:QA C P.sent (P.ws k) (P.words k))(D:fB C K P ((k:Int)+1)=true):(evP C P k).1=1∨(evP C P k).1=2∨(evP C P k).1=3:=by
 have G:(P.ws k).state=1∨((P.ws k).state=0∧bX P.q≠1):=by
  unfold fB at D;split at D
  ·cases D
  ·rw[aB ae,show((k:Int)+1-1).toNat=k by omega]at D;exact AU D
 have F:=W.st;unfold evP;generalize P.ws k=w at G F ⊢;obtain⟨st,tl,j,U⟩:=w;unfold cD;rcases F with⟨A,I,_⟩|⟨A|A,I⟩
 ·have A:st=1:=A;subst A;cases j with
  |none=>exact(show False from I).elim
  |some x=>exact .inr (.inl rfl)
 ·have A:st=0:=A;subst A;rw[aA (show¬(0:Int)=1 by omega),aA (show¬(0:Int)=2 by omega)];have H:bX P.q≠1:=by
   rcases G with h|h
   ·exact absurd (show(0:Int)=1 from h) ae
   ·exact h.2
  by_cases h0:bX P.q=0
  ·rw[aB h0];exact .inl rfl
  ·have L:bX P.q=2:=by
    unfold bX at H h0 ⊢;split
    ·rename_i h;rw[aB h]at H h0;split
     ·rfl
     ·rename_i h';rw[aA h']at H;omega
    ·rename_i h;rw[aA h]at h0;omega
   rw[aA h0,aB L];exact .inr (.inr rfl)
 ·have A:st=2:=A;subst A;rcases G with h|h
  ·exact absurd (show(2:Int)=1 from h) ae
  ·exact absurd (show(2:Int)=0 from h.1) ae
end Go.Proofs.YtjljhnandbbldaaGreatDoor
namespace Go.Proofs.YtjljhnandbbldaaGreatDoor
open Go Go.Crisp
attribute [local irreducible] ag cO aT stK aG vK qK bL gK eM bC mkK cR HA JA Ep bsK clK vu pP Zb
open _root_.Go.Proofs.Tryz
section
theorem zap {C:C21}(O:C.Ok)(h1:1≤bT C.d.s.y.lines){i:Int}(h0:0≤i)(hi:i<bN C.d):bT C.d.s.y.lines*(aS C.d i).w*C.m.c=mM C i∧0≤bT C.d.s.y.lines*(aS C.d i).w∧bT C.d.s.y.lines*(aS C.d i).w≤100000000000:=by
 have H:=dB O.m.fits;have D:=iF O.d h0 hi;have U:=O.s.most;have G:=O.s.side;unfold eI at D;have A:(kn (bT C.d.s.y.lines):Int)=bT C.d.s.y.lines:=by unfold kn;omega
 have I:1*1≤(aS C.d i).w*C.m.c:=lV ae ae ae ae;have L:(aS C.d i).w*C.m.c≤300*3:=lV ae ae ae ae;have F:(gH ((aS C.d i).w*C.m.c):Int)=(aS C.d i).w*C.m.c:=by unfold gH;omega
 have W:bT C.d.s.y.lines*(aS C.d i).w≤65536*300:=lV ae ae ae ae;unfold mM;rw[A,F];exact⟨oB _ _ _,mR ae ae,ae⟩
section
variable {Z:Nat→Prop}{C:C21}{K N tk:Nat}{P:bS}{V:DV}{h:ai}{n:Pic}
theorem Yu (O:C.Ok)(H:DAt Z C K N P V h)(zl:∀c,Z c→c<h.size)(I:lI C K N tk P n)(NP:Xq K P)(ar:N≤4096)(hK:1≤K∧K≤1000)(U:zgc C K P)(aa:kY C.m C.d.s)(mw:gR C.m.w C.m.h C.m.c)(nw:gR C.d.X C.d.Y C.m.c)(hp:P.picks≤300000)(al:1≤bT C.d.s.y.lines){k:Nat}(hk:k<K)(hr:fB C K P ((k:Int)+1)=true):
  ag prog vU #[.agg (dpC C P V).toArray,af ((k:Int)+1)] h (DTo Z C K N h (io C K P ((k:Int)+1))):=by
 have W:=I.ok;have w1:=W.pk;have w2:=W.ac;have w3:=W.ln;have w4:=W.sent;have w5:=W.st;have hN:=I.nn;have F:=W.w k hk;have tk:=W.tn k hk;have an:io C K P ((k:Int)+1)=iH C K {P with picks:=P.picks+1} k:=by
  unfold io;rw[hr,aA (by simp),aA ae,show((k:Int)+1-1).toNat=k by omega]
 rw[an];have H1:DAt Z C K N {P with picks:=P.picks+1} V h:=⟨H.x,H.y,H.t,H.m,H.q,H.c,H.w,H.a,H.s,H.e,H.f⟩
 have rx:tg (P.ws k) P.q→0≤bi P.q∧bi P.q<bN C.d:=λht=>by
  have:=W.q _ (Jg ht.2);omega
 have key:=zdH F hr;refine zbc O (P:={P with picks:=P.picks+1}) H1 zl hN hk ae F (λt y e G=>(U k hk t y e G).2.2.2) (by show(P.ws k).tiles.length≤_;omega) rx (W.rows (k+1) ae) (λs hs=>⟨W.ss s hs,λx A=>(NP.ss s hs x A).1⟩) (λh3=>⟨NP.fl (zd3 h3),λx A=>(NP.fn x A).1⟩) (by show P.left.length≤_;omega) aa mw nw (by show P.acc.length≤_;omega) (λn1 n3=>?_) λD=>?_
 ·have D:(evP C P k).1=2:=by
   have n1:(evP C P k).1≠1:=n1;have n3:(evP C P k).1≠3:=n3;omega
  refine⟨D,?_⟩;have D:(cD (some C.E) (C.jo (bi P.q)) (P.ws k) P.q).2.2.1=2:=D;obtain⟨t,y,e,G,s1,ev,L⟩:=Wa F.st D;have ad:(P.ws k).tiles≠[]:=by
   rcases F.st with h|h
   ·exact h.2.2
   ·rw[h.2]at G;cases G
  have hl:=F.tl _ (Pu ad);obtain⟨j1,j2⟩:=F.jb t y e G;obtain⟨a1,a2,a3,a4⟩:=U k hk t y e G;have A:0≤(P.ws k).tiles.getLast?.getD 0∧(P.ws k).tiles.getLast?.getD 0<bN C.d:=ae;have wt:=iF O.d A.1 A.2;rw[←j1]at wt;unfold eI at wt;have ew:(dk C {P with picks:=P.picks+1} k).words k=mM C ((P.ws k).tiles.getLast?.getD 0):=by
   show(if k=k∧(P.ws k).state=0∧bX P.q=0 then mM C (bi P.q)else P.words k)=_;rw[aA (λh=>ae),j2]
  have ww:=Va O A.1 A.2;have we:=zap O al A.1 A.2;have ln:=Wl O.s.wf.y y;have am:evP C {P with picks:=P.picks+1} k=(2,(P.ws k).tiles.getLast?.getD 0,bP (C.E.d t) y e,eT (C.E.d t) y e):=ev;rw[am,ew];have sj:eT (C.E.d t) y e=if bP (C.E.d t) y e=1 then e else y:=by
   have L:=L;unfold bP at L;unfold eT bP;by_cases q1:(C.E.d t).t.y+(C.E.d t).t.h≤y
   ·rw[aB q1]at L;exact absurd rfl L
   ·rw[aA q1,aA q1];by_cases q2:e<lnE (C.E.d t).s.y y
    ·rw[aB q2,aB q2,aB rfl]
    ·rw[aA q2,aA q2,aA ae]
  have hY:C.d.Y=((C.d.s.y.lines.length:Nat):Int):=rfl;have bY:=dC.bd O.d;refine⟨A,?_,λh1=>?_,we.1,we.2.1,we.2.2,ww⟩
  ·show I64 (eT (C.E.d t) y e);rw[sj];unfold I64;unfold lnF at a3;unfold lnE at a4;split<;>omega
  ·have h1:bP (C.E.d t) y e≠1:=h1;show 0≤eT (C.E.d t) y e∧eT (C.E.d t) y e<C.d.Y;rw[sj,aA h1];omega
 ·have D:(cD (some C.E) (C.jo (bi P.q)) (P.ws k) P.q).2.2.1=1:=D;obtain⟨e1,e2⟩:=YV F.st D;have:=W.q _ (Jg e2.2);have ee:(evP C {P with picks:=P.picks+1} k).2.1=bi P.q:=e1;rw[ee];show 0≤bi P.q∧bi P.q<(P.stamps.length:Int);omega
theorem zbd (O:C.Ok)(H:DAt Z C K N P V h)(zl:∀c,Z c→c<h.size)(I:lI C K N tk P n)(NP:Xq K P)(U:N≤4096)(hK:1≤K∧K≤1000)(aa:zgc C K P)(al:kY C.m C.d.s)(mw:gR C.m.w C.m.h C.m.c)(nw:gR C.d.X C.d.Y C.m.c)(hp:P.picks≤300000)(ad:1≤bT C.d.s.y.lines){i:Int}(hi:I64 i):
  ag prog Bb #[.agg (dpC C P V).toArray,af i] h λr h'=>∃u,r=.tuple #[u,.bool (fB C K P i)]∧DTo Z C K N h (io C K P i) u h':=by
 apply QW;unfold FD;rw[bF];refine aI λb1 g1 r1 e1 n1=>aI λb3 g3 r3 e3 n3=>?_
 have W:=I.ok;have w1:=W.pk;have w2:=W.ac;have w3:=W.ln;have w4:=W.sent;have w5:=W.st;have hN:=I.nn;have s1:=e1.1;have k3:=aW r3;have E3:=e1.trans e3;have nt:unV .not (.bool true)=some (.bool false):=rfl;have nf:unV .not (.bool false)=some (.bool true):=rfl;rw[aL (e3.row r1) 20 rfl,ah];refine(SI (H.ext E3) I.nn W.cl hi).mono λr g7 ⟨er,e7⟩=>?_
 subst er;have L:=E3.trans e7;have s7:=e7.1;have A:=H.ext L;have D:∀c,Z c→c<g7.size:=λc hc=>by have:=zl c hc;have:=L.1;omega
 have r7:=e7.row (e3.row r1);have fin:∀{Q:bS} {r:Value} {F:ai},DTo Z C K N g7 Q r F→stK 20 (ptr b3) r F λv h'=>vK (aM 20 h' (ptr b3)) λv=>∃u,Value.tuple #[v,.bool true]=.tuple #[u,.bool true]∧DTo Z C K N h Q u h':=λ{Q r F} T=>by
  obtain⟨Z',V',er,D',z',e'⟩:=T;subst er;have s':=e'.1;have zb:∀c,Z' c→(Z c∨h.size≤c)∧c<F.size∧c≠b3:=λc hc=>by
   obtain⟨a,b⟩:=z' c hc;rcases a with a|a
   ·have:=zl c a;exact⟨.inl a,b,ae⟩
   ·exact⟨.inr (by have:=L.1;omega),b,ae⟩
  refine bI ((e7.trans e').row r3) (by rfl) D'.ones (by rfl) λg8 r8 u8=>?_
  rw[aL r8 20 rfl,ah];exact⟨_,rfl,Z',V',rfl,D'.fr u8.fr λc _ hc=>(zb c hc).2.2,λc hc=>⟨(zb c hc).1,by rw[u8.1];exact(zb c hc).2.1⟩,(L.trans e').upd ae u8⟩
 cases hr:fB C K P i with
 |false=>
  have ep:io C K P i=P:=by unfold io;rw[aB hr]
  rw[nf,ah,fK,aL r7 20 rfl,ah,ep];refine bI (e7.row r3) (by rfl) A.ones (by rfl) λg8 r8 u8=>?_
  rw[aL r8 20 rfl,ah];exact⟨_,rfl,Z,V,rfl,A.fr u8.fr λc _ hc=>by have:=zl c hc;show c≠b3;omega,λc hc=>⟨.inl hc,by rw[u8.1];exact D c hc⟩,L.upd ae u8⟩
 | true=>
  rw[nt,ah,cg,mf,ah];refine aq (λh0=>?_) (λh0=>?_)
  ·subst h0;have ep:io C K P 0=Ds C K {P with picks:=P.picks+1}:=by unfold io;rw[hr,aA (by simp),aB rfl]
   have H8:DAt Z C K N {P with picks:=P.picks+1} V g7:=⟨A.x,A.y,A.t,A.m,A.q,A.c,A.w,A.a,A.s,A.e,A.f⟩
   have G:(P.rows 0).length=K+1:=W.rows 0 ae;have bn:=dB nw;rw[ep,aL r7 20 rfl,ah];unfold Ds;by_cases h1:P.sent<bN C.d
   ·rw[aB h1];have hq:P.q.l.length≤1000000000:=by rw[I.ql];unfold BW;rw[da,Uh];omega
    exact(Yz (P:={P with picks:=P.picks+1}) H8 D hN w4.1 U h1 ae G (by show P.stamps.length≤_;omega) hq).mono λr F T=>fin T
   ·rw[aA h1];cases hc:P.q.closed with
    |false=>
     rw[aB rfl];exact(Xb (P:={P with picks:=P.picks+1}) H8 D hN h1 hc ae G).mono λr F T=>fin T
    |true=>
     rw[aA (by simp)];exact(YA (P:={P with picks:=P.picks+1}) H8 D hN h1 hc ae G (λs hs=>⟨W.ls s hs,λx hx=>(NP.ls s hs x hx).1⟩) (by show P.left.length≤_;omega) (by show P.acc.length≤_;omega) ae ae).mono λr F T=>fin T
  ·obtain⟨k,rfl,hk⟩:∃k:Nat,i=(k:Int)+1∧k<K:=by
    have h:=hr;unfold fB at h;split at h
    ·cases h
    ·exact⟨(i-1).toNat,ae,ae⟩
   rw[aL r7 20 rfl,ah];exact(Yu O A D I NP U hK aa al mw nw hp ad hk hr).mono λr F T=>fin T
theorem zdN {v:Value}{l:List (List (Int×Int))}{k:IntKind}{i:Nat}(H:Rp.Sl XK Z h v l)(hi:i<l.length):∃p s,bh 1 v (.int k (i:Int))=some p∧ldV h p=some s∧Rp.Sl w8 Z h s l[i]:=by
 obtain⟨b,ob,cs,w1,F,A,⟨s,rfl,D,_⟩,_⟩:=H.atp (show 0<XK.w from Nat.one_pos) (k:=k) hi;refine⟨_,s,w1,?_,D⟩;rw[dn];exact A 0 (by simp)
theorem Yv (H:DAt Z C K N P V h)(hb:2*N+K+2+gI C N 0≤1000000):ag prog y5 #[.agg (dpC C P V).toArray] h λr h'=>r=af (2*N+K+2+gI C N 0:Nat)∧Ext h h':=by
 apply Ov;unfold Co;rw[bF];refine aI λU g1 r1 e1 n1=>?_
 have A:=H.ext e1;have ew:aD V.wv=some (af (K:Int)):=by rw[jR A.w];simp
 have et:aD V.tv=some (af (N:Int)):=by rw[jR A.t];simp[dA]
 have em:aD V.mv=some (af (N:Int)):=by rw[jR A.m];simp[fR]
 have c6:aE g1 ⟨U,6,none⟩=some V.tv:=ao r1;have c7:aE g1 ⟨U,7,none⟩=some V.mv:=ao r1;have F:aE g1 ⟨U,12,none⟩=some V.wv:=ao r1;simp only[go_sem,aO,c6,c7,F,ew,et,em];rw[w64 (n:=2*(N:Int)) ae ae,w64 (n:=2*(N:Int)+K) ae ae,w64 (n:=2*(N:Int)+K+2) ae ae];refine bO (α:=Unit) N 0 (λi _=>[af (2*(N:Int)+K+2+(gI C i 0:Nat)),af (i:Int)]) (λi _ g=>Ext g1 g) () (by simp[gI]) (bZ _) (Ext.refl _) λi _ g4 again ρ _ hi D W=>?_
 simp only[iq,vN];rw[cI,ah];refine aq (λg1=>?_) (λg1=>?_)
 ·have G:i<N:=ae;obtain⟨p,s,i1,i2,i3⟩:=zdN (k:=.i64) (i:=i) (A.m.ext D) (by simp[fR];omega);have el:((fR C N)[i]'(by simp[fR];omega)).length=lR C i:=by
   have:(fR C N)[i]'(by simp[fR];omega)=lY C.E (some (Ma C.d i)):=by simp[fR]
   rw[this];exact Sf _ _ _
  have ad:gI C (i+1) 0=gI C i 0+lR C i:=by
   rw[Cj C i 1 0,aO];show _+(lR C i+0)=_;omega
  have aa:gI C N 0=gI C (i+1) 0+gI C (N-(i+1)) (0+(i+1)):=by rw[←Cj];congr 1;omega
  have L:2*(N:Int)+K+2+(gI C i 0:Nat)+(lR C i:Int)=2*(N:Int)+K+2+(gI C (i+1) 0:Nat):=ae;rw[i1,ah,i2,ah,jR i3,el,ah];simp only[go_sem];rw[L,w64 (n:=2*(N:Int)+K+2+(gI C (i+1) 0:Nat)) ae ae,w64 (n:=(i:Int)+1) ae ae,show(i:Int)+1=((i+1:Nat):Int)by omega];exact W () g4 G D
 ·have I:i=N:=ae;subst I;exact⟨by congr 1,e1.trans D⟩
theorem Yr (H:DAt Z C K N P V h)(hN:(N:Int)=bN C.d)(cl:P.q.closed=true→P.sent=bN C.d)(hK:K≤1000):ag prog sA #[.agg (dpC C P V).toArray] h λr h'=>New (Rp.int .i64) h h' r (EY C K P (K+1)):=by
 apply Jx;unfold yl;rw[bF];refine aI λb1 g1 r1 L n1=>?_
 have W:=H.ext L;have ew:aD V.wv=some (af (K:Int)):=by rw[jR W.w];simp
 have I:aE g1 ⟨b1,12,none⟩=some V.wv:=ao r1;simp only[go_sem,aO,I,ew];rw[w64 (n:=(K:Int)+1) ae ae];refine bO (α:=Value) (K+1) 0 (λi v=>[v,af (i:Int)]) (λi v g=>New (Rp.int .i64) g1 g v (EY C K P i)) (.slice none 0 0) rfl (bZ _) (New.nil (Ext.refl _)) λi v g again ρ _ hi N D=>?_
 simp only[iq,vN];rw[cI,ah];refine aq (λg1=>?_) (λg1=>?_)
 ·have A:i<K+1:=ae;have F:(i:Int)+1=((i+1:Nat):Int):=ae;have hl:=Jd C K P i;have G:=R4 C K P i;rw[aL (N.2.1.row r1) 20 rfl,ah];refine(SI (W.ext N.2.1) hN cl (by unfold I64;omega)).mono λr g' ⟨er,e'⟩=>?_
  subst er;cases U:fB C K P (i:Int)with
  |true=>
   rw[U,aB rfl]at G;rw[fK];refine New.push_int (N.ext e') rfl ae ae λv2 g2 N2=>?_
   simp only[go_sem];rw[w64 (n:=(i:Int)+1) ae ae,F];exact D v2 g2 A (by rw[G];exact N2)
  |false=>
   rw[U]at G;rw[cg];simp only[go_sem];rw[w64 (n:=(i:Int)+1) ae ae,F];exact D v g' A (by rw[G];simpa using N.ext e')
 ·have:i=K+1:=ae;subst this;exact N.before L
end
theorem zcS {C:C21}{Z Zd:Nat→Prop}{K N:Nat}{h0 h:ai}{bw:Nat→Nat}{bp:Nat}{o:Nat→Nat}{n:Pic}{P:bS}{V:DV}(HP:eF C Z K h0 bw bp o n P h)(H:DAt Zd C K N P V h)(hl:P.acc.length≤1000000)(hw:∀a∈P.acc,a.when_.length≤1000000){f:Nat}(hf:f≤P.acc.length):
  ag prog wj #[ptr bp,.agg (dpC C P V).toArray,af (f:Int)] h λr h'=>r=.bool true∧Ext h h':=by
 apply Rw;unfold Gc;rw[bF];refine aI λb1 g1 r1 W n1=>?_
 obtain⟨Zl,lc,sl,L⟩:=HP.led;have H1:=H.ext W;have ea:aD V.av=some (af (P.acc.length:Int)):=jR H1.a;have f13:aC 13 (ptr b1)=some (.pointer (some ⟨b1,13,none⟩)):=rfl;have pn:ak .p .eql (.pointer (some ⟨bp,5,none⟩)) (.pointer none)=some (.bool false):=rfl;refine ag.at (UT (HP.ext W)) ?_;refine aQ (λg=>g=g1) rfl ?_;rw[pn,ah,db,ah,db,f13,ah];refine aF V.av (λg e=>by rw[e,db,dn];exact ao r1) ?_;refine aF (af (P.acc.length:Int)) (λg e=>by rw[db];exact ea) ?_;rw[mc];refine ag.at (zeM (L.ext W)) ⟨rfl,?_⟩;rw[db,me,ah,cH rfl,ji,ah,UF,cg];refine bO (α:=Unit) P.acc.length f (λi _=>[af (i:Int)]) (λi _ g=>Ext g1 g) () rfl hf (Ext.refl _) λi _ g again ρ _ hi eg ad=>?_
 simp only[iq];have al:aE g ⟨b1,13,none⟩=some V.av:=ao (eg.row r1);rw[ah,dn,al,ah,ea,ah,cI,ah];refine aq (λc1=>?_) (λc1=>?_)
 ·have F:i<P.acc.length:=ae;refine(zf3 ((L.ext W).ext eg) i λa ha=>by have:=hw a ha;omega).mono λr g2 ⟨ds,er,l2,o2,q2,e2⟩=>?_
  subst er;obtain⟨s,es,hs⟩:=q2 i F rfl;have es:=List.toArray_inj (Value.agg.inj es);subst es;have x0:∀a b:Value,aP (.tuple #[a,b]) 0=some a:=λ_ _=>rfl
  have x1:∀a b:Value,aP (.tuple #[a,b]) 1=some b:=λ_ _=>rfl
  rw[x0,ah,x1,ah,cH ae];refine cX (cs:=[af P.acc[i].who,s,af P.acc[i].buf,af P.acc[i].lo,af P.acc[i].hi,.bool P.acc[i].wr]) rfl o2 rfl λI g5 r5 e5 n5=>?_
  have E5:=eg.trans (e2.trans e5);have aa:aE g5 ⟨b1,13,none⟩=some V.av:=ao (E5.row r1);obtain⟨pt,ct,q1,q3,q4⟩:=(H1.a.ext E5).atw (show 0<6 by omega) (k:=.i64) (i:=i) F;have q1:bh 6 V.av (af (i:Int))=some pt:=q1;have q3:aM 6 g5 pt=some (.agg ct.toArray):=q3;have one:=lT.one q4;obtain⟨u,ec,hu⟩:=q4;rw[ah,dn,aa,ah,q1,ah,q3,ah];refine cX (cs:=ct) (by rw[ec];rfl) one (by rw[ec];rfl) λU A G e6 n6=>?_
  rw[ec]at G;have D:=e6.row r5;have a0:aE A ⟨I,0,none⟩=some (af P.acc[i].who):=ao D;have a1:aE A ⟨I,1,none⟩=some s:=ao D;have a2:aE A ⟨I,2,none⟩=some (af P.acc[i].buf):=ao D;have a3:aE A ⟨I,3,none⟩=some (af P.acc[i].lo):=ao D;have a4:aE A ⟨I,4,none⟩=some (af P.acc[i].hi):=ao D;have a5:aE A ⟨I,5,none⟩=some (.bool P.acc[i].wr):=ao D;have d0:aE A ⟨U,0,none⟩=some (af P.acc[i].who):=ao G;have d1:aE A ⟨U,1,none⟩=some u:=ao G;have d2:aE A ⟨U,2,none⟩=some (af P.acc[i].buf):=ao G;have d3:aE A ⟨U,3,none⟩=some (af P.acc[i].lo):=ao G;have d4:aE A ⟨U,4,none⟩=some (af P.acc[i].hi):=ao G;have d5:aE A ⟨U,5,none⟩=some (.bool P.acc[i].wr):=ao G;have bb:∀b:Bool,ak .b .neq (.bool b) (.bool b)=some (.bool false):=λb=>by cases b<;>rfl
  have ne:∀x:Int,ak .i .neq (af x) (af x)=some (.bool false):=λx=>by rw[me,cH rfl];rfl
  have nt:unV .not (.bool true)=some (.bool false):=rfl;simp only[go_sem,aO,nt,a0,a1,a2,a3,a4,a5,d0,d1,d2,d3,d4,d5,bb,ne];have am:=hw _ (cQ F);refine ag.at (P6 (hs.ext (e5.trans e6)) (xR (hu.ext e6)) ae) ?_;rw[cH rfl];simp only[go_sem,nt];rw[w64 (n:=(i:Int)+1) ae ae,show(i:Int)+1=((i+1:Nat):Int)by omega];exact ad () A F (E5.trans e6)
 ·exact⟨trivial,W.trans eg⟩
end
section
theorem zcZ {h:ai}{n:Nat}(h1:1≤n)(h2:n≤512):ag prog mq #[af (n:Int)] h λr h'=>kc rIs h h' r ((List.range n).map (pe n)):=by
 apply Tx;unfold Iy;refine bB (λA g=>A=[af (n:Int)]∧g=h) ?_ ?_
 ·rw[cI,ah];exact aq (λc=>absurd c ae) λ_=>by simp
 rintro A ρ g ⟨rfl,rfl⟩;refine bB (λA H=>A=[af (n:Int)]∧H=g) ?_ ?_
 ·simp only[iq];rw[xv,ah];exact aq (λc=>absurd c ae) λ_=>by simp
 rintro A ρ H ⟨rfl,rfl⟩;simp only[iq];refine bO (α:=Value) n 0 (λi v=>[v,af (i:Int)]) (λi v g=>kc rIs H g v ((List.range i).map (pe n))) (.slice none 0 0) rfl (bZ _) (kc.nil (Ext.refl _)) λi v g again ρ _ hi G I=>?_
 simp only[iq,vN];rw[cI,ah];refine aq (λg1=>?_) (λg1=>?_)
 ·have D:i<n:=ae;refine pN rfl ae ae λs g2 o2 e2 L=>?_
  obtain⟨p,q1,_,q3⟩:=Own.at1 o2 (k:=.i64) D;rw[q1,ah];refine q3 _ _ rfl λW o3 f3 s3=>?_
  have E3:Ext g W:=e2.then_fr f3 L;have hx:(List.replicate n (af 0)).set i aJ=(pe n i).map vi:=by
   apply pU (by simp[pe]);intro j h1 h2;rw[AL];simp only[eE,ZH,pe,yY,vi];by_cases h:i=j
   ·subst h;simp
   ·rw[aA h,aA (ie h)]
  rw[hx]at o3;have hl:(pe n i).length=n:=by simp[pe]
  have oI:jG W s (pe n i):=by unfold jG;rw[hl];exact o3
  have N3:=G.ext E3;have sE:=G.exts.1;refine kc.push1 (e:=rIs) (x:=pe n i) (Y:=blk s) rfl N3 ⟨s,rfl,xn (jG.ints oI) λ_ b F=>F⟩ (λb F=>⟨?_,oI.lt F,λhv=>?_⟩) rfl (by simp;omega) (by simp;omega) λv7 g7 N7=>?_
  ·have:=L b F;omega
  ·have h1:=L b F;have h2:=G.lt hv;omega
  have U:(i:Int)+1=((i+1:Nat):Int):=ae
  try simp only[go_sem]
  rw[w64 (n:=(i:Int)+1) ae ae,U];refine I v7 g7 D ?_;rw[rK,jW];exact N7
 ·have:i=n:=ae;subst this;exact G
theorem XM {α:Type}{e:Rp α}{Z P:Nat→Prop}{Q:ai→Prop}{z z' c:Value}{t t':TypeId}{bytes:Nat}{s:Value}{h:ai}{l:List α}{x:α}{K:Value→ai→Prop}(hw:e.w=1)(G:Rp.Ow e Z h s l)(hx:e.R P h [c] x)(D:z.cells.size=1)(A:(l.length+1)*bytes≤140737488355328)(hn:l.length+1≤9223372036854775807)(U:∀b,Z b→b<h.size)(L:∀b,P b→b<h.size∧¬blk s b)(hQ:∀h',Ext h h'→Q h')
  (H:∀F h',Rp.Ow e (λb=>Z b∨P b) h' F (l++[x])→Fr (blk s) h h'→(∀b,blk F b→blk s b∨h.size≤b)→K F h'):cO #[z'] t 1 [(0,1,c)] h λv2 I=>Q I∧cR z t' 1 bytes s v2 I K:=by
 have W:∀b,blk s b→¬Z b:=by obtain⟨ds,_,d,_⟩:=G;exact d
 exact Rp.push_ow1S (P:=λ_=>True) hw (G.mono (λb _ A=>.inl A) λb A D=>D.elim (W b A) λD=>(L b D).2 A) (e.mono hx λb _ A=>.inr A) D A hn (λb A=>A.elim (U b) λh=>(L b h).1) hQ H
structure StN (C:C21)(K N:Nat)(room:Int)(h0:ai)(t q c w:Option Value)(p:Option Nat)(g:ai):Prop where
 ext:Ext h0 g
 parts:∃Zr:Nat→Prop,(∀k,Zr k→h0.size≤k∧k<g.size∧∀x,p=some x→k≠x)∧(∀v,t=some v→Rp.Sl Gn Zr g v (dA C.d N))∧(∀v,c=some v→Rp.Sl rIs Zr g v ((List.range (K+1)).map (pe (K+1))))∧∀v,w=some v→Rp.Sl rVD Zr g v ((List.range K).map λ_=>⟨0,[],[]⟩)
 qq:∀v,q=some v→v=.agg #[.int .i64 (min (max 1 room) 4096),.slice none 0 0,.bool false]
 var:∀x,p=some x→h0.size≤x∧g[x]? =some (.cells aK 48 (0,0))
section
variable {C:C21}{K N:Nat}{room:Int}{h0 g:ai}{t q c w:Option Value}{p:Option Nat}{J:Value→ai→Prop}
theorem StN.start (C:C21)(K N:Nat)(room:Int)(h:ai):StN C K N room h none none none none none h:=⟨Ext.refl _,⟨λ_=>False,by simp,by simp,by simp,by simp⟩,by simp,by simp⟩
theorem StN.grow {F:ai}(S:StN C K N room h0 t q c w p g)(e:Ext g F):StN C K N room h0 t q c w p F:=by
 obtain⟨a,⟨H,z,I,L,U⟩,d,f⟩:=S;exact⟨a.trans e,⟨H,λk D=>⟨(z k D).1,ce (z k D).2.1 e.1,(z k D).2.2⟩,λv A=>(I v A).ext e,λv A=>(L v A).ext e,λv A=>(U v A).ext e⟩,d,λx G=>⟨(f x G).1,e.row (f x G).2⟩⟩
theorem StN.more {H c' w':Option Value}{D:ai}{Y:Nat→Prop}(S:StN C K N room h0 t q c w p g)(e:Ext g D)(hY:∀k,Y k→g.size≤k∧k<D.size)(ht:∀v,H=some v→t=some v∨Rp.Sl Gn Y D v (dA C.d N))(hc:∀v,c'=some v→c=some v∨Rp.Sl rIs Y D v ((List.range (K+1)).map (pe (K+1))))(L:∀v,w'=some v→w=some v∨Rp.Sl rVD Y D v ((List.range K).map λ_=>⟨0,[],[]⟩)):StN C K N room h0 H q c' w' p D:=by
 obtain⟨a,⟨Zr,z,U,I,W⟩,d,f⟩:=S;have se:=a.1;refine⟨a.trans e,⟨λk=>Zr k∨Y k,λk A=>?_,λv F=>?_,λv F=>?_,λv F=>?_⟩,d,λx G=>⟨(f x G).1,e.row (f x G).2⟩⟩
 ·rcases A with A|A
  ·exact⟨(z k A).1,ce (z k A).2.1 e.1,(z k A).2.2⟩
  ·have:=hY k A;exact⟨ae,this.2,λx G=>by have:=aW (f x G).2;omega⟩
 ·exact(ht v F).elim (λh=>((U v h).ext e).mono λ_ _ h=>.inl h) λh=>h.mono λ_ _ h=>.inr h
 ·exact(hc v F).elim (λh=>((I v h).ext e).mono λ_ _ h=>.inl h) λh=>h.mono λ_ _ h=>.inr h
 ·exact(L v F).elim (λh=>((W v h).ext e).mono λ_ _ h=>.inl h) λh=>h.mono λ_ _ h=>.inr h
theorem StN.call_t {Z:Nat→Prop}{cs:List Value}(S:StN C K N room h0 none q c w p g)(U:yP.R Z h0 cs C.d.s)(O:C.Ok)(I:(N:Int)=bN C.d)(F:N≤4096)(L:1≤C.d.X)(hY:1≤C.d.Y)(few:∀x∈C.d.s.x.lines++C.d.s.y.lines,x.2.length≤1073741824)(H:∀v A,StN C K N room h0 (some v) q c w p A→J v A):ag prog mu #[.agg cs.toArray,af C.d.w,af C.d.h] g J:=
 (zbh (yP.ext U S.ext) O.d few I F L hY).mono λv A D=>H v A (S.more (Y:=blk v) D.2.1 (λk G=>⟨D.2.2 k G,D.lt G⟩) (λu hu=>by cases hu;exact .inr D.sl) (λu hu=>.inl hu) λu hu=>.inl hu)
theorem StN.call_q (S:StN C K N room h0 t none c w p g)(H:∀v A,StN C K N room h0 t (some v) c w p A→J v A):ag prog ms #[af room] g J:=
 zc0.mono λv A ⟨F,e⟩=>H v A (by
  have D:=S.grow e;exact⟨D.ext,D.parts,λu hu=>by cases hu;exact F,D.var⟩)
theorem StN.call_c (S:StN C K N room h0 t q none w p g)(G:K≤511)(H:∀v A,StN C K N room h0 t q (some v) w p A→J v A):ag prog mq #[af ((K:Int)+1)] g J:=by
 rw[show(K:Int)+1=((K+1:Nat):Int)by omega];exact(zcZ ae ae).mono λv A D=>H v A (S.more (Y:=gn g A) D.exts (λk F=>F) (λu hu=>.inl hu) (λu hu=>by cases hu;exact .inr D.sl) λu hu=>.inl hu)
theorem StN.mk_w {bytes:Nat}{T:TypeId}(S:StN C K N room h0 t q c none p g)(U:K≤511)(G:bytes≤1000)(H:∀v F,StN C K N room h0 t q c (some v) p F→J v F):mkK (.agg #[aj,.slice none 0 0,.slice none 0 0]) T 3 bytes (af (K:Int)) (af (K:Int)) g J:=by
 unfold mkK;have L:IntKind.i64.wrap (K:Int)=K:=w64 ae ae;simp only[L];refine⟨ae,ae,?_,?_⟩
 ·have:(bytes:Int)*(K:Int)≤1000*511:=lV ae ae ae ae;omega
 rw[dJ];have I:∀j,j<K*3→(jO (.agg #[aj,.slice none 0 0,.slice none 0 0]) (K*3)).toList[j]? =some ([af 0,.slice none 0 0,.slice none 0 0][j%3]'(by simp;omega)):=by
  intro j D;unfold jO;simp only[bF,UE,vH,Array.toList_range,T4 D,cU];have:j%3<3:=iO _ ae
  congr 1
  rcases(show j%3=0∨j%3=1∨j%3=2 by omega)with h|h|h<;>simp[h]
 have W:(jO (.agg #[aj,.slice none 0 0,.slice none 0 0]) (K*3)).toList.length=K*3:=by simp[jO]
 refine H _ _ (S.more (Y:=λk=>k=g.size) (Ext.push g _) (λk A=>by rw[A];simp) (λu hu=>.inl hu) (λu hu=>.inl hu) λu hu=>by
  cases hu;refine .inr ⟨(jO (.agg #[aj,.slice none 0 0,.slice none 0 0]) (K*3)).toList,⟨by simp[jO];rfl,_,K,by rw[da,fF],.inr ⟨g.size,0,rfl,λj D=>?_⟩⟩,λ_ b G=>G,λi hi=>?_⟩
  ·rw[aO,ao (t:=T) (f:=(0,0)) tN,gN D |>.symm,vJ]
  ·have hi:i<K:=by simpa using hi
   refine⟨.slice none 0 0,.slice none 0 0,?_,by simpa using Rp.Sl.nil,by simpa using Rp.Sl.nil,_,_,_,rfl,ck _⟩;apply List.ext_getElem?;intro k;by_cases A:k<3
   ·show((List.drop (i*3) _).take 3)[k]? =_;rw[Zx A,Uw,I _ ae];rcases(show k=0∨k=1∨k=2 by omega)with h|h|h<;>subst h<;>simp<;>rfl
   ·show((List.drop (i*3) _).take 3)[k]? =_;rw[AJ (by simp;omega),AJ (by simp;omega)])
theorem StN.new_p (S:StN C K N room h0 t q c w none g)(H:∀x D,StN C K N room h0 t q c w (some x) D→J (ptr x) D):aT aK 48 g J:=by
 have hs:=S.ext.1;refine aI λx D r e n=>H x D ?_
 obtain⟨a,⟨W,z,L,I,U⟩,d,f⟩:=S;exact⟨a.trans e,⟨W,λk F=>⟨(z k F).1,ce (z k F).2.1 e.1,λy G=>by cases G;have:=(z k F).2.1;omega⟩,λv A=>(L v A).ext e,λv A=>(I v A).ext e,λv A=>(U v A).ext e⟩,d,λy G=>by cases G;exact⟨ae,r⟩⟩
theorem StN.vk_fill {X Y tv H cv wv:Value}{D G A F:Int}{J:Value→Prop}(S:StN C K N room h0 (some tv) (some H) (some cv) (some wv) p g)(oX:aV X=true)(oY:aV Y=true)(L:J (.agg [X,Y,af D,af G,af A,af F,tv,.slice none 0 0,af (min (max 1 room) 4096),.slice none 0 0,.bool false,cv,wv,.slice none 0 0,aj,.bool false,.bool false,.slice none 0 0,.slice none 0 0,.slice none 0 0].toArray)):
  vK ((aR aK [(0,5,.agg [X,Y,af D,af G,af A].toArray),(5,1,af F),(6,1,tv),(8,3,H),(11,1,cv),(12,1,wv)]).map .agg) J:=by
 obtain⟨Zr,z,U,I,W⟩:=S.parts;have e:=S.qq _ rfl;subst e;have f:aR aK [(0,5,.agg [X,Y,af D,af G,af A].toArray),(5,1,af F),(6,1,tv),(8,3,.agg #[af (min (max 1 room) 4096),.slice none 0 0,.bool false]),(11,1,cv),(12,1,wv)]=some [X,Y,af D,af G,af A,af F,tv,.slice none 0 0,af (min (max 1 room) 4096),.slice none 0 0,.bool false,cv,wv,.slice none 0 0,aj,.bool false,.bool false,.slice none 0 0,.slice none 0 0,.slice none 0 0].toArray:=by
  refine(cn (n:=5) (l:=[X,Y,af D,af G,af A]) rfl rfl (by simp)).trans ?_;refine(cn (n:=1) (l:=[af F]) rfl rfl (by simp[cN])).trans ?_;refine(cn (n:=1) (l:=[tv]) (cJ (U _ rfl).one) rfl (by simp[cN])).trans ?_;refine(cn (n:=3) (l:=[af (min (max 1 room) 4096),.slice none 0 0,.bool false]) rfl rfl (by simp[cN])).trans ?_;refine(cn (n:=1) (l:=[cv]) (cJ (I _ rfl).one) rfl (by simp[cN])).trans ?_;refine(cn (n:=1) (l:=[wv]) (cJ (W _ rfl).one) rfl (by simp[cN])).trans ?_;rw[ii];simp[wrL]
 rw[f,bH,ah];exact L
end
abbrev Dp:Value:=.slice none 0 0
def PreN (C:C21)(K N:Nat)(room:Int)(X Y:Value)(h0:ai)(x:Nat)(tv cv wv:Value)(Zr:Nat→Prop)(g:ai):Prop:=
 g[x]? =some (.cells (dpC C (Gr K room) ⟨X,Y,tv,Dp,Dp,cv,wv,Dp,Dp,Dp,Dp⟩).toArray 48 (0,0))∧Ext h0 g∧h0.size≤x∧(∀k,Zr k→h0.size≤k∧k<g.size∧k≠x)∧
 Rp.Sl Gn Zr g tv (dA C.d N)∧Rp.Sl rIs Zr g cv ((List.range (K+1)).map (pe (K+1)))∧Rp.Sl rVD Zr g wv ((List.range K).map λ_=>⟨0,[],[]⟩)
theorem StN.fin {C:C21}{K N:Nat}{room:Int}{h0 g:ai}{X Y tv L cv wv:Value}{x:Nat}{J:Value→ai→Prop}(S:StN C K N room h0 (some tv) (some L) (some cv) (some wv) (some x) g)(oX:aV X=true)(U:aV Y=true)(HJ:∀F D,PreN C K N room X Y h0 x tv cv wv F D→J undef D):
  stK 20 (ptr x) (.agg [X,Y,af C.d.s.x.n,af C.d.s.y.n,af C.d.s.border,af C.m.c,tv,.slice none 0 0,af (min (max 1 room) 4096),.slice none 0 0,.bool false,cv,wv,.slice none 0 0,aj,.bool false,.bool false,.slice none 0 0,.slice none 0 0,.slice none 0 0].toArray) g J:=by
 obtain⟨F,z,b1,W,b3⟩:=S.parts;obtain⟨n,r⟩:=S.var x rfl;have G:=b1 _ rfl;have I:=W _ rfl;have H:=b3 _ rfl;refine bI (l:=[X,Y,af C.d.s.x.n,af C.d.s.y.n,af C.d.s.border,af C.m.c,tv,.slice none 0 0,af (min (max 1 room) 4096),.slice none 0 0,.bool false,cv,wv,.slice none 0 0,aj,.bool false,.bool false,.slice none 0 0,.slice none 0 0,.slice none 0 0]) r rfl ?_ rfl λD r' u=>?_
 ·exact az oX (az U (az rfl (az rfl (az rfl (az rfl (az G.one (az rfl (az rfl (az rfl (az rfl (az I.one (az H.one (az rfl (az rfl (az rfl (az rfl (az rfl (az rfl (az rfl aU)))))))))))))))))))
 ·have q:∀k,k<g.size→F k→¬k=x:=λk _ A=>(z k A).2.2 x rfl
  exact HJ F D ⟨r',S.ext.upd n u,n,λk A=>⟨(z k A).1,by rw[u.1];exact(z k A).2.1,(z k A).2.2 x rfl⟩,G.fr u.fr q,I.fr u.fr q,H.fr u.fr q⟩
theorem zcY {C:C21}{K N:Nat}{room:Int}{h:ai}{Z:Nat→Prop}{cs:List Value}(HK:yP.R Z h cs C.d.s)(zl:∀c,Z c→c<h.size)(O:C.Ok)(hN:(N:Int)=bN C.d)(bv:N≤4096)(hX:1≤C.d.X)(hY:1≤C.d.Y)(few:∀x∈C.d.s.x.lines++C.d.s.y.lines,x.2.length≤1073741824)(hK:1≤K∧K≤256)
  (b1:0≤C.d.s.x.n*C.d.s.y.n*C.m.c∧C.d.s.x.n*C.d.s.y.n*C.m.c≤1000000000000) (b2:0≤C.d.X*C.d.Y*C.m.c∧C.d.X*C.d.Y*C.m.c≤1000000000000) (b3:0≤C.d.s.x.n*C.d.s.y.n∧C.d.s.x.n*C.d.s.y.n≤1000000000000) (b4:0≤C.d.X*C.d.Y∧C.d.X*C.d.Y≤1000000000000):
  ag prog DW #[.agg cs.toArray,af C.m.c,af C.d.w,af C.d.h,af (K:Int),af room] h (DTo Z C K N h (Gq K room (C.d.s.x.n*C.d.s.y.n*C.m.c) (C.d.X*C.d.Y*C.m.c))):=by
 apply Tu;unfold Iw;have cr:=HK;obtain⟨X,Y,rfl,HX,HY⟩:=HK;rw[bF];refine aI λbs g1 r1 e1 n1=>aI λb3 g3 r3 e3 n3=>?_
 have k1:=aW r1;have k3:=aW r3;have s1:=e1.1;have s3:=e3.1;have r1:=e3.row r1;have E3:=e1.trans e3;have au:=yP.ext cr E3;have oX:=HX.one;have oY:=HY.one;refine bB (λxs g=>∃x tv cv wv Zr,xs=[ptr x]∧PreN C K N room X Y g3 x tv cv wv Zr g) ?_ ?_
 ·refine aQ (Ext g3) (Ext.refl _) ?_;have q2:∀U,Ext g3 U→aM 5 U (ptr bs)=some (.agg [X,Y,af C.d.s.x.n,af C.d.s.y.n,af C.d.s.border].toArray):=λU e=>aL (e.row r1) 5 rfl
  refine aF _ q2 ?_;refine aF _ q2 ?_;have ek:ak .i .add (af (K:Int)) aJ=some (af ((K:Int)+1)):=by
   show some (af (IntKind.i64.wrap ((K:Int)+1)))=_;rw[w64 ae ae]
  rw[ek,ah];have M0:=StN.start C K N room g3
  repeat' first
   |exact StN.ext ‹StN _ _ _ _ _ _ _ _ _ _ _›
   |refine And.intro ?_ ?_
   |refine StN.call_t ‹StN _ _ _ _ _ none _ _ _ _ _› au O hN bv hX hY few λv U M=>?_
   |refine StN.call_q ‹StN _ _ _ _ _ _ none _ _ _ _› λv U M=>?_
   |refine StN.call_c ‹StN _ _ _ _ _ _ _ none _ _ _› ae λv U M=>?_
   |refine StN.mk_w ‹StN _ _ _ _ _ _ _ _ none _ _› ae ae λv U M=>?_
   |refine StN.new_p ‹StN _ _ _ _ _ _ _ _ _ none _› λx U M=>?_
   |refine StN.vk_fill ‹StN _ _ _ _ _ (some _) (some _) (some _) (some _) _ _› oX oY ?_
   |refine StN.fin ‹StN _ _ _ _ _ (some _) (some _) (some _) (some _) (some _) _› oX oY λZr U H=>⟨_,_,_,_,Zr,rfl,H⟩
 rintro xs ρ g ⟨x,tv,cv,wv,Zr,rfl,rx,eg,nx,zr,Ht,Hc,Hw⟩;have kx:=aW rx;have sg:=eg.1;have c6:aE g ⟨x,6,none⟩=some tv:=ao rx;have cw:aD tv=some (af (N:Int)):=by obtain⟨a,c,e⟩:=Ht.isSl;rw[e];simp[aD,dA]
 have al:∀c,Z c→¬c=x:=λc hc h=>by have:=zl c hc;omega
 simp only[iq,go_sem,aO,c6,cw];refine bO (α:=Unit) N 0 (λi _=>[af (i:Int)]) (λi _ F=>∃mv Zm,F[x]? =some (.cells (dpC C (Gr K room) ⟨X,Y,tv,mv,Dp,cv,wv,Dp,Dp,Dp,Dp⟩).toArray 48 (0,0))∧Fr (λk=>k=x) g F∧Rp.Ow XK Zm F mv (fR C i)∧∀k,(blk mv k∨Zm k)→g.size≤k∧k<F.size) () rfl (bZ _) ⟨Dp,λ_=>False,rx,Fr.refl _ _,Rp.Ow.nil,λk A=>A.elim (λh=>h.elim) False.elim⟩ λi _ F again ρ' _ hi ⟨mv,Zm,W,fx,om,zm⟩ be=>?_
 have sx:=fx.1;have rS:=fx.row (eg.row r1) (show¬bs=x by omega);simp only[iq];rw[cI,ah];refine aq (λc1=>?_) (λc1=>?_)
 ·have ct:i<N:=ae;have cu:=Ht.fr fx λk _ A=>(zr k A).2.2
  obtain⟨pt,cs,a1,a2,a3⟩:=cu.atw (show 0<10 by omega) (k:=.i64) (i:=i) (by simp[dA];omega);have a1:bh 10 tv (af (i:Int))=some pt:=a1;have a2:aM 10 F pt=some (.agg cs.toArray):=a2;have et:(dA C.d N)[i]'(by simp[dA];omega)=aS C.d i:=by simp[dA]
  rw[et]at a3;obtain⟨f0,f1,f3,f5,ec⟩:=a3;rw[a1,ah,a2,ah];refine cX (cs:=cs) (by rw[ec];rfl) (Gn.one (Z:=Zr) (h:=F) (x:=aS C.d i) ⟨f0,f1,f3,f5,ec⟩) (by rw[ec];rfl) λb5 g5 r5 e5 n5=>?_
  rw[ec]at r5;have s5:=e5.1;refine aQ (Ext g5) (Ext.refl _) ?_;simp only[go_sem,aO];refine aF mv (λk e=>ao (e.row (e5.row W))) ?_;refine aF (.agg [X,Y,af C.d.s.x.n,af C.d.s.y.n,af C.d.s.border].toArray) (λk e=>aL (e.row (e5.row rS)) 5 rfl) ?_
  try simp only[go_sem,aO]
  refine aF (af (aS C.d i).y) (λk e=>ao (e.row r5)) ?_
  try simp only[go_sem,aO]
  refine aF (af (aS C.d i).h) (λk e=>ao (e.row r5)) ?_;have hw:=iF O.d (i:=(i:Int)) ae ae;unfold eI at hw;have K5:yP.R Z g5 [X,Y,af C.d.s.x.n,af C.d.s.y.n,af C.d.s.border] C.d.s:=yP.ext (yP.fr (yP.ext au eg) fx λk _ A=>al k A) e5;refine(Yw (m:=C.m) (t:=aS C.d i) K5 O.s hw.2.2.2.1 hw.2.1 ae).mono λsv g6 G=>⟨G.2.1,?_⟩
  have s6:=G.2.1.1;have bd:(fR C i).length=i:=by simp[fR]
  refine XM (e:=XK) (x:=lY C.E (some (Ma C.d i))) (P:=blk sv) (Q:=Ext g5) rfl (om.ext (e5.trans G.2.1)) ⟨sv,rfl,G.sl,G.1.slcap⟩ rfl (by rw[bd];omega) (by rw[bd];omega) (λb hb=>by have:=(zm b (.inr hb)).2;omega) (λb hb=>⟨G.lt hb,λhv=>by have:=G.2.2 b hb;have:=(zm b (.inl hv)).2;omega⟩) (λh' e=>G.2.1.trans e) λv7 g7 o7 f7 n7=>?_
  have s7:=f7.1;have cb:=f7.row ((e5.trans G.2.1).row W) (show¬blk mv x from λh=>by have:=(zm x (.inl h)).1;omega);have b8:(i:Int)+1=((i+1:Nat):Int):=ae
  try simp only[go_sem,aO]
  refine bG cb (by simp[dpC]) o7.one λg8 r8 u8=>?_
  have s8:=u8.1
  try simp only[go_sem]
  rw[w64 (n:=(i:Int)+1) ae ae,b8];have hz:∀k,(blk v7 k∨(Zm k∨blk sv k))→g.size≤k∧k<g7.size:=λk A=>by
   rcases A with A|A|A
   ·refine⟨?_,o7.lt A⟩;rcases n7 k A with h|h
    ·exact(zm k (.inl h)).1
    ·omega
   ·have:=zm k (.inr A);omega
   ·have:=G.2.2 k A;have:=G.lt A;omega
  refine be () g8 ct ⟨v7,λb=>Zm b∨blk sv b,r8,((fx.after (e5.trans G.2.1).fr λ_ _ h=>False.elim h).after f7 λc hc h=>by have:=(zm c (.inl h)).1;omega).after u8.fr λc _ h=>h,?_,λk A=>by rw[s8];exact hz k A⟩;rw[V7];exact o7.fr u8.fr (λk _ A h=>by have:=(hz k (.inr A)).1;omega) λk A h=>by have:=(hz k (.inl A)).1;omega
 ·have:i=N:=ae;subst this;have q0:∀k,k<g.size→Zr k→¬k=x:=λk _ A=>(zr k A).2.2
  have EG:=E3.trans eg
  let Z':Nat→Prop:=λk=>(Z k∨Zr k∨blk mv k∨Zm k)∧k<F.size
  have zz:∀k,Z' k→(Z k∨h.size≤k)∧k<F.size∧k≠x∧k≠b3:=λk A=>by
   obtain⟨A,lt⟩:=A;rcases A with A|A|A|A
   ·have:=zl k A;exact⟨.inl A,lt,ae,ae⟩
   ·have:=zr k A;exact⟨.inr ae,lt,ae,ae⟩
   ·have:=zm k (.inl A);exact⟨.inr ae,lt,ae,ae⟩
   ·have:=zm k (.inr A);exact⟨.inr ae,lt,ae,ae⟩
  have D:DAt Z' C K i (Gr K room) ⟨X,Y,tv,mv,Dp,cv,wv,Dp,Dp,Dp,Dp⟩ F:=
   ⟨((HX.ext EG).fr fx λk _ A=>al k A).mono λk lt A=>⟨.inl A,lt⟩,((HY.ext EG).fr fx λk _ A=>al k A).mono λk lt A=>⟨.inl A,lt⟩,(Ht.fr fx q0).mono λk lt A=>⟨.inr (.inl A),lt⟩,om.sl.mono λk lt A=>⟨.inr (.inr (A.elim .inr .inl)),lt⟩,⟨Rp.Sl.nil,_,_,_,rfl,ck _⟩,
    (Hc.fr fx q0).mono λk lt A=>⟨.inr (.inl A),lt⟩,(Hw.fr fx q0).mono λk lt A=>⟨.inr (.inl A),lt⟩,Rp.Sl.nil,Rp.Sl.nil,Rp.Sl.nil,Rp.Sl.nil⟩
  have c2:aE F ⟨bs,2,none⟩=some (af C.d.s.x.n):=ao rS;have c3:aE F ⟨bs,3,none⟩=some (af C.d.s.y.n):=ao rS;rw[aL W 20 rfl,ah];simp only[go_sem,aO,c2,c3];rw[w64 (n:=C.d.s.x.n*C.d.s.y.n) ae ae,w64 (n:=C.d.s.x.n*C.d.s.y.n*C.m.c) ae ae];refine(rP (who:=0) D (λc hc=>(zz c hc).2.1) (bZ _) (by simp[Gr]) (gj _) b1.1 ae).mono λr g9 D9=>?_
  obtain⟨Z9,V9,er,H9,z9,e9⟩:=D9;subst er;have s9:=e9.1;have an:∀k,Z9 k→(Z k∨h.size≤k)∧k<g9.size∧k≠x∧k≠b3:=λk A=>by
   rcases(z9 k A).1 with h1|h1
   ·have:=zz k h1;exact⟨this.1,(z9 k A).2,this.2.2⟩
   ·exact⟨.inr ae,(z9 k A).2,ae,ae⟩
  refine bI (e9.row W) (by rfl) H9.ones (by rfl) λa7 b0 L=>?_
  have c5:=L.1;have aa:=L.row (show bs≠x by omega) (e9.row rS);have bg:=H9.fr L.fr λk _ A=>(an k A).2.2.1
  obtain⟨ax,cx,ex⟩:=HX.isSl;obtain⟨ay,cy,ey⟩:=HY.isSl;have ca:aD X=some (af C.d.X):=by rw[ex];rfl
  have bo:aD Y=some (af C.d.Y):=by rw[ey];rfl
  have c0:aE a7 ⟨bs,0,none⟩=some X:=ao aa;have ci:aE a7 ⟨bs,1,none⟩=some Y:=ao aa;rw[aL b0 20 rfl,ah];simp only[go_sem,aO,c0,ci,ca,bo];rw[w64 (n:=C.d.X*C.d.Y) ae ae,w64 (n:=C.d.X*C.d.Y*C.m.c) ae ae];refine(rP (who:=0) bg (λc hc=>by have:=(an c hc).2.1;omega) (bZ _) (by simp[Gr,mL]) (gj _) b2.1 ae).mono λr cc b7=>?_
  obtain⟨a8,b6,er,a9,ad,ar⟩:=b7;subst er;have c4:=ar.1;have cp:=ar.row (L.row (show b3≠x by omega) (e9.row (fx.row (eg.row r3) (show¬b3=x by omega))));have I:∀k,a8 k→(Z k∨h.size≤k)∧k<cc.size∧k≠b3:=λk A=>by
   rcases(ad k A).1 with h1|h1
   ·have:=an k h1;exact⟨this.1,(ad k A).2,this.2.2.2⟩
   ·exact⟨.inr ae,(ad k A).2,ae⟩
  refine bI cp (by rfl) a9.ones (by rfl) λcz bk am=>?_
  rw[aL bk 20 rfl,ah];have EX:Ext h F:=EG.then_fr fx λc hc=>by have hc:c=x:=hc;omega
  exact⟨a8,b6,rfl,a9.fr am.fr λk _ A=>(I k A).2.2,λk A=>⟨(I k A).1,by rw[am.1];exact(I k A).2.1⟩,(((EX.trans e9).upd ae L).trans ar).upd ae am⟩
end
def Om:Pic:=⟨1,1,1,255,[9]⟩
def zY:OpD:=⟨1,0,0,0,[],[],0,0,0⟩
theorem zaW:fJ zY 1 1=0∧qR zY 1=1∧kY Om (cB zY 1 1)∧Dw (cB zY 1 1).x.lines.length (cB zY 1 1).y.lines.length 1 255=0∧(cB zY 1 1).x.lines.length=1∧(cB zY 1 1).y.lines.length=1∧yQ Om (cB zY 1 1) 0 0 0=9∧bN ⟨cB zY 1 1,1,1⟩=1∧Au (cB zY 1 1) (aS ⟨cB zY 1 1,1,1⟩ 0) Om=2:=by
 decide+kernel
theorem at22:atP (DP Om (cB zY 1 1)) 0 0 0=9:=by decide+kernel
theorem R9 {C:C21}{K N:Nat}{room a b:Int}{n:Pic}(D:(N:Int)=bN C.d):lI C K N 0 (Gq K room a b) n:=by
 refine⟨zb3 ae,D,gj _,rfl,(by show 1≤min (max 1 room) 4096;omega),(λx F=>ae),λk A h=>?_,?_,(λh=>by cases h),?_,(λk A x y c _ i hi=>by cases hi)⟩
 ·have h:(0:Int)=2:=h;omega
 ·show 0=xK K λ_=>0
  rw[NF]
 ·show(0:Int)+((N-0)+1+1+(N-0)+gI C (N-0) 0+xK K (λ_=>0)+(K-0):Nat)=(2*N+K+2+gI C N 0:Nat);rw[NF,AN];omega
theorem zei {C:C21}{K N tk:Nat}{P:bS}{n:Pic}(O:C.Ok)(H:lI C K N tk P n)(su:C.suits n)(L:1≤K)(I:P.ret=true):n=DP C.m C.d.s:=by
 have h:=(ZL O H su L I).1;obtain⟨U,A,D,F,G⟩:=su.2;cases n;simp only at h A D F G;subst h A D F G;rfl
theorem Qe {h:ai}(G:fC h):ag prog kU #[] h λr h'=>r=.bool true∧Ext h h':=by
 apply OL;unfold CF;obtain⟨a1,a2,a3,a4,a5,a6,a7,a8,a9⟩:=zaW;have a0:Dw 1 1 1 255=0:=by decide+kernel
 refine cT (Rp.fill_one rfl) λb1 h1 r1 e1 n1=>?_
 have S1:=Rp.SlC.single (cs:=[.int .u16 9]) r1;have SU:Rp.Sl rU (λ_=>True) h1 (.slice (some ⟨b1,0,none⟩) 1 1) [9]:=⟨_,S1,λ_ _ _=>trivial,λi hi=>by
  have hi:i=0:=by simpa using hi
  subst hi;rfl⟩
 refine(UV SU a0 rfl (λx hx=>by have:=ia.1 hx;omega)).mono λr h2 ⟨pm,A,bm,vm,bk,I,b5,b7,e2⟩=>?_
 subst A bk;have I:du h2 bm vm Om:=I;have W:Om.Wf:=⟨by decide,by decide,by decide,rfl,λx hx=>by have:=ia.1 hx;show 0≤x∧x≤255;omega⟩
 have E2:=e1.trans e2;have hf:(aR #[aj,aj,aj,aj,(.slice none 0 0),(.slice none 0 0),aj,aj,aj] [(0,1,aJ)])=some #[aJ,aj,aj,aj,.slice none 0 0,.slice none 0 0,aj,aj,aj]:=rfl;simp only[go_sem,hf,bH];have wf:zY.Wf:=C7 (by simp[I64]);refine(Lr (Z:=λ_=>True) (o:=zY) (G.ext E2) C8 wf (by simp[zY]) (by simp[zY]) (by unfold I64;omega) (by unfold I64;omega)).mono λw h3 ⟨sv,e,e3,_,s2⟩=>?_
 subst e;have HS:=s2 a1;rw[a1];obtain⟨p,q,rfl,hp,hq,U⟩:=jQ HS;simp only[go_sem];refine cX (cs:=[p,q,af _]) rfl U rfl λb3 h4 r4 e4 n4=>?_
 have E4:=E2.trans (e3.trans e4);refine ag.to zeK λh5 e5=>?_
 simp only[go_sem];have E5:=E4.trans e5;refine ag.to (YB (G.ext E5)) λh6 e6=>?_
 have E6:=E5.trans e6;simp only[go_sem,eqT];rw[aL (l:=[p,q,af _]) ((e5.trans e6).row r4) 3 rfl,ah];have OK:DQ (cB zY 1 1):=Pm a1 ae (by rw[a2];omega);have s3:=e3.1;have cb:=(e4.trans (e5.trans e6)).1;have I6:=(I.ext (e3.trans (e4.trans (e5.trans e6))))
 have b2:rl (λc=>c<h6.size) h6 (.agg #[p,q,af (cB zY 1 1).border]) (cB zY 1 1):=(HS.ext (e4.trans (e5.trans e6))).mono λc hc _=>hc
 refine(SO (wk:=1) (G.ext E6) I6 W b2 OK a3 ⟨I6.lt,λc hc=>I6.ltv hc⟩ (λc hc=>hc) a4).mono λr h7 ⟨_,_,hM⟩=>?_
 obtain⟨bp,C,Z,bw,o,A,k1,k2,k3,CO,HP,ax,e7,b8,_⟩:=hM (by unfold fW;omega) 1 rfl ae;subst A;have ct:bN C.d=1:=by rw[k2];exact a8
 have st:gI C 1 0=2:=by
  have:lR C (0:Nat)=Au C.d.s (aS C.d 0) C.m:=rfl;show lR C (0:Nat)+0=2;rw[this,k1,k2];exact a9
 have GP:GoP C Z 1 1 h6 bw bp o _ _ h7:=⟨HP,0,R9 (by rw[ct];rfl)⟩
 have pn:ak .p .eql (ptr bp) (.pointer none)=some (.bool false):=rfl;simp only[go_sem,eqT,pn];refine ag.to (Mk CO GP.1 (N:=1) (by rw[ct];rfl) ae ae) λh8 e8=>?_
 rw[st];have n7:ak .i .neq (af ((2*1+1+2+2:Nat):Int)) (af 7)=some (.bool false):=rfl;simp only[go_sem,n7];have al:=GP.ext e8;refine ag.at (Qp al.1) ?_;have n2:ak .i .neq (af ((1+1:Nat):Int)) (af 2)=some (.bool false):=rfl;simp only[go_sem,n2];have E8:=E6.trans (e7.trans e8);refine bO (α:=Unit) 7 0 (λi _=>[af (i:Int)]) (λi _ g=>∃o n P,GoP C Z 1 1 h6 bw bp o n P g∧P.picks=(i:Int)) () rfl (bZ _) ⟨o,_,_,al,rfl⟩ λi _ g again ρ _ hi ⟨o',n',H,F,ay⟩ bd=>?_
 simp only[iq];rw[cI,ah];refine aq (λg1=>?_) (λg1=>?_)
 ·have hr:H.ret=false:=by
   cases h:H.ret with
   |false=>rfl
   |true=>
    have su:=F.few.2.2.2;obtain⟨_,tk,J⟩:=F;have:=(ZL CO J su ae h).2.1;omega
  refine(Mm CO F.1).mono λrv g2 NR=>?_
  have e9:=NR.2.1;have H2:=F.ext e9;have ad:=H2.runs hr;generalize hL:EY C 1 H (1+1)=L at NR ad;have b4:L.length≠0:=λh=>ad (lg h)
  obtain⟨ar,cr,A⟩:=NR.1.sl.isSl;have b0:aD rv=some (af (L.length:Int)):=by rw[A];rfl
  have ca:L.length≤2:=by rw[←hL];exact Jd _ _ _ _
  have l0:ak .i .eql (af (L.length:Int)) aj=some (.bool false):=by rw[mf,b9 ae]
  obtain⟨p0,c1,c2⟩:=NR.1.sl.int_at (k':=.i64) (i:=0) (show 0<L.length by omega);have c1:bh 1 rv aj=some p0:=c1;simp only[go_sem,b0,l0,c1,c2];have aa:L[0]∈EY C 1 H (1+1):=by rw[hL];exact cQ _
  obtain⟨j,hj,ej,au⟩:=Y4.1 aa;refine(Z7 CO (G.ext E6) H2 (by unfold I64;omega) ae ax).mono λr g3 ⟨A,o3,n3,H3,b6,f3⟩=>?_
  rw[au]at A;subst A;have bg:(i:Int)+1=((i+1:Nat):Int):=ae;simp only[go_sem];rw[w64 (n:=(i:Int)+1) ae ae,bg];exact bd () g3 ae ⟨o3,n3,_,H3,by rw[Sa au];omega⟩
 ·have bv:i=7:=ae;have hF:=F.few;obtain⟨bo,tk,J⟩:=F;have D:=J.rem;have hr:H.ret=true:=by
   cases h:H.ret with
   |true=>rfl
   |false=>
    rw[h,ay,bv,st]at D;simp only[ig,cS]at D;omega
  have en:=zei CO J hF.2.2.2 ae hr;rw[k1,k2]at en;refine(US bo).mono λr g2 an=>?_
  rcases an with⟨h0,_⟩|⟨_,p2,A,bn,vn,ep,I2,_,_,e9⟩
  ·rw[hr]at h0;cases h0
  ·subst A ep;have be:ak .p .neq (ptr bn) (.pointer none)=some (.bool true):=rfl;have am:=hF.2.2.2.1;rw[en]at I2 am;simp only[go_sem,be];refine ag.at (zeQ I2 am) ?_;rw[show atP (DP Om (⟨cB zY 1 1,1,1⟩:dC).s) 0 0 0=9 from at22];simp only[go_sem,eqT,gM];exact⟨trivial,E6.trans (hF.2.2.1.trans e9)⟩
structure Bg22 (h6:ai)(a:uj)(o:OpD)(bf:Nat)(vf sv rv:Value)(Z1:Nat→Prop)(h':ai):Prop where
 ok:MQ a o
 ext:Ext h6 h'
 img:du h' bf vf (fh a)
 nb:h6.size≤bf∧∀c,blk vf c→h6.size≤c
 st:Rp.Sl Gp Z1 h' sv [bgS a o]
 rf:Rp.Sl yP Z1 h' rv [bgS a o]
 zl:∀c,Z1 c→h6.size≤c∧c<h'.size
theorem zeT {D:ai}(G:fC D){Z1 Z2:Nat→Prop}{cs os:List Value}{a:uj}{o:OpD}(H:pG.R Z1 D cs a)(WA:a.Wf)(HO:rOp.R Z2 D os o)(WO:Gz [o]){b1 b3:Nat}{t1 t3:TypeId}(r1:D[b1]? =some (.cells cs.toArray t1 (0,0)))(r3:D[b3]? =some (.cells os.toArray t3 (0,0))){Y:Value→Value→Value→Value→ai→Prop}
  (Y0:∀bf sv rv h',Ext D h'→¬(oR 12 [o]∧BZ [o] (fh a).w (fh a).h (fh a).c=0)→Y (ptr bf) sv rv (.bool false) h') (Y1:∀bf vf sv rv Z1 h',Bg22 D a o bf vf sv rv Z1 h'→Y (ptr bf) sv rv (.bool true) h'):
  vK (aM 5 D (ptr b1)) λv8=>ag prog fM #[v8] D λv9 F=>vK (aM 9 F (ptr b3)) λa8=>
  cO #[aj,aj,aj,aj,(.slice none 0 0),(.slice none 0 0),aj,aj,aj] 31 1 [(0,9,a8)] F λbd aa=>
  ag prog iY #[bd,v9] aa λI a7=>vK (aP I 0) λam=>vK (aP I 1) λan=>vK (aP I 2) λar=>Y v9 am an ar a7:=by
 have lc:=pG.len H;have lo:=rOp.len HO;rw[aL r1 5 lc,ah];refine(Lp (pG.mono H λ_ _ h=>h) WA).mono λpm h7 N7=>?_
 obtain⟨bf,vf,rfl,I7,ad,ax,e7⟩:=N7;rw[aL (e7.row r3) 9 lo,ah];refine cT (Rp.fill_whole (by rfl) lo) λb5 F al W n10=>?_
 have A:=e7.trans W;have au:Rp.Sl rOp (λc=>Z2 c∨c=b5) F (.slice (some ⟨b5,0,none⟩) 1 1) [o]:=by
  refine⟨os,?_,λ_ b hb=>.inr hb,λi hi=>?_⟩
  ·have:=Rp.SlC.single (cs:=os) al;rw[lo]at this;exact this
  ·have:i=0:=by simpa using hi
   subst this;rw[Rp.el_self lo];exact rOp.mono (rOp.ext HO A) λb _ hb=>.inl hb
 refine(Xc (G.ext A) au (by simp) WO (I7.ext W) (xr a)).mono λr ay ⟨L,sv,rv,ok,er,be,U,hS⟩=>?_
 subst er;have x0:aP (.tuple #[sv,rv,.bool ok]) 0=some sv:=rfl;have x1:aP (.tuple #[sv,rv,.bool ok]) 1=some rv:=rfl;have x2:aP (.tuple #[sv,rv,.bool ok]) 2=some (.bool ok):=rfl;rw[x0,ah,x1,ah,x2,ah];have a9:=A.1;cases hk:ok with
 |false=>exact Y0 _ _ _ _ (A.trans L) λh=>by have:=U.2 h;rw[hk]at this;cases this
 |true=>
  subst hk;obtain⟨T1,T2⟩:=hS rfl;exact Y1 bf vf sv rv _ ay ⟨bg_ok (U.1 rfl).1 (U.1 rfl).2,A.trans L,I7.ext (W.trans L),⟨ad,ax⟩,T1,T2,λc hc=>⟨bA a9 hc.1,hc.2⟩⟩
theorem aZ.base {X:Nat→Prop}{C:C21}{Z:Nat→Prop}{K:Nat}{h0 A h:ai}{bw:Nat→Nat}{bp:Nat}{o:Nat→Nat}{n:Pic}{V:PV}{P:bS}(H:aZ X C Z K h0 bw bp o n V P h)(e:Ext A h0):aZ X C Z K A bw bp o n V P h:=
 ⟨H.q,H.c,H.l,H.p,H.w,H.s,H.f,H.e,H.wk,H.ws,H.po,H.set,H.pl,H.zl,H.sui,λc hc=>⟨(H.ow c hc).1,bA e.1 (H.ow c hc).2.1,(H.ow c hc).2.2⟩,e.trans H.ext,H.few⟩
structure Bgn (h:ai)(a:uj)(o:OpD)(tw th wk room:Int)(C:C21)(Z:Nat→Prop)(K N:Nat)(bw:Nat→Nat)(bp:Nat)(ow:Nat→Nat)(n:Pic)(P:bS)(Zd:Nat→Prop)(V:DV)(h':ai):Prop where
 ok:MQ a o
 O:C.Ok
 cm:C.m=fh a
 cd:C.d=Tm a o tw th
 k:(K:Int)=1+wk%5
 nn:(N:Int)=bN C.d∧1≤N∧N≤144∧gI C N 0≤23328
 go:GoP C Z K N h bw bp ow n P h'
 p:P=Gq K (1+room%4) (C.m.w*C.m.h*C.m.c) (C.d.X*C.d.Y*C.m.c)
 d:DAt Zd C K N P V h'
 ob:∀c,eB (some C.E) c→h.size≤c
 zd:∀c,Zd c→h.size≤c∧c<h'.size∧ow c=0∧¬eB (some C.E) c
 ext:Ext h h'
def zch (a:uj)(o:OpD):Prop:=oR 12 [o]∧BZ [o] (fh a).w (fh a).h (fh a).c=0
theorem zeB {h:ai}(G:fC h){Z1 Z2:Nat→Prop}{cs os:List Value}{a:uj}{o:OpD}(H:pG.R Z1 h cs a)(WA:a.Wf)(HO:rOp.R Z2 h os o)(WO:Gz [o]):ag prog yK #[.agg cs.toArray,.agg os.toArray] h λr h'=>(¬zch a o→r=.bool false)∧Ext h h':=by
 apply TN;unfold IP;simp only[bF];refine aI λb1 h1 r1 e1 n1=>aI λb3 W r3 e3 n3=>?_
 have L:=e1.trans e3;have lc:=pG.len H;have lo:=rOp.len HO;have G3:=G.ext L;have r1:=e3.row r1;refine aQ (Ext W) (Ext.refl _) ?_;refine aF (.agg os.toArray) (λk e=>aL (e.row r3) 9 lo) ?_;refine aF (.agg cs.toArray) (λk e=>aL (e.row r1) 5 lc) ?_;have x0:∀a b c:Value,aP (.tuple #[a,b,c]) 0=some a:=λ_ _ _=>rfl
 have x1:∀a b c:Value,aP (.tuple #[a,b,c]) 1=some b:=λ_ _ _=>rfl
 have x2:∀a b c:Value,aP (.tuple #[a,b,c]) 2=some c:=λ_ _ _=>rfl
 have row:∀{g:ai} {F:Nat} {t:TypeId},Ext W g→g[F]? =some (.cells os.toArray t (0,0))→Rp.Sl rOp (λc=>Z2 c∨c=F) g (.slice (some ⟨F,0,none⟩) 1 1) [o]:=λ{g F t} e r=>by
  refine⟨os,?_,λ_ b hb=>.inr hb,λi hi=>?_⟩
  ·have:=Rp.SlC.single (cs:=os) r;rw[lo]at this;exact this
  ·have:i=0:=by simpa using hi
   subst this;rw[Rp.el_self lo];exact rOp.mono (rOp.ext HO (L.trans e)) λb _ hb=>.inl hb
 have fin:∀{g:ai} {bf:Nat} {vf ov:Value} {Y:Nat→Prop},Ext W g→du g bf vf (fh a)→Rp.Sl rOp Y g ov [o]→ag prog iY #[ov,ptr bf] g λv h'=>Ext W h'∧(vK (aP v 0) λ_=>vK (aP v 1) λ_=>vK (aP v 2) λr=>(¬zch a o→r=.bool false)∧Ext h h'):=λ{g bf vf ov Y} e I S=>by
  refine(Xc (G3.ext e) S (by simp) WO I (xr a)).mono λr an ⟨U,sv,rv,ok,er,am,ad,hS⟩=>?_
  subst er;refine⟨e.trans U,?_⟩;rw[x0,ah,x1,ah,x2,ah];refine⟨λhn=>?_,L.trans (e.trans U)⟩;cases hk:ok with
  |false=>rfl
  |true=>exact absurd (ad.1 hk) hn
 refine⟨?_,?_⟩
 ·refine cT (Rp.fill_whole (by rfl) lo) λF g5 r5 A n5=>⟨A,?_⟩
  refine(Lp (pG.mono (pG.ext H (L.trans A)) λ_ _ h=>h) WA).mono λpm h7 N7=>?_
  obtain⟨bf,vf,rfl,I7,aa,al,D⟩:=N7;exact⟨A.trans D,fin (A.trans D) I7 (row (A.trans D) (D.row r5))⟩
 ·refine(Lp (pG.mono (pG.ext H L) λ_ _ h=>h) WA).mono λpm h7 N7=>?_
  obtain⟨bf,vf,rfl,I7,aa,al,D⟩:=N7;refine⟨D,?_⟩;refine cT (Rp.fill_whole (by rfl) lo) λF g5 r5 A n5=>⟨D.trans A,?_⟩
  exact fin (D.trans A) (I7.ext A) (row (D.trans A) r5)
theorem zbs {h:ai}(G:fC h){cs os:List Value}{a:uj}{o:OpD}{Z1 Z2:Nat→Prop}(H:pG.R Z1 h cs a)(WA:a.Wf)(HO:rOp.R Z2 h os o)(WO:Gz [o]){tw th wk room:Int}(h1:B8 tw)(h2:B8 th)(h3:B8 wk)(h4:B8 room):
  ag prog sW #[.agg cs.toArray,.agg os.toArray,.int .u8 tw,.int .u8 th,.int .u8 wk,.int .u8 room] h λr h'=>
   (¬zch a o∧Ext h h'∧∃bf,∃u:List Value,r=.tuple #[ptr bf,.pointer none,.agg u.toArray,.bool false]∧u.length=20∧∀v∈u,aV v=true)∨
   ∃C Z K N bw bp ow n P Zd V,r=.tuple #[ptr C.bf,ptr bp,.agg (dpC C P V).toArray,.bool true]∧Bgn h a o tw th wk room C Z K N bw bp ow n P Zd V h':=by
 apply OM;unfold CG;simp only[bF];refine aI λb1 g1 r1 e1 n1=>aI λb3 g3 r3 e3 n3=>aI λU g5 r5 e5 n5=>?_
 have k5:=aW r5;have s1:=e1.1;have s3:=e3.1;have E5:=e1.trans (e3.trans e5);have s5:=E5.1;refine zeT (G.ext E5) (pG.ext H E5) WA (rOp.ext HO E5) WO ((e3.trans e5).row r1) (e5.row r3) (λbf sv rv h' e hn=>?_) (λbf vf sv rv Z1 h7 B=>?_)
 ·have hf:aR aK []=some aK.toList.toArray:=by rfl
  have on:∀v∈aK.toList,aV v=true:=by decide
  simp only[go_sem];rw[hf,bH,ah];refine bI (e.row r5) (by rfl) on (by rfl) λg9 r9 u9=>?_
  rw[aL r9 20 (by rfl),ah];exact .inl ⟨hn,(E5.trans e).upd ae u9,bf,_,rfl,by rfl,on⟩
 have nt:unV .not (.bool true)=some (.bool false):=rfl;rw[nt,ah,cg];refine YT h1 ae ?_;refine YT h2 ae ?_;refine YT h3 ae ?_;refine YT h4 ae ?_;have hw:=h1;have hh:=h2;unfold B8 at h1 h2 h3 h4;obtain⟨K,hK⟩:∃K:Nat,1+wk%5=(K:Int):=⟨(1+wk%5).toNat,ae⟩
 rw[hK];obtain⟨p,q,bs,b2,q1,k0,bk,a9,be,hp,hq⟩:=zdC B.st;obtain⟨sp,w1,w2⟩:=a9.atw (show 0<3 by omega) (k:=.i64) (i:=0) ae;have w1:bh 3 sv aj=some sp:=w1;have w2:aM 3 h7 sp=some (.agg #[p,q,af (bgS a o).border]):=w2;rw[w1,ah,w2,ah];have sd:fW (1+tw%13)∧fW (1+th%13):=by unfold fW;omega
 have zb:∀c,c<h7.size→Z1 c→g5.size≤c∧c<h7.size:=λc hc hz=>⟨(B.zl c hz).1,hc⟩
 refine(SO (wk:=(K:Int)) (Z0:=λc=>g5.size≤c∧c<h7.size) (G.ext (E5.trans B.ext)) B.img (xr a) ⟨p,q,rfl,hp.mono zb,hq.mono zb⟩ B.ok.stg B.ok.suits.1 ⟨⟨B.nb.1,B.img.lt⟩,λc hc=>⟨B.nb.2 c hc,B.img.ltv hc⟩⟩ (λc hc=>hc.2) B.ok.imgc).mono λr h8 ⟨_,_,f3⟩=>?_
 obtain⟨bp,C,Z,bw,ow,er,y1,y2,y3,CO,HP,L,e8,ar,nz,bv⟩:=f3 sd K rfl ae;subst er;have x0:∀a b:Value,aP (.tuple #[a,b]) 0=some a:=λ_ _=>rfl
 have x1:∀a b:Value,aP (.tuple #[a,b]) 1=some b:=λ_ _=>rfl
 have a8:ak .i .neq aj aj=some (.bool false):=rfl;rw[x0,ah,x1,ah,a8,ah,cg];obtain⟨rp,ad,w3,w4,w5⟩:=(B.rf.ext e8).atw (show 0<5 by omega) (k:=.i64) (i:=0) (by simp);have w3:bh 5 rv aj=some rp:=w3;have w4:aM 5 h8 rp=some (.agg ad.toArray):=w4;have w5:yP.R Z1 h8 ad (bgS a o):=w5;refine aQ (Ext h8) (Ext.refl _) ?_;rw[w3,ah];refine aF (.agg ad.toArray) (λk e=>e.lds w4) ?_;refine ag.at (fZ (B.img.ext e8)) ⟨Ext.refl _,?_⟩;have I:C.d=Tm a o tw th:=y2;obtain⟨N,hN,N1,N2,am⟩:=zf9 (C:=C) B.ok hw.1 hh.1 I;have an:C.d.s=bgS a o:=by rw[I]
 have few:∀x∈C.d.s.x.lines++C.d.s.y.lines,x.2.length≤1073741824:=λx hx=>by
  rcases gP.1 hx with h|h
  ·have:=(CO.s.wf.x.taps x h).1;omega
  ·have:=(CO.s.wf.y.taps x h).1;omega
 have hX:1≤C.d.X:=by rw[I];show 1≤((bgS a o).x.lines.length:Int);have:=B.ok.sx;omega
 have hY:1≤C.d.Y:=by rw[I];show 1≤((bgS a o).y.lines.length:Int);have:=B.ok.sy;omega
 have ay:kY C.m C.d.s:=by rw[y1,an];exact B.ok.suits.1
 obtain⟨z1,z2,_⟩:=ay;have mw:=(xr a).fits;have F:=dB mw;have A:=dB B.ok.fit;have F:0≤C.d.s.x.n*C.d.s.y.n∧C.d.s.x.n*C.d.s.y.n≤4294967296∧0≤C.d.s.x.n*C.d.s.y.n*C.m.c∧C.d.s.x.n*C.d.s.y.n*C.m.c≤268435456:=by
  rw[z1,z2,y1];exact⟨F.2.2.2.2.2.2.1,F.2.2.2.2.2.2.2.1,F.2.2.2.2.2.2.2.2.1,F.2.2.2.2.2.2.2.2.2⟩
 have A:0≤C.d.X*C.d.Y∧C.d.X*C.d.Y≤4294967296∧0≤C.d.X*C.d.Y*C.m.c∧C.d.X*C.d.Y*C.m.c≤268435456:=by
  rw[I,y1];exact⟨A.2.2.2.2.2.2.1,A.2.2.2.2.2.2.2.1,A.2.2.2.2.2.2.2.2.1,A.2.2.2.2.2.2.2.2.2⟩
 have ea:(af (fh a).c:Value)=af C.m.c∧(af (1+tw%13):Value)=af C.d.w∧(af (1+th%13):Value)=af C.d.h:=by rw[y1,I];exact⟨rfl,rfl,rfl⟩
 rw[ea.1,ea.2.1,ea.2.2];rw[←an]at w5;have s8:=e8.1;have sB:=B.ext.1;refine(zcY (room:=1+room%4) w5 (λc hc=>ce (B.zl c hc).2 s8) CO hN ae hX hY few ae ⟨F.2.2.1,ae⟩ ⟨A.2.2.1,ae⟩ ⟨F.1,ae⟩ ⟨A.1,ae⟩).mono λr h9 ⟨Zd,V,er,D,zd,e9⟩=>?_
 subst er;have s9:=e9.1;refine bI ((B.ext.trans (e8.trans e9)).row r5) (by rfl) D.ones (by rfl) λb0 au W=>?_
 rw[aL au 20 (by rfl),ah];right;have eP:Gq K (1+room%4) (C.d.s.x.n*C.d.s.y.n*C.m.c) (C.d.X*C.d.Y*C.m.c)=Gq K (1+room%4) (C.m.w*C.m.h*C.m.c) (C.d.X*C.d.Y*C.m.c):=by rw[z1,z2]
 rw[eP]at D ⊢;have eQ:Gq K (1+room%4) ((fh a).w*(fh a).h*(fh a).c) (((bgS a o).x.lines.length:Int)*(bgS a o).y.lines.length*(fh a).c)=Gq K (1+room%4) (C.m.w*C.m.h*C.m.c) (C.d.X*C.d.Y*C.m.c):=by rw[y1,I];rfl
 rw[eQ]at HP;have a7:=HP;obtain⟨V8,al⟩:=a7;have bd:∀c,eB (some C.E) c→c<h8.size:=λc hc=>al.set.out.ltv hc
 have bg:U<g5.size:=k5;have bo:g3.size≤U:=n5;have u0:ow U=0:=by
  by_cases h:ow U=0
  ·exact h
  ·have:=ar U h;omega
 have ax:=((al.ex e9).base (E5.trans B.ext)).loc W ⟨u0,ae,λhz=>by rcases nz U hz with h|h<;>omega,by show U≠C.bt;omega,λhb=>by have:=L U hb;omega⟩;have E9:=E5.trans (B.ext.trans (e8.trans e9));have aa:∀c,Zd c→g5.size≤c∧c<h9.size∧ow c=0∧¬eB (some C.E) c:=λc hc=>by
  obtain⟨h1,h2⟩:=zd c hc;have q:g5.size≤c∧(c<h7.size∨h8.size≤c):=by
   rcases h1 with h1|h1
   ·exact⟨(B.zl c h1).1,.inl (B.zl c h1).2⟩
   ·exact⟨ae,.inr h1⟩
  refine⟨q.1,h2,?_,λhb=>?_⟩
  ·by_cases h:ow c=0
   ·exact h
   ·have h3:=ar c h;have h4:=(al.ow c h).1;omega
  ·have h3:=L c hb;have h4:=bd c hb;omega
 exact⟨C,Z,K,N,bw,bp,ow,_,_,Zd,V,by rw[y3],⟨B.ok,CO,y1,y2,hK.symm,⟨hN,N1,N2,am⟩,⟨⟨V8,ax⟩,0,R9 hN⟩,rfl,D.fr W.fr λc _ hc h=>by have:=(aa c hc).1;have h:c=U:=h;omega,λc hc=>by have:=L c hc;omega,λc hc=>⟨by have:=(aa c hc).1;omega,by rw[W.1];exact(aa c hc).2.1,(aa c hc).2.2⟩,E9.upd ae W⟩⟩
end Go.Proofs.YtjljhnandbbldaaGreatDoor
namespace Go.Proofs.YtjljhnandbbldaaGreatDoor
open Go Go.Crisp
attribute [local irreducible] ag cO aT stK aG vK qK bL gK eM bC mkK cR HA JA Ep bsK clK vu pP Zb
section
section
variable {h:ai}{a:uj}{o:OpD}{tw th wk room:Int}{C:C21}{Z:Nat→Prop}{K N:Nat}{bw:Nat→Nat}{bp:Nat}{ow:Nat→Nat}{n:Pic}{P:bS}{Zd:Nat→Prop}{V:DV}{h':ai}
theorem Bgn.lt (B:Bgn h a o tw th wk room C Z K N bw bp ow n P Zd V h'):(∀c,ow c≠0→h.size≤c∧c<h'.size)∧∀c,eB (some C.E) c→h.size≤c∧c<h'.size:=by
 obtain⟨⟨D,A⟩,_⟩:=B.go;exact⟨λc hc=>⟨(A.ow c hc).2.1,(A.ow c hc).1⟩,λc hc=>⟨B.ob c hc,A.set.out.ltv hc⟩⟩
theorem Bgn.few (B:Bgn h a o tw th wk room C Z K N bw bp ow n P Zd V h')(A:B8 wk):1≤K∧K≤5∧2*N+K+2+gI C N 0≤190000:=by
 have:=B.k;obtain⟨_,_,D,F⟩:=B.nn;unfold B8 at A;have:0≤wk%5∧wk%5<5:=⟨kD _ ae,iP _ ae⟩
 omega
end
end
end Go.Proofs.YtjljhnandbbldaaGreatDoor
namespace Go.Proofs.YtjljhnandbbldaaGreatDoor
open Go Go.Crisp
attribute [local irreducible] ag cO aT stK aG vK qK bL gK eM bC mkK cR HA JA Ep bsK clK vu pP Zb
open _root_.Go.Proofs.Tryz
theorem zfk {h:ai}(G:fC h){cs os:List Value}{a:uj}{o:OpD}{Z1 Z2 Z3:Nat→Prop}(H:pG.R Z1 h cs a)(WA:a.Wf)(HO:rOp.R Z2 h os o)(WO:Gz [o]){tw th wk room:Int}(h1:B8 tw)(h2:B8 th)(h3:B8 wk)(h4:B8 room){dv:Value}{l:List Int}(HD:Rp.Sl (Rp.int .u8) Z3 h dv l){M:Nat}{F:Value→Value→Value→ai→Prop}
    (HF:∀I h9 A C Z K N bw bp ow n P Zd V bv,Ext h I→l.length≤M→Bgn I a o tw th wk room C Z K N bw bp ow n P Zd V h9→Ext h9 A→h9.size≤bv→A[bv]? =some (.cells (dpC C P V).toArray 48 (0,0))→F (ptr C.bf) (ptr bp) (ptr bv) A):
 aT (Value.cells (.agg cs.toArray)) 25 h λv1 h2=>
 aT (Value.cells (.agg os.toArray)) 31 h2 λv3 h4=>
 ag prog kU #[] h4 λv5 I=>
 vK (unV .not v5) λv7=>
 vK (gV v7 false (some dv)) λv8=>
 vK (gV v7 false (aD v8)) λv9=>
 vK (gV v7 false (ak .i .gtr v9 (af (M:Int)))) λb8=>
 vK (aH v7 (.bool true) b8) λbo=>
 aG bo (
 ag prog kU #[] I λb4 b5=>
  (b4=.bool true∧Ext h b5)) (
 vK (aM 5 I v1) λa8=>
 vK (aM 9 I v3) λb6=>
 ag prog sW #[a8,b6,.int .u8 tw,.int .u8 th,.int .u8 wk,.int .u8 room] I λU b0=>
 vK (aP U 0) λau=>
 vK (aP U 1) λay=>
 vK (aP U 2) λar=>
 vK (aP U 3) λca=>
 aT aK 48 b0 λam bk=>
 stK 20 am ar bk λcp W=>
 vK (unV .not ca) λa7=>
 aG a7 (
 vK (aM 5 W v1) λcc=>
 vK (aM 9 W v3) λbd=>
 ag prog yK #[cc,bd] W λb7 be=>
 vK (unV .not b7) λa9=>
 (a9=.bool true∧Ext h be)) (F au ay am W)):=by
  simp only[bF];refine aI λb1 g1 r1 e1 n1=>aI λb3 g3 r3 e3 n3=>?_
  have E3:=e1.trans e3;have lc:=pG.len H;have lo:=rOp.len HO;refine ag.to (Qe (G.ext E3)) λI e6=>?_
  have L:=E3.trans e6;obtain⟨av,cv,ev⟩:=HD.isSl;have b2:aD dv=some (af (l.length:Int)):=by rw[ev];rfl
  simp only[go_sem,b2];refine aq (λg=>?_) (λg=>?_)
  · refine ag.to (Qe (G.ext L)) λh7 e7=>?_
    exact⟨rfl,L.trans e7⟩
  rw[aL ((e3.trans e6).row r1) 5 lc,ah,aL (e6.row r3) 9 lo,ah];have x0:∀a b c d:Value,aP (.tuple #[a,b,c,d]) 0=some a:=λ_ _ _ _=>rfl
  have x1:∀a b c d:Value,aP (.tuple #[a,b,c,d]) 1=some b:=λ_ _ _ _=>rfl
  have x2:∀a b c d:Value,aP (.tuple #[a,b,c,d]) 2=some c:=λ_ _ _ _=>rfl
  have x3:∀a b c d:Value,aP (.tuple #[a,b,c,d]) 3=some d:=λ_ _ _ _=>rfl
  have nt:unV .not (.bool true)=some (.bool false):=rfl;have nf:unV .not (.bool false)=some (.bool true):=rfl;refine(zbs (G.ext L) (pG.ext H L) WA (rOp.ext HO L) WO h1 h2 h3 h4).mono λr h9 hB=>?_
  rcases hB with⟨hn,e9,bf,u,er,lu,ou⟩|⟨C,Z,K,N,bw,bp,ow,n,P,Zd,V,er,B⟩
  · subst er
    rw[x0,ah,x1,ah,x2,ah,x3,ah];refine aI λbv ax aa ad n10=>?_
    refine bI aa lu ou lu λA an al=>?_
    have D:Ext I A:=(e9.trans ad).upd (by have:=e9.1;omega) al;rw[nf,ah,fK];rw[aL (D.row ((e3.trans e6).row r1)) 5 lc,ah,aL (D.row (e6.row r3)) 9 lo,ah];refine(zeB (G.ext (L.trans D)) (pG.ext H (L.trans D)) WA (rOp.ext HO (L.trans D)) WO).mono λr ci ⟨er,bg⟩=>?_
    rw[er hn,nf,ah];exact⟨rfl,L.trans (D.trans bg)⟩
  subst er;rw[x0,ah,x1,ah,x2,ah,x3,ah];refine aI λbv ax aa ad n10=>?_
  refine bI aa (by rfl) B.d.ones (by rfl) λA an al=>?_
  have cb:Ext h9 A:=ad.upd n10 al;rw[nt,ah,cg];exact HF I h9 A C Z K N bw bp ow n P Zd V bv L ae B cb n10 an
theorem zdq (C:C21)(K:Nat)(P:bS)(i:Int):P.acc.length≤(io C K P i).acc.length:=by
 have note:∀(l:List Acc) x,l.length≤(l++[x]).length:=λl x=>by simp
 unfold io;split
 ·exact ck _
 split
 ·unfold Ds;split
  ·exact ck _
  split
  ·exact ck _
  ·exact note _ _
 ·unfold iH;split
  ·exact ck _
  split
  ·unfold pM;split
   ·exact bA (note _ _) (note _ _)
   ·exact bA (note _ _) (note _ _)
  split
  ·exact ck _
  ·exact ck _
theorem UU {h:ai}{a b:Value}{A lb:List Int}(D:jN h a A)(F:jN h b lb)(G:A.length≤1000000)(e:A=lb):
  ag prog qI #[a,b] h λv h'=>v=.bool true∧h'=h:=by
 apply Rx;unfold Gd;refine ag.at (P6 D F ae) ?_;rw[cH e];exact⟨rfl,rfl⟩
theorem wn {Z:Nat→Prop}{h:ai}{v:Value}{l:List Int}(H:Rp.Sl (Rp.int .i64) Z h v l):jN h v l:=xR H
structure ze9 (C:C21)(Z:Nat→Prop)(K N:Nat)(h0:ai)(bw:Nat→Nat)(bp bv:Nat)(P:bS)(o:Nat→Nat)(n:Pic)(Zd:Nat→Prop)(V:DV)(g:ai):Prop where
 go:GoP C Z K N h0 bw bp o n P g
 row:g[bv]? =some (.cells (dpC C P V).toArray 48 (0,0))
 d:DAt Zd C K N P V g
 z:∀c,Zd c→c<g.size∧o c=0∧¬eB (some C.E) c∧c≠bv
 v:o bv=0∧h0.size≤bv∧¬Z bv∧Az (some C.E) bv∧¬eB (some C.E) bv
 nat:Xq K P
theorem Xf {h:ai}(G:fC h){cs os:List Value}{a:uj}{o:OpD}{Z1 Z2 Z3:Nat→Prop}(H:pG.R Z1 h cs a)(WA:a.Wf)(HO:rOp.R Z2 h os o)(WO:Gz [o]){tw th wk room:Int}(h1:B8 tw)(h2:B8 th)(h3:B8 wk)(h4:B8 room){dv:Value}{l:List Int}(HD:Rp.Sl (Rp.int .u8) Z3 h dv l)(h8:∀x∈l,B8 x)(hl:l.length≤1000000000000000):
  ag prog qJ #[.agg cs.toArray,.agg os.toArray,.int .u8 tw,.int .u8 th,.int .u8 wk,.int .u8 room,dv] h λr h'=>r=.bool true∧Ext h h':=by
 apply G9;unfold wW;refine zfk (M:=300) G H WA HO WO h1 h2 h3 h4 HD λh6 h9 c0 C Z K N bw bp ow n P Zd V W E6 fp B am c9 a7=>?_
 obtain⟨gs,fz⟩:=B.lt;obtain⟨K1,K5,few⟩:=B.few h3;obtain⟨hN,N1,N2,hs⟩:=B.nn;have O:=B.O;have GO:=B.go.ext am;have pn:ak .p .eql (ptr bp) (.pointer none)=some (.bool false):=rfl;have nt:unV .not (.bool true)=some (.bool false):=rfl;have bb:∀b:Bool,ak .b .neq (.bool b) (.bool b)=some (.bool false):=λb=>by cases b<;>rfl
 have ne:∀x:Int,ak .i .neq (af x) (af x)=some (.bool false):=λx=>by rw[me,cH rfl];rfl
 have f12:aC 12 (ptr W)=some (.pointer (some ⟨W,12,none⟩)):=rfl;have f13:aC 13 (ptr W)=some (.pointer (some ⟨W,13,none⟩)):=rfl;have f16:aC 16 (ptr W)=some (.pointer (some ⟨W,16,none⟩)):=rfl;have an:Xq K P:=by rw[B.p];exact zce (C:=C)
 have ci:ze9 C Z K N h6 bw bp W P ow n Zd V c0:=by
  obtain⟨⟨V8,PB⟩,_⟩:=B.go;have g4:=am.1;have fr:=PB.fresh c9;have s9:=B.ext.1;exact⟨GO,a7,B.d.ext am,λc hc=>by obtain⟨a1,a2,a3,a4⟩:=B.zd c hc;exact⟨ae,a3,a4,ae⟩,⟨fr.1,ae,fr.2.1,fr.2.2.1,fr.2.2.2⟩,an⟩
 have dq:1≤bT C.d.s.y.lines:=by rw[B.cd];exact B.ok.most1
 have e1:kY C.m C.d.s:=by rw[B.cm,B.cd];exact B.ok.suits.1
 have mw:gR C.m.w C.m.h C.m.c:=O.m.fits;have nw:gR C.d.X C.d.Y C.m.c:=by rw[B.cm,B.cd];exact B.ok.fit
 have cu:∀{P:bS},Xq K P→∀a∈P.acc,a.when_.length≤1000000:=λh a ha=>by rw[h.aw a ha];omega
 have a8:∀{P:bS} {g:ai} {o':Nat→Nat} {n':Pic},GoP C Z K N h6 bw bp o' n' P g→P.acc.length≤1000000∧P.picks≤300000∧∀j,j<K→(P.ws j).tiles.length≤1000000:=λH=>by
  obtain⟨_,tk,I⟩:=H;have:=I.rem;have:=I.ok.pk;have:=I.ok.ac;exact⟨ae,ae,λj hj=>by have:=I.ok.tn j hj;omega⟩
 have e5:aD dv=some (af (l.length:Int)):=jR HD;have ew:∀{P:bS} {V:DV} {Zd:Nat→Prop} {g:ai},DAt Zd C K N P V g→aD V.wv=some (af (K:Int)):=λH=>by rw[jR H.w];simp
 refine aQ (Ext c0) (Ext.refl _) ?_;rw[f12,f13,f16,pn,ah,db,ah];refine aF (.agg (dpC C P V).toArray) (λg e=>by rw[db];exact aL (e.row a7) 20 rfl) ?_;rw[mc];refine(Mk O GO.1 hN ae ae).mono λr fw ⟨er,b3⟩=>⟨b3,?_⟩
 subst er;rw[mc];refine(Yv (B.d.ext (am.trans b3)) ae).mono λr e7 ⟨er,e4⟩=>?_
 subst er;have al:=b3.trans e4;refine aQ (Ext e7) (Ext.refl _) ?_;rw[db,ne,ah,ji,ah,db,ah,db,ah];refine aF V.wv (λg e=>by rw[db,dn];exact ao ((al.trans e).row a7)) ?_;refine aF (af (K:Int)) (λg e=>by rw[db];exact ew B.d) ?_;have ee:ak .i .add (af (K:Int)) aJ=some (af ((K+1:Nat):Int)):=by
  show some (af (IntKind.i64.wrap _))=_;rw[w64 ae ae];rfl
 have e9:ak .i .add (af (K:Int)) (af 2)=some (af ((K+2:Nat):Int)):=by
  show some (af (IntKind.i64.wrap _))=_;rw[w64 ae ae];rfl
 rw[db,ee,ah,mc];refine ag.at (Qp (GO.1.ext al)) ⟨Ext.refl _,?_⟩;rw[db,ne,ah,ji,ah,db,ah];refine aF (.agg (dpC C P V).toArray) (λg e=>by rw[db];exact aL ((al.trans e).row a7) 20 rfl) ?_;rw[mc];refine(zcS (f:=0) (GO.1.ext al) (B.d.ext (am.trans al)) (a8 GO).1 (cu an) (bZ _)).mono λr gp ⟨er,c8⟩=>?_
 subst er;rw[db,nt,ah,ji,ah,cg,e5,ah];have be:=al.trans c8;have p0:P.picks=0:=by rw[B.p];rfl
 refine bO (α:=Int) l.length 0 (λi t=>[af t,af (i:Int)]) (λi t g=>∃U o' n' c6 V',t=U.picks∧ze9 C Z K N h6 bw bp W U o' n' c6 V' g) 0 rfl (bZ _) ⟨P,ow,n,Zd,V,p0.symm,⟨GO.ext be,be.row a7,(B.d.ext am).ext be,λc hc=>by have q:=ci.z c hc;have:=be.1;exact⟨ae,q.2⟩,ci.v,an⟩⟩ λi t g again ρ _ hi ⟨U,o',n',c6,V',et,PD⟩ dz=>?_
 subst et;simp only[iq,vN];have Eg:Ext h g:=E6.trans PD.go.few.2.2.1;have gr:Ext h6 g:=PD.go.few.2.2.1;rw[cI,ah];refine aq (λc1=>?_) (λc1=>?_)
 ·have b0:i<l.length:=ae;obtain⟨p,a1,a2⟩:=(HD.ext Eg).int_at (k':=.i64) b0;have cr:=h8 _ (cQ b0);unfold B8 at cr;have g5:0≤l[i]%8∧l[i]%8<8:=⟨kD _ ae,iP _ ae⟩
  have sb:ak .i .sub (af (l[i]%8)) aJ=some (af (l[i]%8-1)):=by
   show some (af (IntKind.i64.wrap _))=_;rw[w64 ae ae]
  rw[a1,ah,a2,ah,dS _ _ _ _ ae,ah,jY cr.1,DF,ah,w64 (n:=l[i]%8) ae ae,sb,ah,ah];obtain⟨j,ej⟩:∃j,j=l[i]%8-1:=⟨_,rfl⟩
  rw[←ej];have hj:I64 j:=by unfold I64;omega
  obtain⟨a9,L,D',z',⟨v1,v2,v3,v4,v5⟩,bk⟩:=PD;obtain⟨q1,q2,q3⟩:=a8 a9;have kb:=aW L;have e8:aE g ⟨W,13,none⟩=some V'.av:=ao L;have ea:aD V'.av=some (af (U.acc.length:Int)):=jR D'.a;rw[dn,e8,ah,ea,ah,aL L 20 rfl,ah];obtain⟨tk,I⟩:=a9.2;refine(zbd O D' (λc hc=>(z' c hc).1) I bk ae ⟨K1,ae⟩ a9.1.jobI e1 mw nw q2 dq hj).mono λr ct ⟨u,er,T⟩=>?_
  subst er;obtain⟨Zn,Vn,eu,b6,ei,c5⟩:=T;subst eu;have x0:∀a b:Value,aP (.tuple #[a,b]) 0=some a:=λ_ _=>rfl
  have x1:∀a b:Value,aP (.tuple #[a,b]) 1=some b:=λ_ _=>rfl
  have fs:=c5.1;rw[x0,ah,x1,ah];refine aI λg6 ff eb eg ep=>?_
  refine bI eb (by rfl) b6.ones (by rfl) λc4 ey e6=>?_
  have b2:Ext ct c4:=eg.upd ep e6;have cz:Ext g c4:=c5.trans b2;have fc:=b2.1;rw[aL ey 20 rfl,ah];refine bI (cz.row L) (by rfl) b6.ones (by rfl) λek eh b7=>?_
  have fe:=b7.1;have zn:∀c,Zn c→c<ct.size∧o' c=0∧¬eB (some C.E) c∧c≠W:=λc hc=>by
   obtain⟨w1,w2⟩:=ei c hc;rcases w1 with w1|w1
   ·exact⟨w2,(z' c w1).2⟩
   ·obtain⟨⟨V8,PB⟩,_⟩:=a9;have fr:=PB.fresh w1;exact⟨w2,fr.1,fr.2.2.2,ae⟩
  have b8:GoP C Z K N h6 bw bp o' n' U ek:=by
   obtain⟨⟨V8,PB⟩,I⟩:=a9.ext cz;exact⟨⟨V8,PB.loc b7 ⟨v1,v2,v3,v4,v5⟩⟩,I⟩
  have e3:=(b6.ext b2).fr b7.fr λc _ hc=>(zn c hc).2.2.2
  refine(Z7 O (G.ext E6) b8 hj ae B.ob).mono λr ca ⟨er,o3,n3,A,cc,f83⟩=>?_
  subst er;have g0:=f83.1;have ax:=f83.row eh λh=>h.elim (λh=>h v1) v5
  have aa:=e3.fr f83 λc _ hc h=>h.elim (λh=>h (zn c hc).2.1) (zn c hc).2.2.1
  have bo:=zcf I ae bk j;have cb:=zdq C K U j;have em:∀c,Zn c→c<ca.size∧o3 c=0∧¬eB (some C.E) c∧c≠W:=λc hc=>by
   obtain⟨w1,w2,w3⟩:=zn c hc;exact⟨ae,by rw[cc c ae];exact w2,w3⟩
  have es:o3 W=0:=by rw[cc W ae];exact v1
  rw[bb,ah,cg];refine bB (λxs g'=>g'=ca∧xs=[af (io C K U j).picks]) ?_ ?_
  ·cases hr:fB C K U j with
   | true=>
    rw[fK];have pk:=Sa hr;have ad:ak .i .add (af U.picks) aJ=some (af (io C K U j).picks):=by
     show some (af (IntKind.i64.wrap _))=_;rw[w64 (by have:=I.ok.pk;omega) ae,pk]
    rw[ad,ah];exact⟨rfl,rfl⟩
   |false=>
    have:io C K U j=U:=by unfold io;rw[aB hr]
    rw[cg,this];exact⟨rfl,rfl⟩
  rintro xs ρ' g' ⟨rfl,rfl⟩;generalize io C K U j=P3 at*;simp only[iq];obtain⟨dl,gl,bd⟩:=a8 A;refine aQ (λg=>g=g') rfl ?_;refine ag.at (Xa A.1) ?_;refine aQ (Ext g') (Ext.refl _) ?_;rw[ne,ah,db,ah,db,ah];refine aF (.bool P3.ret) (λg e=>by rw[db,dn];exact ao (e.row ax)) ?_;rw[mc];refine ag.at (Qc A.1) ⟨Ext.refl _,?_⟩;rw[db,bb,ah,ji,ah,db,ah];refine aF (.agg (dpC C P3 Vn).toArray) (λg e=>by rw[db];exact aL (e.row ax) 20 rfl) ?_;rw[mc];refine(Mm O A.1).mono λrv fv NR=>⟨NR.2.1,?_⟩
  rw[mc];obtain⟨gz,I3⟩:=A.2;refine(Yr (aa.ext NR.2.1) hN I3.ok.cl ae).mono λfi cp NW=>?_
  have bg:=NR.2.1.trans NW.2.1;have g3:(EY C K P3 (K+1)).length≤K+1:=Jd _ _ _ _;refine aQ (λg=>g=cp) rfl ?_;rw[mc];refine ag.at (UU (wn (NR.sl.ext NW.2.1)) (wn NW.sl) ae rfl) ?_;refine aQ (λg=>g=cp) rfl ?_;rw[db,nt,ah,ji,ah,db,ah];refine aF (.agg (dpC C P3 Vn).toArray) (λg e=>by rw[db,e];exact aL (bg.row ax) 20 rfl) ?_;rw[db,ah,mc];refine(zcS (f:=U.acc.length) (A.1.ext bg) (aa.ext bg) dl (cu bo) cb).mono λr fa ⟨er,e2⟩=>?_
  subst er;have c7:=bg.trans e2;rw[db,nt,ah,ji,ah,cg];have cw:∀{g},Ext g' g→aE g ⟨W,12,none⟩=some Vn.wv:=λe=>ao (e.row ax)
  rw[ah,dn,cw c7,ah,ew aa,ah,e9,ah];refine bO (α:=Unit) (K+2) 0 (λi _=>[af (i:Int)]) (λi _ g=>Ext g' g) () rfl (bZ _) c7 λm _ b1 F ρ'' _ hm D ay=>?_
  simp only[iq];have gg:Ext h b1:=E6.trans ((A.few.2.2.1).trans D);rw[cI,ah];refine aq (λc2=>?_) (λc2=>?_)
  ·have b4:I64 (m:Int):=by unfold I64;omega
   have up:∀g,vK (ak .i .add (af (m:Int)) aJ) (λv=>F [v] g)↔F [af ((m+1:Nat):Int)] g:=λg=>by
    have:ak .i .add (af (m:Int)) aJ=some (af ((m+1:Nat):Int)):=by
     show some (af (IntKind.i64.wrap _))=_;rw[w64 ae ae];rfl
    rw[this,ah]
   have b5:∀i:Int,(yN K P3 i).length≤1000000:=λi=>by
    unfold yN;split
    ·exact bZ _
    ·exact bd _ ae
   rw[xv,ah];by_cases fq:0<m
   ·rw[cH ae,EP,ah,EP,ah,EP,dn,cw D,ah,EP,ew aa,ah,EP,Ky,ah,Ol,ah];refine aq (λc3=>?_) (λc3=>?_)
    ·obtain⟨k,rfl⟩:∃k:Nat,m=k+1:=⟨m-1,ae⟩
     have hk:k<K:=ae;have sb:ak .i .sub (af ((k+1:Nat):Int)) aJ=some (af (k:Int)):=by
      show some (af (IntKind.i64.wrap _))=_;rw[w64 ae ae,show((k+1:Nat):Int)-1=(k:Int)by omega]
     obtain⟨b,ob,gf,w1,w2,w3,⟨tv,lv,ec,HT,_⟩,_⟩:=(aa.ext D).w.atp (show 0<rVD.w from by show 0<3;omega) (k:=.i64) (i:=k) (by simp;omega);have w1:bh 3 Vn.wv (af (k:Int))=some (.pointer (some ⟨b,ob,none⟩)):=w1;have et:(((List.range K).map λi=>vOf C.E (P3.ws i))[k]'(by simp;omega)).tiles=(P3.ws k).tiles:=by simp[vOf]
     rw[et]at HT;have e0:aC 1 (.pointer (some ⟨b,ob,none⟩))=some (.pointer (some ⟨b,ob+1,none⟩)):=rfl;have ef:aE b1 ⟨b,ob+1,none⟩=some tv:=by have:=w3 1 (by rw[ec];simp);simpa[ec]using this
     rw[ah,dn,cw D,ah,sb,ah,w1,ah,e0,ah,dn,ef,ah];have au:yN K P3 ((k+1:Nat):Int)=(P3.ws k).tiles:=by
      unfold yN;rw[aA ae,show(((k+1:Nat):Int)-1).toNat=k by omega]
     refine(DL (A.1.ext D) b4 bd).mono λrt ar NT=>?_
     refine ag.at (UU (wn NT.sl) (wn (HT.ext NT.2.1)) (b5 _) au) ?_;rw[nt,ah,cg,up];exact ay () ar ae (D.trans NT.2.1)
    ·have au:yN K P3 (m:Int)=[]:=by unfold yN;rw[aB ae]
     refine(DL (A.1.ext D) b4 bd).mono λrt ar NT=>?_
     refine ag.at (UU (lb:=[]) (wn NT.sl) ⟨none,0,rfl,.inl rfl⟩ (b5 _) au) ?_;rw[nt,ah,cg,up];exact ay () ar ae (D.trans NT.2.1)
   ·rw[b9 ae];have au:yN K P3 (m:Int)=[]:=by unfold yN;rw[aB ae]
    simp only[ze3,ah,ji];rw[cg];refine(DL (A.1.ext D) b4 bd).mono λrt ar NT=>?_
    refine ag.at (UU (lb:=[]) (wn NT.sl) ⟨none,0,rfl,.inl rfl⟩ (b5 _) au) ?_;rw[nt,ah,cg,up];exact ay () ar ae (D.trans NT.2.1)
  ·have ez:ak .i .add (af (i:Int)) aJ=some (af ((i+1:Nat):Int)):=by
    show some (af (IntKind.i64.wrap _))=_;rw[w64 ae ae];rfl
   rw[ez,ah];exact dz _ b1 b0 ⟨P3,o3,n3,Zn,Vn,rfl,⟨A.ext D,D.row ax,aa.ext D,λc hc=>by have q:=em c hc;have:=D.1;exact⟨ae,q.2⟩,⟨es,v2,v3,v4,v5⟩,bo⟩⟩
 ·exact⟨trivial,Eg⟩
end Go.Proofs.YtjljhnandbbldaaGreatDoor
namespace Go.Proofs.YtjljhnandbbldaaGreatDoor
open Go Go.Crisp
open _root_.Go.Proofs.Tryz
theorem r_PoolPlays {L:List (String×DataW Unit)}(l:YP L)(h:ai)(args:Array Value)(H:DR prog L h)(R:xJ [.st zat,.st tOp,.int .u8,.int .u8,.int .u8,.int .u8,.sl (.int .u8) 1] h args.toList):
  ag prog qJ args h λr h'=>r=.bool true∧Ext h h':=by
 obtain⟨cs,os,a,o,r0,e0,A,R⟩:=zbD R;obtain⟨x,r1,U,hx,R⟩:=YU R;obtain⟨y,r2,e2,hy,R⟩:=YU R;obtain⟨z,r3,G,I,R⟩:=YU R;obtain⟨u,r4,D,hu,R⟩:=YU R;obtain⟨v,k,r5,e5,S,h8,W,R⟩:=zbJ R;obtain rfl:r5=[]:=R;subst e5 D G e2 U;obtain rfl:args=#[.agg cs.toArray,.agg os.toArray,.int .u8 x,.int .u8 y,.int .u8 z,.int .u8 u,v]:=by cases args;simp_all
 obtain⟨⟨_,h1⟩,h2,⟨_,h3⟩,F⟩:=A;exact Xf (l.glob H) h1 h2 h3 F hx hy I hu S h8 W
end Go.Proofs.YtjljhnandbbldaaGreatDoor
