/- Several texts of this session, one behind the other, without what this claim does not need (put together by its program pack.py). Conditions: none. -/
import Derived.Test.YtjljhnandbbldaaGreatDoorMv3
set_option linter.unusedVariables false
set_option linter.unusedSimpArgs false
set_option maxRecDepth 100000
namespace Go.Proofs.YtjljhnandbbldaaGreatDoor
open Go Go.Crisp
attribute [local irreducible] ag df aW stK aF vK qK bJ gK eK aZ mkK di Fi GM CF bsK clK ud oA V2
open _root_.Go.Proofs.Tryz
section
theorem ev_ne (a b:EvD):ak (.st [(0,1,.i),(1,1,.i),(2,2,(.st [(0,1,.i),(1,1,.i)]))]) .neq (evV a) (evV b)=some (.bool (decide (a≠b))):=by
 obtain⟨a1,a2,a3,a4⟩:=a;obtain⟨A,F,G,D⟩:=b;have e1:(a1==A)=decide (a1=A):=rfl;have I:(a2==F)=decide (a2=F):=rfl;have e3:(a3==G)=decide (a3=G):=rfl;have W:(a4==D)=decide (a4=D):=rfl;simp only[ak,eqV,Gj,Lz,LA,pS,cond_false,cond_true,List.getElem?_toArray,List.getElem?_cons_zero,List.getElem?_cons_succ,if_true,e1,I,Prod.mk.injEq,ne_eq];by_cases h1:a1=A<;>by_cases H:a2=F<;>by_cases L:a3=G<;>by_cases U:a4=D<;>simp[h1,H,L,U,e3,W]
theorem zb3 (a b:EvD):ak (.st [(0,1,.i),(1,1,.i),(2,2,(.st [(0,1,.i),(1,1,.i)]))]) .eql (evV a) (evV b)=some (.bool (decide (a=b))):=by
 obtain⟨a1,a2,a3,a4⟩:=a;obtain⟨A,F,G,D⟩:=b;have e1:(a1==A)=decide (a1=A):=rfl;have I:(a2==F)=decide (a2=F):=rfl;have e3:(a3==G)=decide (a3=G):=rfl;have W:(a4==D)=decide (a4=D):=rfl;simp only[ak,eqV,Gj,Lz,LA,pS,cond_false,cond_true,List.getElem?_toArray,List.getElem?_cons_zero,List.getElem?_cons_succ,if_true,e1,I,Prod.mk.injEq,ne_eq];by_cases h1:a1=A<;>by_cases H:a2=F<;>by_cases L:a3=G<;>by_cases U:a4=D<;>simp[h1,H,L,U,e3,W]
abbrev YZ:Pic:=⟨0,0,0,0,[]⟩
abbrev noZ:Nat→Prop:=λ_=>False
theorem Cv.none {w:WD}{n n':Pic}(D:Cv none w n n'):n'=n:=by
 have:=D.2;cases h:w.job<;>simp only[h]at this<;>exact this
def StepN (B Q:Nat→Prop)(M:Nat→Prop)(h h':ah)(bw bq:Nat)(w:WD)(d:QD):Prop:=
 ∃B' Q',IsW noZ B' h' bw none YZ w∧IsQ Q' h' bq d∧(∀c,B' c→B c∨h.size≤c)∧(∀c,Q' c→Q c∨h.size≤c)∧(∀c,B' c→¬Q' c)∧Fr (λc=>B c∨Q c∨M c) h h'
section
variable {B Q:Nat→Prop}{h:ah}{bw bq:Nat}{w:WD}{d:QD}
theorem I9 (H:IsW noZ B h bw none YZ w)(G:IsQ Q h bq d)(L:w.tiles.length≤1000000)(A:∀c,B c→¬Q c):
  ag prog cO #[ptr bw,ptr bq,.nilFunc] h λr h'=>r=evV (cL none none w d).2.2∧StepN B Q noZ h h' bw bq (cL none none w d).1 (cL none none w d).2.1:=
 (WV (Z:=noZ) (ov:=.nilFunc) (jo:=none) (Qo:=noZ) (P0:=λ_=>True) (P1:=λ_=>True) H G L (λ_=>.inl ⟨rfl,rfl,λ_ h=>h⟩) A (λ_ _=>⟨id,trivial,id⟩) (λ_ h=>h.elim) (λ_ _ _=>⟨id,id⟩) trivial).mono
  λr h' ⟨e,⟨⟨n',B',Q',W,q,U,F,I,D⟩,f⟩,_⟩=>by
   have:=D.none;subst this;exact⟨e,B',Q',W,q,U,F,I,f.mono λc _ hc=>hc.elim (λh=>h.elim) id⟩
end
theorem Vv {h:ah}(G:eB h):ag prog xH #[] h λr h'=>r=.bool true∧Ext h h':=by
 apply Me;unfold A5;refine JP.mono λr h1 ⟨bw,A,r1,I,n1⟩=>?_
 subst A;refine ZV.mono λr h2 ⟨bq,A,Q2,e2,n2⟩=>?_
 subst A;have E2:=I.trans e2;refine ag.to (Vw (G.ext E2)) λh3 L=>?_
 have H:=E2.trans L;have lw:=bB r1;have W3:IsW noZ (λc=>c=bw) h3 bw none YZ ⟨0,[],none,0⟩:=IsW.new ((e2.trans L).row r1) id trivial id (λ_ h=>h.elim) λ_ h=>by cases h
 have Q3:=Q2.ext L;simp only[go_sem,UP];refine(I9 W3 Q3 (by simp) λc hc hq=>by have hq:c=bq:=hq;have hc:c=bw:=hc;omega).mono λr h4 ⟨A,B4,q4,U,W,k1,k2,k3,f4⟩=>?_
 subst A;have s1:cL none none ⟨0,[],none,0⟩ ⟨min (max 1 1) 4096,[],false⟩=(⟨0,[],none,0⟩,⟨1,[],false⟩,(0,0,0,0)):=rfl;rw[s1]at U W ⊢;have E4:Ext h h4:=H.then_fr f4 λc hc=>by
  rcases hc with hc|hc|hc
  ·rw[show c=bw from hc];exact n1
  ·rw[show c=bq from hc];exact bh I.1 n2
  ·exact hc.elim
 have F:∀c,B4 c→h.size≤c:=λc hc=>(k1 c hc).elim (λh=>by rw[h];exact n1) λh=>bh H.1 h
 have D:∀c,q4 c→h.size≤c:=λc hc=>(k2 c hc).elim (λh=>by rw[h];exact bh I.1 n2) λh=>bh H.1 h
 have f0:aM #[ai,ai,ai,ai] []=some #[ai,ai,ai,ai]:=rfl;have f3:aM #[ai,ai,ai,ai] [(0,1,af 3)]=some #[af 3,ai,ai,ai]:=rfl;have n0:=ev_ne (0,0,0,0) (0,0,0,0);have q0:=zb3 (0,0,0,0) (0,0,0,0);have q3:=zb3 (3,0,0,0) (3,0,0,0);simp only[go_sem,f0,bG,n0,ne_eq,not_true,KQ];refine ag.at (Fq U W) ?_;have d1:decide ((0:Int)=1∨((0:Int)=0∧dE ⟨1,[],false⟩≠1))=false:=rfl;rw[d1];simp only[go_sem];refine(Ua W).mono λ_ h5 ⟨_,Q5,f5⟩=>?_
 have W5:=U.other f5 (λc h=>h.elim) k3 (λ_ h=>by cases h) (eo.refl _);have E5:=E4.then_fr f5 D;refine ag.at (Fq W5 Q5) ?_;have d2:decide ((0:Int)=1∨((0:Int)=0∧dE ⟨1,[],true⟩≠1))=true:=rfl;rw[d2];simp only[go_sem];refine(I9 W5 Q5 (by simp) k3).mono λr h6 ⟨A,B6,q6,W6,Q6,l1,l2,l3,f6⟩=>?_
 subst A;have s2:cL none none ⟨0,[],none,0⟩ ⟨1,[],true⟩=(⟨2,[],none,0⟩,⟨1,[],true⟩,(3,0,0,0)):=rfl;rw[s2]at W6 Q6 ⊢;have E6:Ext h h6:=E5.then_fr f6 λc hc=>hc.elim (F c) λhc=>hc.elim (D c) λhc=>hc.elim
 simp only[go_sem,f3,bG,q3,gm];refine(I9 W6 Q6 (by simp) l3).mono λr h7 ⟨A,B7,q7,W7,Q7,m1,m2,m3,f7⟩=>?_
 subst A;have s3:cL none none ⟨2,[],none,0⟩ ⟨1,[],true⟩=(⟨2,[],none,0⟩,⟨1,[],true⟩,(0,0,0,0)):=rfl;rw[s3]at W7 Q7 ⊢;have E7:Ext h h7:=E6.then_fr f7 λc hc=>by
  have hs:=E5.1;rcases hc with hc|hc|hc
  ·exact(l1 c hc).elim (F c) λh=>ae
  ·exact(l2 c hc).elim (D c) λh=>ae
  ·exact hc.elim
 simp only[go_sem,f0,bG,q0,gm];refine ag.at (zbE W7) ?_;simp only[go_sem];exact⟨trivial,E7⟩
end
end Go.Proofs.YtjljhnandbbldaaGreatDoor
namespace Go.Proofs.YtjljhnandbbldaaGreatDoor
open Go Go.Crisp
attribute [local irreducible] ag df aW stK aF vK qK bJ gK eK aZ mkK di Fi GM CF bsK clK ud oA V2
structure zda (h0:ah)(T:TypeId)(N:Pic)(im:Option (Nat×Value))(va:Option (Nat×Bool))(g:ah):Prop where
 ext:Ext h0 g
 mi:∀p,im=some p→db g p.1 p.2 N∧h0.size≤p.1∧∀c,blk p.2 c→h0.size≤c
 av:∀q,va=some q→h0.size≤q.1∧g[q.1]? =some (.cells #[if q.2 then(match im with|some p=>ptr p.1|none=>.pointer none)else .pointer none] T (0,0))
 dis:∀p q,im=some p→va=some q→p.1≠q.1∧¬blk p.2 q.1
theorem zda.st {h0 g:ah}{T:TypeId}{N:Pic}{b bt:Nat}{vt:Value}{K:Value→ah→Prop}(M:zda h0 T N (some (bt,vt)) (some (b,false)) g)(H:∀A,zda h0 T N (some (bt,vt)) (some (b,true)) A→K undef A):stK 1 (ptr b) (ptr bt) g K:=by
 obtain⟨a1,a2⟩:=M.av _ rfl;obtain⟨d1,d2⟩:=M.dis _ _ rfl rfl;refine b9 a2 (by simp) rfl λA r u=>H A ⟨M.ext.upd a1 u,λp D=>?_,λq hq=>?_,λp q D hq=>?_⟩
 ·cases D;obtain⟨F,G⟩:=M.mi _ rfl;exact⟨F.fr u.fr d1 λc I L=>d2 (L▸I),G⟩
 ·cases hq;exact⟨a1,r⟩
 ·cases D;cases hq;exact⟨d1,d2⟩
theorem zaA {Z:Nat→Prop}{h:ah}{sv:Value}{s:Stg}(H:Rp.Sl D8 Z h sv [s]):∃p q b o,bu 3 sv ai=some (.pointer (some ⟨b,o,none⟩))∧aG h ⟨b,o,none⟩=some p∧aG h ⟨b,o+1,none⟩=some q∧SlC 3 h sv 1 [p,q,af s.border]∧(∀c,blk sv c→Z c)∧fG Z h p s.x∧fG Z h q s.y:=by
 obtain⟨ds,⟨D,a,cap,rfl,A⟩,G,L⟩:=H;have D:ds.length=3:=D;have F:D8.R Z h (Rp.el 3 ds 0) s:=L 0 (by simp);rw[Rp.el_self D]at F;obtain⟨p,q,rfl,I,hq⟩:=F;rcases A with h0|⟨b,o,rfl,A⟩
 ·cases h0
 ·exact⟨p,q,b,o,rfl,A 0 (by simp),A 1 (by simp),⟨rfl,_,cap,rfl,.inr ⟨b,o,rfl,A⟩⟩,λc hc=>G (by simp) c hc,I,hq⟩
abbrev Qs (a:sT)(o:OpD)(tw th:Int):dn:=⟨bgS a o,1+tw%13,1+th%13⟩
section
theorem kR {d:dn}(W:d.Wf){i:Int}(h0:0≤i)(h1:i<bX d):fj d.s (aT d i).x (aT d i).y (aT d i).w (aT d i).h:=by
 have A:=Lj W h0 h1;have D:=W.w;have hh:=W.h;unfold fm at D hh;unfold dn.X dn.Y at A;show 1≤tQ d i∧1≤vV d i∧0≤jR d i∧0≤kf d i∧jR d i<_∧kf d i<_∧tQ d i≤d.s.x.lines.length-jR d i∧vV d i≤d.s.y.lines.length-kf d i;unfold tQ vV dn.X dn.Y;omega
def Px (d:dn)(i:Int):cZ×Int×Int:=(aT d i,(aT d i).y,lnF d.s.y (aT d i).y)
structure C21 where
 bm:Nat
 bn:Nat
 bs:Nat
 bp:Nat
 bf:Nat
 vf:Value
 bt:Nat
 vt:Value
 p:Value
 q:Value
 rv:Value
 bl:Nat
 pp:Value
 pq:Value
 m:Pic
 d:dn
 bw:Nat
 bq:Nat
abbrev C21.E (C:C21):WE:=⟨C.bf,C.vf,C.bt,C.vt,C.p,C.q,C.m,C.d.s⟩
structure C21.Ok (C:C21):Prop where
 m:C.m.Wf
 d:C.d.Wf
 s:Cf C.d.s
abbrev C21.jo (C:C21)(i:Int):Option (cZ×Int×Int):=some (Px C.d i)
abbrev C21.suits (C:C21)(n:Pic):Prop:=n.Wf∧lC C.m n C.d.s
theorem C21.newC {C:C21}(O:C.Ok){n:Pic}(S:C.suits n){i:Int}(h0:0≤i)(h1:i<bX C.d):nI C.m n C.d.s (aT C.d i)=0:=pZ.2 ⟨S.2,kR O.d h0 h1⟩
section
variable {C:C21}{Z:Nat→Prop}{g:ah}{n:Pic}{x:Int}
theorem VI.has {h':ah}{r:Value}(O:C.Ok)(S:C.suits n)(h0:0≤x)(h1:x<bX C.d)(H:VI Z g C.bf C.vf C.bt C.vt C.p C.q C.m n C.d.s (aT C.d x) r h'):
  ∃bj rv,r=.tuple #[ptr bj,ai]∧Ext g h'∧jD Z (qD (λ_=>False) g h') h' (some C.E) n (ptr bj) (C.jo x)∧kK Z (qD (λ_=>False) g h') h' bj C.bf C.vf C.bt C.vt C.p C.q rv ⟨C.m,C.d.s,aT C.d x⟩ (aT C.d x).y (lnF C.d.s.y (aT C.d x).y) n (kE (cD C.d.s.y.lines)) (gP ((aT C.d x).w*C.m.c)):=by
 have hc:=C21.newC O S h0 h1;obtain⟨bj,rv,A,e,J⟩:=H.go hc;exact⟨bj,rv,A,e,⟨C.E,rfl,⟨O.m,O.s⟩,hc,bj,rv,rfl,J⟩,J⟩
end
end
def muJ (E:WE):Option (cZ×Int×Int)→Nat
 |none=>0
 |some (t,y,e)=>rV (E.d t) y e
def qa (C:C21)(i:Int):Nat:=rV (C.E.d (aT C.d i)) (aT C.d i).y (lnF C.d.s.y (aT C.d i).y)
theorem Pm {E:WE}{t:cZ}{y e:Int}:muJ E (cH (some E) (some (t,y,e)))=rV (E.d t) y e:=by
 show muJ E (if cj (E.d t) y e=0 then none else some (t,y,e))=_;split
 ·rename_i h;rw[Y8.2 h];rfl
 ·rfl
theorem Sn {o:OpD}(h:¬mz 12 o):(dy o).length≤41:=by
 unfold mz at h;have hu:∀l:List Int,(rk l).length≤l.length:=λl=>by unfold rk;split<;>simp
 unfold dy;split
 ·unfold oF;split
  ·simp
  ·rename_i A;unfold mo at A;rw[cV,fg];unfold gJ;omega
 split
 ·unfold yx;split
  ·simp
  ·rename_i A;unfold uu at A;have:=hu (List.replicate (2*o.radius+1).toNat 1);rw[vv]at this;omega
 ·have:=hu o.y;omega
theorem XK {o:OpD}{w h:Int}(hc:fu o w h=0)(G:¬mz 12 o)(H:h≤12):cD (ch o w h).y.lines≤80:=by
 have A:jN o w h=0:=by
  unfold fu at hc;split at hc
  ·cases hc
  ·exact hc
 show cD (gQ o h).lines≤_;unfold jN at A;unfold gQ;split
 ·rename_i D;rw[aA D]at A;by_cases h1:eI o.filter w o.w=0
  ·rw[az (by simpa using h1)]at A;have:=Gq A;omega
  ·rw[aA h1]at A;exact absurd A h1
 ·rename_i D;rw[az D]at A;have I:=Sn G;have F:jV (dy o) h=0:=by
   split at A
   ·exact absurd A (by assumption)
   ·split at A
    ·exact absurd A (by assumption)
    ·exact A
  have:=HU _ _ F;omega
theorem Ps {d:fK}{M:Nat}(A:cD d.s.y.lines≤M):∀(k:Nat) (y e:Int),lnF d.s.y y≤e→mm d k y e≤k*(M+1)
 |0,_,_,_=>by unfold mm;omega
 |k+1,y,e,he=>by
  have h1:=Ps A k (y+1) (max (lnE d.s.y y) (lnF d.s.y (y+1))) ae;have D:=IQ d.s.y y;rw[ef,sN];unfold mm;unfold lnE lnF at*;omega
def ji (C:C21):Nat→Nat→Nat
 |0,_=>0
 |j+1,i=>qa C i+ji C j (i+1)
theorem SC {C:C21}{H M:Nat}(A:cD C.d.s.y.lines≤M)(hh:∀i:Nat,(aT C.d i).h≤H):∀j i,ji C j i≤j*(H*(M+1))
 |0,_=>by simp[ji]
 | j+1,i=>by
  have h1:=SC A hh j (i+1);have D:qa C i≤H*(M+1):=by
   unfold qa rV;refine bh (Ps (d:=C.E.d (aT C.d i)) A _ _ _ (gC _)) (ic _ ?_);have:=hh i;show((aT C.d i).y+(aT C.d i).h-(aT C.d i).y).toNat≤H;omega
  unfold ji;rw[ef,sN];omega
theorem Pk {n size:Int}(I:1≤n∧n≤12)(D:1≤size∧size≤13):1≤dG n size∧dG n size≤12∧dG n size*min size n≤24:=by
 unfold dG;have h1:=vw (n+size-1) size;have G:=ks (n+size-1) (show size≠0 by omega);have H:=iF (n+size-1) (show 0<size by omega);generalize(n+size-1)/size=k at*;generalize(n+size-1)%size=r at*;rcases mU n size with h|h
 ·have:k=1:=by
   have a1:k<2:=by
    refine Re λA=>?_
    have:size*2≤size*k:=qR A ae;omega
   have a2:0<k:=by
    refine Re λA=>?_
    have:size*k≤size*0:=qR A ae;omega
   omega
  subst this;omega
 ·have F:k*min size n=size*k:=by rw[show min size n=size by omega,fQ]
  rw[F];have a2:0<k:=by
   refine Re λA=>?_
   have:size*k≤size*0:=qR A ae;omega
  have a3:1*k≤size*k:=sK D.1 ae;refine⟨ae,?_,ae⟩;refine Int.le_of_not_gt λA=>?_
  have:size*13≤size*k:=qR ae ae;omega
theorem zc7 {a:sT}{o:OpD}(B:OV a o){tw th:Int}(hw:0≤tw)(hh:0≤th){C:C21}(W:C.d=Qs a o tw th):∃N:Nat,(N:Int)=bX C.d∧1≤N∧N≤144∧ji C N 0≤23328:=by
 have ad:=B.sx;have ab:=B.sy;have al:0≤tw%13∧tw%13<13:=⟨ks _ ae,iF _ ae⟩
 have aa:0≤th%13∧th%13<13:=⟨ks _ ae,iF _ ae⟩
 have px:=Pk (n:=(bgS a o).x.lines.length) (size:=1+tw%13) ae ae;have L:=Pk (n:=(bgS a o).y.lines.length) (size:=1+th%13) ae ae;have hc:bX C.d=dG (bgS a o).x.lines.length (1+tw%13)*dG (bgS a o).y.lines.length (1+th%13):=by rw[W];rfl
 have hm:cD C.d.s.y.lines≤((80:Nat):Int):=by
  rw[W];exact XK B.made B.little (by have:=BW a;omega)
 obtain⟨H,I⟩:∃H:Nat,(H:Int)=min (1+th%13) (bgS a o).y.lines.length:=⟨(min (1+th%13) (bgS a o).y.lines.length).toNat,ae⟩
 have hH:∀i:Nat,(aT C.d i).h≤H:=by
  intro i;rw[I,W];show min (1+th%13) ((bgS a o).y.lines.length-kf _ _)≤_;have:0≤kf (Qs a o tw th) i:=by
   unfold kf;refine mV (y8 ae ?_) (by show 0≤1+th%13;omega);show 0≤dG (bgS a o).x.lines.length (1+tw%13);omega
  omega
 have U:=SC (C:=C) hm hH;rw[hc]
 revert U px L I
 generalize dG (bgS a o).x.lines.length (1+tw%13)=A;generalize dG (bgS a o).y.lines.length (1+th%13)=D;intro px L I U;obtain⟨G,rfl⟩:∃G:Nat,(G:Int)=A:=⟨A.toNat,ae⟩
 obtain⟨F,rfl⟩:∃F:Nat,(F:Int)=D:=⟨D.toNat,ae⟩
 have e1:G*F≤12*12:=zg ae ae;have e2:1*1≤G*F:=zg ae ae;have e3:F*H≤24:=by
  have:((F*H:Nat):Int)≤24:=by rw[lV,I];exact L.2.2
  omega
 refine⟨G*F,by rw[lV],ae,e1,bh (U _ _) ?_⟩;have e4:G*F*(H*81)=G*(F*H)*81:=by rw[uh,←uh F H 81,←uh]
 have e5:G*(F*H)≤12*24:=zg ae e3;show G*F*(H*81)≤_;omega
end Go.Proofs.YtjljhnandbbldaaGreatDoor
namespace Go.Proofs.YtjljhnandbbldaaGreatDoor
open Go Go.Crisp
attribute [local irreducible] ag df aW stK aF vK qK bJ gK eK aZ mkK di Fi GM CF bsK clK ud oA V2
open _root_.Go.Proofs.Tryz
def YN:Rp cZ where
 w:=10
 R:=λ_ _ cs t=>cs=dA t
 len:=by rintro _ _ _ _ rfl;rfl
 one:=by rintro _ _ _ _ rfl;exact kj _
 fr:=by rintro _ _ _ _ _ _ rfl _ _;rfl
 mono:=by rintro _ _ _ _ _ rfl _;rfl
def eN (d:dn)(N:Nat):List cZ:=(List.range N).map λi:Nat=>aT d i
theorem Yc {Z:Nat→Prop}{h:ah}{b:Nat}{d:dn}{p q:Value}(H:sV Z h b d p q)(W:d.Wf){N:Nat}(hN:(N:Int)=bX d)(ab:N≤4096):ag prog tf #[ptr b] h λr h'=>New YN h h' r (eN d N):=by
 apply IJ;unfold yf;refine ag.at (C8 H W) ?_;rw[←hN];refine bH (α:=Value) N 0 (λi v=>[v,af (i:Int)]) (λi v g=>New YN h g v (eN d i)) (.slice none 0 0) rfl (bZ _) (New.nil (Ext.refl _)) λi v g again ρ _ hi I F=>?_
 simp only[gX,vC];rw[cq,aj];refine ao (λg1=>?_) (λg1=>?_)
 ·have G:i<N:=ae;refine ag.to (vH (H.ext I.2.1) W (i:=i) ae ae) λg2 e2=>?_
  have x0:aL (.tuple #[.agg (dA (aT d i)).toArray,.bool true]) 0=some (.agg (dA (aT d i)).toArray):=rfl;have U:aL (.tuple #[.agg (dA (aT d i)).toArray,.bool true]) 1=some (.bool true):=rfl;simp only[go_sem,x0,U];refine dk (cs:=dA (aT d i)) rfl (kj _) rfl λb3 g3 r3 e3 n3=>?_
  rw[aU r3 10 rfl,aj];have A:=I.ext (e2.trans e3);have L:(eN d i).length=i:=by simp[eN]
  refine Rp.push_ow (e:=YN) (x:=aT d i) A.1 rfl rfl rfl (by rw[L];omega) (by rw[L];omega) (λ_ h=>h.elim) λv4 g4 o4 f4 n4=>?_
  have D:(i:Int)+1=((i+1:Nat):Int):=ae
  try simp only[go_sem]
  rw[w64 (n:=(i:Int)+1) ae ae,D];have e1:eN d (i+1)=eN d i++[aT d i]:=by simp[eN,lU]
  have aa:=A.2.1.1;refine F v4 g4 G ⟨by rw[e1];exact o4,A.2.1.then_fr f4 A.2.2,λc hc=>(n4 c hc).elim (A.2.2 c) λh=>ae⟩
 ·have:i=N:=ae;subst this;exact I
def MU (t:cZ)(x y:Int):Prop:=t.x≤x∧x<t.x+t.w∧t.y≤y∧y<t.y+t.h
theorem Uy {d:dn}(W:d.Wf){x y:Int}(x0:0≤x)(L:x<d.X)(y0:0≤y)(y1:y<d.Y):∃i:Nat,(i:Int)<bX d∧MU (aT d i) x y:=by
 have G:=W.w;have hh:=W.h;unfold fm at G hh;have a1:=vw x d.w;have a2:=ks x (show d.w≠0 by omega);have a3:=iF x (show 0<d.w by omega);have I:=vw y d.h;have b2:=ks y (show d.h≠0 by omega);have U:=iF y (show 0<d.h by omega);have D:0≤x/d.w:=y8 x0 ae;have H:0≤y/d.h:=y8 y0 ae;have F:x/d.w<dC d:=by
  unfold dC dG;apply V7;rw[ui ae,jw,kp,fQ];omega
 have r1:y/d.h<dG d.Y d.h:=by
  unfold dG;apply V7;rw[ui ae,jw,kp,fQ];omega
 have hc:(y/d.h+1)*dC d≤dG d.Y d.h*dC d:=sK ae ae;rw[jw,kp]at hc;have A:0≤y/d.h*dC d+x/d.w:=by
  have:=mV H (show 0≤dC d by omega);omega
 refine⟨(y/d.h*dC d+x/d.w).toNat,?_,?_⟩
 ·rw[wT A];unfold bX;rw[fQ (dC d)];omega
 ·rw[wT A];have m1:(y/d.h*dC d+x/d.w)%dC d=x/d.w:=by
   rw[Int.add_comm,Int.add_mul_emod_self_right,Int.emod_eq_of_lt D F]
  have m2:(y/d.h*dC d+x/d.w)/dC d=y/d.h:=by
   rw[Int.add_comm,Rk _ _ ae,qQ D F,Int.zero_add]
  show jR d _≤x∧x<jR d _+tQ d _∧kf d _≤y∧y<kf d _+vV d _;unfold tQ vV jR kf;rw[m1,m2,fQ (x/d.w),fQ (y/d.h)];omega
def zbU (C:C21)(k:Nat)(jo:Option (cZ×Int×Int))(n:Pic):Prop:=
 ∀x y c,inP n x y c→∀i:Nat,i<k→MU (aT C.d i) x y→(∀t yy e,jo=some (t,yy,e)→i+1=k→y<yy)→atP n x y c=xp C.m C.d.s x y c
theorem S9 {C:C21}(O:C.Ok){N:Nat}{n:Pic}(hN:(N:Int)=bX C.d)(P:zbU C N none n)(su:C.suits n):n.l=(Ce C.m C.d.s).l:=by
 obtain⟨s1,A,D,L,s5⟩:=su.2;have hf:=dH O.m.fits;refine YU su.1 ?_ ⟨A.symm,D.symm,L.symm,s5.symm⟩ λx y c hi=>?_
 ·show(((List.range (C.d.s.y.lines.length*C.d.s.x.lines.length*C.m.c.toNat)).map _).length:Int)=(C.d.s.x.lines.length:Int)*(C.d.s.y.lines.length:Int)*C.m.c;rw[cV,fg,lV,lV,wT ae,fQ (C.d.s.y.lines.length:Int)]
 ·obtain⟨h1,H,F,I,W,U⟩:=hi;obtain⟨i,aa,G⟩:=Uy O.d h1 (by show x<(C.d.s.x.lines.length:Int);rw[←A];exact H) F (by show y<(C.d.s.y.lines.length:Int);rw[←D];exact I);rw[P x y c ⟨h1,H,F,I,W,U⟩ i ae G λ_ _ _ h=>by cases h];rw[Yv];exact⟨h1,by show x<(C.d.s.x.lines.length:Int);rw[←A];exact H,F,by show y<(C.d.s.y.lines.length:Int);rw[←D];exact I,W,by show c<C.m.c;rw[←L];exact U⟩
section
theorem JT {h:ah}{Z:Nat→Prop}{v:Value}{l:List (Int×List Int)}(H:Rp.Sl mh Z h v l)(hl:l.length≤1000000000)(hb:∀x∈l,x.2.length≤1073741824){a b:Int}:ag prog qU #[v,af a,af b] h λr h'=>(∃x y c,r=.tuple #[af x,af y,.bool c])∧Ext h h':=by
 apply LY;unfold AP;obtain⟨av,cv,ev⟩:=H.isSl;have el:aD v=some (af (l.length:Int)):=by rw[ev];rfl
 rw[el,aj];refine bH (α:=Int×Int×Bool) l.length 0 (λi s=>[af s.1,af s.2.1,.bool s.2.2,af (i:Int)]) (λi s g=>Ext h g) (0,0,false) rfl (bZ _) (Ext.refl _) λi s g again ρ _ hi E U=>?_
 simp only[gX,vC,za1,zcr];rw[cq,aj];refine ao (λg1=>?_) (λg1=>?_)
 ·have D:i<l.length:=ae;have I:(i:Int)+1=((i+1:Nat):Int):=ae;obtain⟨pt,cs,q1,q2,u,q3,q4⟩:=(H.ext E).atw (show 0<2 by omega) (k:=.i64) (i:=i) D;have q1:bu 2 v (af (i:Int))=some pt:=q1;have q2:aO 2 g pt=some (.agg cs.toArray):=q2;subst q3;rw[q1,aj,q2,aj];refine dk (cs:=[af l[i].1,u]) rfl (aq rfl (aq q4.one aX)) rfl λb5 W r5 e5 n5=>?_
  have c0:aG W ⟨b5,0,none⟩=some (af l[i].1):=am r5;have c1:aG W ⟨b5,1,none⟩=some u:=am r5;obtain⟨au,cu,eu⟩:=q4.isSl;have ab:aD u=some (af (l[i].2.length:Int)):=by rw[eu];rfl
  simp only[go_sem,aK,c1,ab];refine ao (λg2=>?_) (λg2=>?_)
  ·rw[w64 (n:=(i:Int)+1) ae ae,I];exact U s W D (E.trans e5)
  ·have ad:=hb l[i] (cQ D);refine bH (α:=Int×Int×Bool) l[i].2.length 0 (λj s=>[af s.1,af s.2.1,.bool s.2.2,af (j:Int)]) (λj s g'=>g'=W) s rfl (bZ _) rfl λj s' g' aa ρ' _ hj eg A=>?_
   subst eg;simp only[gX,vC,za1,zcr];rw[cq,aj];refine ao (λg3=>?_) (λg3=>?_)
   ·have G:j<l[i].2.length:=ae;have F:(j:Int)+1=((j+1:Nat):Int):=ae;simp only[go_sem,aK,c0];refine bi (λxs L=>(∃n,xs=[af n])∧L=g') ?_ ?_
    ·obtain⟨s1,s2,s3⟩:=s';cases s3<;>simp only[go_sem]
     ·exact⟨⟨_,rfl⟩,trivial⟩
     ·refine ao (λ_=>?_) (λ_=>?_)
      ·exact⟨⟨_,rfl⟩,trivial⟩
      ·exact⟨⟨_,rfl⟩,trivial⟩
    ·rintro xs ρ'' L ⟨⟨n,rfl⟩,rfl⟩;obtain⟨s1,s2,s3⟩:=s';simp only[gX];cases s3<;>simp only[go_sem]
     ·rw[w64 (n:=(j:Int)+1) ae ae,F];exact A (n,_,true) _ G rfl
     ·refine ao (λ_=>?_) (λ_=>?_)
      ·rw[w64 (n:=(j:Int)+1) ae ae,F];exact A (n,_,true) _ G rfl
      ·rw[w64 (n:=(j:Int)+1) ae ae,F];exact A (n,s2,true) _ G rfl
   ·rw[w64 (n:=(i:Int)+1) ae ae,I];exact U s' _ D (E.trans e5)
 ·exact⟨⟨_,_,_,rfl⟩,E⟩
theorem S7 {n size:Int}(A:1≤size)(j:Int):j*size<n↔j<dG n size:=by
 unfold dG;rw[show(j<(n+size-1)/size)↔(j+1≤(n+size-1)/size)from Iff.rfl,ui ae,jw,kp];omega
structure VD where
 state:Int
 tiles:List Int
 left:List (Int×Int)
def rVD:Rp VD where
 w:=3
 R:=λZ h cs v=>∃t l,cs=[.int .i64 v.state,t,l]∧Rp.Sl (Rp.int .i64) Z h t v.tiles∧Rp.Sl Av Z h l v.left∧Rp.SlCap l
 len:=by rintro _ _ _ _ ⟨_,_,rfl,_⟩;rfl
 one:=by
  rintro _ _ _ _ ⟨_,_,rfl,H,K,_⟩;exact aq rfl (aq H.one (aq K.one aX))
 fr:=by rintro _ _ _ _ _ _ ⟨t,l,rfl,H,K,c⟩ f q;exact⟨t,l,rfl,H.fr f q,K.fr f q,c⟩
 mono:=by rintro _ _ _ _ _ ⟨t,l,rfl,H,K,c⟩ q;exact⟨t,l,rfl,H.mono q,K.mono q,c⟩
def zch:Rp (List (Int×Int)) where
 w:=1
 R:=λZ h cs l=>∃v,cs=[v]∧Rp.Sl Av Z h v l∧Rp.SlCap v
 len:=by rintro _ _ _ _ ⟨_,rfl,_⟩;rfl
 one:=by
  rintro _ _ _ _ ⟨_,rfl,H,_⟩;exact aq H.one aX
 fr:=by rintro _ _ _ _ _ _ ⟨v,rfl,H,c⟩ f q;exact⟨v,rfl,H.fr f q,c⟩
 mono:=by rintro _ _ _ _ _ ⟨v,rfl,H,c⟩ q;exact⟨v,rfl,H.mono q,c⟩
section
variable {Z:Nat→Prop}{h:ah}{cs ds:List Value}{v:VD}{d:QD}{mv:Value}{M:List (List (Int×Int))}
end
end
theorem X8 {h:ah}{Z:Nat→Prop}{v:Value}{l:List (Int×List Int)}(H:Rp.Sl mh Z h v l)(hl:l.length≤1000000000):ag prog zI #[v] h λr h'=>r=af (cD l)∧Ext h h':=by
 apply Od;unfold DA;obtain⟨av,cv,ev⟩:=H.isSl;have el:aD v=some (af (l.length:Int)):=by rw[ev];rfl
 rw[el,aj];refine bH (α:=Int) l.length 0 (λi s=>[af s,af (i:Int)]) (λi s g=>s=cD (l.take i)∧Ext h g) 0 rfl (bZ _) ⟨rfl,Ext.refl _⟩ λi s g again ρ _ hi E F=>?_
 obtain⟨es,E⟩:=E;simp only[gX,vC];rw[cq,aj];refine ao (λg1=>?_) (λg1=>?_)
 ·have A:i<l.length:=ae;have W:cD (l.take (i+1))=max s (l[i].2.length:Int):=by rw[ju A,EW,es]
  have D:(i:Int)+1=((i+1:Nat):Int):=ae;obtain⟨pt,cs,U,L,u,q3,q4⟩:=(H.ext E).atw (show 0<2 by omega) (k:=.i64) (i:=i) A;have U:bu 2 v (af (i:Int))=some pt:=U;have L:aO 2 g pt=some (.agg cs.toArray):=L;subst q3;rw[U,aj,L,aj];refine dk (cs:=[af l[i].1,u]) rfl (aq rfl (aq q4.one aX)) rfl λb5 I r5 e5 n5=>?_
  have c1:aG I ⟨b5,1,none⟩=some u:=am r5;obtain⟨au,cu,eu⟩:=q4.isSl;have G:aD u=some (af (l[i].2.length:Int)):=by rw[eu];rfl
  simp only[go_sem,aK,c1,G];refine ao (λg2=>?_) (λg2=>?_)
  ·rw[w64 (n:=(i:Int)+1) ae ae,D];exact F _ I A ⟨by rw[W];omega,E.trans e5⟩
  ·rw[w64 (n:=(i:Int)+1) ae ae,D];exact F s I A ⟨by rw[W];omega,E.trans e5⟩
 ·have:i=l.length:=ae;rw[es,this,GS];exact⟨rfl,E⟩
theorem Zv (a b c d e f:Int):aM #[ai,ai,ai,ai,ai,ai,ai,ai,ai,ai] [(0,1,af a),(1,1,af b),(2,1,af c),(3,1,af d),(4,1,af e),(9,1,af f)]=
  some [af a,af b,af c,af d,af e,ai,ai,ai,ai,af f].toArray:=by
 refine(bP (n:=1) (l:=[af a]) rfl rfl (by simp)).trans ?_;refine(bP (n:=1) (l:=[af b]) rfl rfl (by simp[cG])).trans ?_;refine(bP (n:=1) (l:=[af c]) rfl rfl (by simp[cG])).trans ?_;refine(bP (n:=1) (l:=[af d]) rfl rfl (by simp[cG])).trans ?_;refine(bP (n:=1) (l:=[af e]) rfl rfl (by simp[cG])).trans ?_;refine(bP (n:=1) (l:=[af f]) rfl rfl (by simp[cG])).trans ?_;rw[gG];simp[wrL]
def Gt:Rp cZ where
 w:=10
 R:=λ_ _ cs t=>∃a b c d,cs=[.int .i64 t.number,.int .i64 t.x,.int .i64 t.y,.int .i64 t.w,.int .i64 t.h,.int .i64 a,.int .i64 b,.int .i64 c,.int .i64 d,.int .i64 t.ring]
 len:=by rintro _ _ _ _ ⟨_,_,_,_,rfl⟩;rfl
 one:=by
  rintro _ _ _ _ ⟨_,_,_,_,rfl⟩;exact aq rfl (aq rfl (aq rfl (aq rfl (aq rfl (aq rfl (aq rfl (aq rfl (aq rfl (aq rfl aX)))))))))
 fr:=by rintro _ _ _ _ _ _ h _ _;exact h
 mono:=by rintro _ _ _ _ _ h _;exact h
theorem Ss (d:dn)(k:Nat):eN d (k+1)=eN d k++[aT d k]:=by simp[eN,lU]
theorem X9 {h:ah}{Z:Nat→Prop}{cs:List Value}{d:dn}(K:xm.R Z h cs d.s)(W:d.Wf)(few:∀x∈d.s.x.lines++d.s.y.lines,x.2.length≤1073741824){N:Nat}(hN:(N:Int)=bX d)(eb:N≤4096)(hX:1≤d.X)(hY:1≤d.Y):
  ag prog lz #[.agg cs.toArray,af d.w,af d.h] h λr h'=>New Gt h h' r (eN d N):=by
 apply QF;unfold FQ;obtain⟨X,Y,rfl,HX,HY⟩:=K;have ej:=dn.bd W;have hw:=W.w;have hh:=W.h;unfold fm at hw hh;have pc:=nW (n:=d.X) (size:=d.w) ae W.w;have pr:=nW (n:=d.Y) (size:=d.h) ae W.h;obtain⟨A,eA⟩:∃A:Nat,(A:Int)=dC d:=⟨(dC d).toNat,by have:=pc.1;unfold dC;omega⟩
 obtain⟨D,eD⟩:∃D:Nat,(D:Int)=dG d.Y d.h:=⟨(dG d.Y d.h).toNat,by have:=pr.1;omega⟩
 have ep:1≤A:=by have:=pc.2.2 hX;have e:dC d=dG d.X d.w:=rfl;omega
 have al:N=D*A:=by
  have:(N:Int)=((D*A:Nat):Int):=by rw[hN,lV,eA,eD,fQ];rfl
  omega
 simp only[bO];refine aI λG h1 r1 e1 n1=>?_
 obtain⟨ax,cx,ex⟩:=HX.isSl;obtain⟨ay,cy,ey⟩:=HY.isSl;have bk:aD X=some (af d.X):=by rw[ex];rfl
 have a7:aD Y=some (af d.Y):=by rw[ey];rfl
 have L:∀i:Nat,(i:Int)*d.w<d.X↔i<A:=λi=>by rw[S7 hw.1];show(i:Int)<dC d↔_;omega
 have H:∀j:Nat,(j:Int)*d.h<d.Y↔j<D:=λj=>by rw[S7 hh.1];omega
 refine bH (α:=Value) D 0 (λj v=>[v,af ((j:Int)*d.h)]) (λj v g=>New Gt h1 g v (eN d (j*A))) (.slice none 0 0) (by rw[show((0:Nat):Int)*d.h=0 by omega]) (bZ _) (by rw[zi];exact New.nil (Ext.refl _)) λj v g again ρ _ hj NT c7=>?_
 have c1:aG g ⟨G,1,none⟩=some Y:=am (NT.2.1.row r1);simp only[gX,vC,go_sem,aK,c1,a7];refine ao (λg1=>?_) (λg1=>?_)
 ·have bg:j<D:=(H j).1 g1;have b3:(j+1)*A≤N:=by rw[al];exact ic _ bg
  rw[ef,sN]at b3;have et:0≤(j:Int)*d.h:=mV ae ae;refine bH (α:=Value) A 0 (λi v=>[v,af ((i:Int)*d.w)]) (λi v g=>New Gt h1 g v (eN d (j*A+i))) v (by rw[show((0:Nat):Int)*d.w=0 by omega]) (bZ _) NT λi v2 g2 b0 ρ2 _ hi N2 an=>?_
  have c0:aG g2 ⟨G,0,none⟩=some X:=am (N2.2.1.row r1);simp only[gX,vC,go_sem,aK,c0,bk];refine ao (λg3=>?_) (λg3=>?_)
  ·have aa:i<A:=(L i).1 g3;have e0:0≤(i:Int)*d.w:=mV ae ae;obtain⟨a2,eu,e2⟩:=N2.sl.isSl;have ab:(eN d (j*A+i)).length=j*A+i:=by simp[eN]
   have b8:aD v2=some (af ((j*A+i:Nat):Int)):=by rw[e2,ab];rfl
   have c8:aG g2 ⟨G,1,none⟩=some Y:=am (N2.2.1.row r1);simp only[b8,aj,go_sem,aK,c8];refine(X8 (HY.ext (e1.trans N2.2.1)) (by have e:d.Y=d.s.y.lines.length:=rfl;omega)).mono λrr g4 ⟨er,e4⟩=>?_
   subst er;have N4:=N2.ext e4;have cc:=N4.2.1.row r1;rw[Zv,bG,aj];have au:∀a b c d' e f g k l m:Int,∀v∈[af a,af b,af c,af d',af e,af f,af g,af k,af l,af m],aQ v=true:=λ_ _ _ _ _ _ _ _ _ _=>aq rfl (aq rfl (aq rfl (aq rfl (aq rfl (aq rfl (aq rfl (aq rfl (aq rfl (aq rfl aX)))))))))
   refine aI λbt g5 r5 e5 n5=>?_
   refine cT r5 rfl (au _ _ _ _ _ _ _ _ _ _) rfl λg6 r6 u6=>?_
   have eh:=N4.2.1.1;have ea:=e5.1;have ee:=u6.1;have es:=bB r1;have b4:g4.size≤bt:=n5;have bc:g6[G]? =some (.cells [X,Y,af d.s.x.n,af d.s.y.n,af d.s.border].toArray 38 (0,0)):=u6.row ae (e5.row cc);have E6:Ext g4 g6:=e5.upd b4 u6;have b2:aG g6 ⟨G,0,none⟩=some X:=am bc
   -- the width
   have hH:(aT d ((j*A+i:Nat):Int)).y=(j:Int)*d.h∧(aT d ((j*A+i:Nat):Int)).h=min d.h (d.Y-(j:Int)*d.h):=by
    have q:((j*A+i:Nat):Int)/dC d=(j:Int):=by
     rw[←eA,←Int.natCast_ediv]
     congr 1
     rw[eO,Rf ae,sO aa,iE]
    constructor
    ·show kf d _=_;unfold kf;rw[q]
    ·show vV d _=_;unfold vV kf;rw[q]
   have hq:((j*A+i:Nat):Int)%dC d=(i:Int):=by
    rw[←eA,←Int.natCast_emod]
    congr 1
    rw[eO,KI,vy aa]
   have ct:(aT d ((j*A+i:Nat):Int)).x=(i:Int)*d.w:=by
    show jR d _=_;unfold jR;rw[hq]
   have U:(aT d ((j*A+i:Nat):Int)).w=min d.w (d.X-(i:Int)*d.w):=by
    show tQ d _=_;unfold tQ jR;rw[hq]
   refine bi (λxs g=>xs=[]∧g[bt]? =some (.cells [af ((j*A+i:Nat):Int),af ((i:Int)*d.w),af ((j:Int)*d.h),af (aT d ((j*A+i:Nat):Int)).w,af d.h,ai,ai,ai,ai,af (cD d.s.y.lines)].toArray 59 (0,0))∧Fr (λc=>c=bt) g6 g) ?_ ?_
   ·simp only[go_sem,aK,b2,bk];rw[w64 (n:=(i:Int)*d.w+d.w) ae ae];refine ao (λI=>?_) (λI=>?_)
    ·rw[w64 (n:=d.X-(i:Int)*d.w) ae ae];refine b9 r6 (by simp) rfl λg7 r7 u7=>⟨trivial,?_,u7.fr⟩
     rw[U,show min d.w (d.X-(i:Int)*d.w)=d.X-(i:Int)*d.w by omega];exact r7
    ·refine⟨trivial,?_,Fr.refl _ _⟩;rw[U,show min d.w (d.X-(i:Int)*d.w)=d.w by omega];exact r6
   rintro xs ρ7 g7 ⟨rfl,r7,f7⟩;have ei:=f7.1;have a8:=f7.row bc (show¬G=bt by omega);have ca:aG g7 ⟨G,1,none⟩=some Y:=am a8
   -- the height
   refine bi (λxs g=>xs=[]∧g[bt]? =some (.cells [af ((j*A+i:Nat):Int),af ((i:Int)*d.w),af ((j:Int)*d.h),af (aT d ((j*A+i:Nat):Int)).w,af (aT d ((j*A+i:Nat):Int)).h,ai,ai,ai,ai,af (cD d.s.y.lines)].toArray 59 (0,0))∧Fr (λc=>c=bt) g7 g) ?_ ?_
   ·simp only[go_sem,aK,ca,a7];rw[w64 (n:=(j:Int)*d.h+d.h) ae ae];refine ao (λI=>?_) (λI=>?_)
    ·rw[w64 (n:=d.Y-(j:Int)*d.h) ae ae];refine b9 r7 (by simp) rfl λg9 r9 u9=>⟨trivial,?_,u9.fr⟩
     rw[hH.2,show min d.h (d.Y-(j:Int)*d.h)=d.Y-(j:Int)*d.h by omega];exact r9
    ·refine⟨trivial,?_,Fr.refl _ _⟩;rw[hH.2,show min d.h (d.Y-(j:Int)*d.h)=d.h by omega];exact r7
   rintro xs ρ8 I ⟨rfl,r8,f8⟩;have ew:=f8.1;have F8:Fr (λc=>c=bt) g6 I:=f7.trans f8;have E8:Ext g4 I:=E6.then_fr F8 λc hc=>by have hc:c=bt:=hc;omega
   have aw:=f8.row a8 (show¬G=bt by omega);have ci:aG I ⟨G,0,none⟩=some X:=am aw;have c4:aG I ⟨bt,3,none⟩=some (af (aT d ((j*A+i:Nat):Int)).w):=am r8;simp only[go_sem,aK,ci,c4];refine(JT ((HX.ext e1).ext (N4.2.1.trans E8)) (by have e:d.X=d.s.x.lines.length:=rfl;omega) λx hx=>few x (KH _ hx)).mono λrr g9 ⟨⟨x1,y1,z1,er⟩,e9⟩=>?_
   subst er;have x0:∀x y:Int,∀z,aL (.tuple #[af x,af y,.bool z]) 0=some (af x):=λ_ _ _=>rfl
   have bo:∀x y:Int,∀z,aL (.tuple #[af x,af y,.bool z]) 1=some (af y):=λ_ _ _=>rfl
   have be:∀x y:Int,∀z,aL (.tuple #[af x,af y,.bool z]) 2=some (.bool z):=λ_ _ _=>rfl
   have a9:=e9.row r8;have c9:aG g9 ⟨G,1,none⟩=some Y:=am (e9.row aw);have c2:aG g9 ⟨bt,4,none⟩=some (af (aT d ((j*A+i:Nat):Int)).h):=am a9;simp only[go_sem,aK,x0,bo,be,c9,c2];refine(JT ((HY.ext e1).ext (N4.2.1.trans (E8.trans e9))) (by have e:d.Y=d.s.y.lines.length:=rfl;omega) λx hx=>few x (List.mem_append_right _ hx)).mono λrr b7 ⟨⟨x3,y3,z3,er⟩,ad⟩=>?_
   subst er;have ek:=e9.1;have dq:=ad.1;simp only[go_sem,aK,x0,bo,be];refine b9 (ad.row a9) (by simp) rfl λez cr dl=>?_
   try simp only[go_sem,aK]
   refine b9 cr (by simp) rfl λeg b6 cb=>?_
   try simp only[go_sem,aK]
   refine b9 b6 (by simp) rfl λec cp c3=>?_
   try simp only[go_sem,aK]
   refine b9 cp (by simp) rfl λar bv c6=>?_
   have cu:Fr (λc=>c=bt) b7 ar:=dl.fr.trans (cb.fr.trans (c3.fr.trans c6.fr));have b5:Ext g4 ar:=(E8.trans (e9.trans ad)).then_fr cu λc hc=>by have hc:c=bt:=hc;omega
   rw[aU (l:=[af ((j*A+i:Nat):Int),af ((i:Int)*d.w),af ((j:Int)*d.h),af (aT d ((j*A+i:Nat):Int)).w,af (aT d ((j*A+i:Nat):Int)).h,af x1,af x3,af (IntKind.i64.wrap (y1-x1)),af (IntKind.i64.wrap (y3-x3)),af (cD d.s.y.lines)]) bv 10 rfl,aj];have F:=N4.ext b5;refine Rp.push_ow (e:=Gt) (x:=aT d ((j*A+i:Nat):Int)) F.1 ⟨_,_,_,_,by rw[hH.1,ct];rfl⟩ rfl rfl (by rw[ab];omega) (by rw[ab];omega) (λ_ h=>h.elim) λv4 cw o4 f4 n4=>?_
   have dz:=F.2.1.1;have e3:(i:Int)*d.w+d.w=((i+1:Nat):Int)*d.w:=by rw[KG,jw];simp
   try simp only[go_sem]
   rw[w64 (n:=(i:Int)*d.w+d.w) ae ae,e3];refine an v4 cw aa ⟨?_,F.2.1.then_fr f4 F.2.2,λc hc=>(n4 c hc).elim (F.2.2 c) λh=>ae⟩;rw[←ul,Ss];exact o4
  ·have:i=A:=by
    have:=mt (L i).2 g3;omega
   subst this;have e3:(j:Int)*d.h+d.h=((j+1:Nat):Int)*d.h:=by rw[KG,jw];simp
   rw[w64 (n:=(j:Int)*d.h+d.h) ae ae,e3];refine c7 v2 g2 bg ?_;rw[ef,sN];exact N2
 ·have:j=D:=by
   have:=mt (H j).2 g1;omega
  subst this;rw[al];exact⟨NT.1,e1.trans NT.2.1,λc hc=>bh e1.1 (NT.2.2 c hc)⟩
end Go.Proofs.YtjljhnandbbldaaGreatDoor
namespace Go.Proofs.YtjljhnandbbldaaGreatDoor
open Go Go.Crisp
attribute [local irreducible] ag df aW stK aF vK qK bJ gK eK aZ mkK di Fi GM CF bsK clK ud oA V2
def RU (E:WE):Option (cZ×Int×Int)→List (Int×Int)
 |none=>[]
 |some (t,y,e)=>Q0 (E.d t) y e
def vOf (E:WE)(w:WD):VD:=⟨w.state,w.tiles,RU E w.job⟩
def EU (C:C21)(N:Nat):List (List (Int×Int)):=(List.range N).map λi:Nat=>RU C.E (some (Px C.d i))
end Go.Proofs.YtjljhnandbbldaaGreatDoor
namespace Go.Crisp
open Go
open _root_.Go.Proofs.YtjljhnandbbldaaGreatDoor
theorem jC.push1 {α:Type}{e:Rp α}{z L c:Value}{t t':TypeId}{bytes:Nat}{h h1:ah}{v:Value}{l:List α}{x:α}{Y:Nat→Prop}{K:Value→ah→Prop}(U:e.w=1)(H:jC e h h1 v l)
  (hx:e.R Y h1 [c] x) (hY:∀b,Y b→h.size≤b∧b<h1.size∧¬blk v b) (D:z.cells.size=1) (A:(l.length+1)*bytes≤140737488355328) (hn:l.length+1≤9223372036854775807)
  (W:∀F h',jC e h h' F (l++[x])→K F h'):df #[L] t 1 [(0,1,c)] h1 λv2 h3=>di z t' 1 bytes v v2 h3 K:=by
 obtain⟨Z,o,ex,n,zf⟩:=H;have dz:∀b,blk v b→¬Z b:=by obtain⟨ds,_,d,_⟩:=o;exact d
 have o2:Rp.Ow e (λb=>Z b∨Y b) h1 v l:=o.mono (λb _ A=>.inl A) λb A D=>by
  rcases D with D|D
  ·exact dz b A D
  ·exact(hY b D).2.2 A
 refine Rp.push_ow1 U o2 (e.mono hx λb _ A=>.inr A) D A hn (λb A=>?_) λF h' o' I n'=>W F h' ⟨λb=>Z b∨Y b,o',ex.then_fr I n,λb A=>?_,λb A=>?_⟩
 ·rcases A with A|A
  ·exact(zf b A).2
  ·exact(hY b A).2.1
 ·rcases n' b A with G|G
  ·exact n b G
  ·exact bh ex.1 G
 ·have hl:=I.1;rcases A with A|A
  ·have:=zf b A;omega
  ·have:=hY b A;omega
end Go.Crisp
namespace Go.Proofs.YtjljhnandbbldaaGreatDoor
open Go Go.Crisp
attribute [local irreducible] ag df aW stK aF vK qK bJ gK eK aZ mkK di Fi GM CF bsK clK ud oA V2
theorem Tp (C:C21)(k:Nat):EU C (k+1)=EU C k++[RU C.E (some (Px C.d k))]:=by simp[EU,lU]
theorem Ll (C:C21):∀a b i:Nat,ji C (a+b) i=ji C a i+ji C b (i+a)
 |0,b,i=>by rw[aK,iE];show _=0+_;omega
 |a+1,b,i=>by
  have h:=Ll C a b (i+1);rw[show a+1+b=(a+b)+1 by omega];show qa C i+ji C (a+b) (i+1)=qa C i+ji C a (i+1)+_;rw[h,show i+1+a=i+(a+1)by omega];omega
section
theorem IsW.job_e {Z B:Nat→Prop}{h:ah}{bw:Nat}{E:WE}{n:Pic}{w:WD}(H:IsW Z B h bw (some E) n w):∀t y e,w.job=some (t,y,e)→e≤lnE E.s.y y:=by
 obtain⟨⟨tv,G,I,r,o,J,_⟩,_,_,_,_,_,st⟩:=H;intro t y e D;rw[D]at J st;obtain⟨L,F,ok,hc,bj,rv,_,S⟩:=J;cases F;obtain⟨⟨M,rs,_,_,k⟩,_⟩:=S;rcases st with⟨_,A,_⟩|⟨_,h⟩
 ·have A:cj (E.d t) y e≠0:=A;unfold cj at A;split at A
  ·exact absurd rfl A
  ·exact(k ae).2.2
 ·cases h
section
variable {a:Bool}{C:C21}{Z X Zd:Nat→Prop}{N:Nat}{h0 h:ah}{mv:Value}{bQ bW bV:Nat}{TW TV:TypeId}{n:Pic}{ba bb:Nat}{wa wb:WD}{q:QD}
end
end
theorem SD {E:Option WE}{jo:Option (cZ×Int×Int)}{w:WD}{d:QD}:(cL E jo w d).1.tiles.length≤w.tiles.length+1:=by
 obtain⟨st,tl,j,A⟩:=w;unfold cL;split
 ·split
  ·exact KF _
  ·exact KF _
 ·split
  ·exact KF _
  ·split
   ·simp[Ds]
   ·split<;>exact KF _
theorem Sq {t m:Int}(h:B8 t)(D:0<m∧m≤100){K:Value→Prop}(H:K (af (1+t%m))):vK (ak .i .rem (.int .u8 t) (.int .u8 m)) λa=>vK (gd .i64 a) λb=>vK (ak .i .add aH b) λc=>K c:=by
 have A:0≤t%m∧t%m<m:=⟨ks _ ae,iF _ ae⟩
 rw[dP _ _ _ _ ae,aj,jT h.1];simp only[go_sem];rw[w64 (n:=t%m) ae ae,w64 (n:=1+t%m) ae ae];exact H
end Go.Proofs.YtjljhnandbbldaaGreatDoor
namespace Go.Proofs.YtjljhnandbbldaaGreatDoor
open Go Go.Crisp
theorem UB {h:ah}{v:Value}{l:List Int}(H:SlC 1 h v l.length (l.map (Value.int .u8))):Rp.Sl (Rp.int .u8) (λ_=>True) h v l:=
 ⟨_,H,λ_ _ _=>trivial,λi hi=>by
  show Rp.el 1 _ i=[.int .u8 l[i]];rw[Rp.el_one (by simpa using hi),eU]⟩
theorem YC {h:ah}{ts:List TS}{l:List Value}(R:vU (.sl (.int .u8) 1::ts) h l):∃v,∃k:List Int,∃r,l=v::r∧Rp.Sl (Rp.int .u8) (λ_=>True) h v k∧(∀x∈k,B8 x)∧k.length≤1000000000000000∧vU ts h r:=by
 obtain⟨v,r,G,⟨x,F⟩,h0⟩:=R;obtain⟨u,hu,h1,D,A⟩:=zcd (l:=x) (show Rd (.sl (.int .u8) 1) h [v] x from F);obtain rfl:v=u:=by simpa using hu
 have A:List.length (α:=Int) x*1≤140737488351232:=A;exact⟨v,x,r,G,UB h1,D,ae,h0⟩
end Go.Proofs.YtjljhnandbbldaaGreatDoor
namespace Go.Proofs.YtjljhnandbbldaaGreatDoor
open Go Go.Crisp
attribute [local irreducible] ag df aW stK aF vK qK bJ gK eK aZ mkK di Fi
open _root_.Go.Proofs.Tryz
def ON (a:Int):Nat:=(min (max 1 a) 512).toNat
def tZ (n:Nat)(j:Nat):List Int:=(List.range n).map λm=>if m=j then 1 else 0
theorem ME (n:Nat)(f g:Nat→Value)(h:∀k,k<n→f k=g k):(List.range n).map f=(List.range n).map g:=
 K6 λk A=>h k (xy.1 A)
theorem c_New {h:ah}(a:Int):ag prog nG #[af a] h λr h'=>∃M,fF M h' r (ON a) (tZ (ON a))∧Ext h h'∧∀b,M b→h.size≤b:=by
 apply QY;unfold Gh;have bk:min (max 1 a) 512=((ON a:Nat):Int):=by unfold ON;omega
 have au:1≤ON a∧ON a≤512:=by unfold ON;omega
 simp only[go_sem,bk];generalize ON a=n at au;refine og rfl ae ae λs h1 o1 e1 n1=>?_
 have b1:=o1.sl;obtain⟨_,H,L,rfl,_⟩:=b1;rw[Le _ #[.slice H n L] (by kernel_rfl)];refine aI (c:=#[.slice H n L]) λbc W an e2 n2=>?_
 obtain⟨t0,r2⟩:∃t,W[bc]? =some (.cells #[.slice H n L] t (0,0)):=⟨_,an⟩
 clear an
 simp only[go_sem,am r2];have ax:¬blk (.slice H n L) bc:=λA=>by have:=o1.lt A;omega
 refine EY n (λk h'=>k≤n∧Ext h h'∧∃sv:Nat→Value,h'[bc]? =some (.cells #[.slice H n L] t0 (0,0))∧Own 1 h' (.slice H n L) n ((List.range n).map λj=>if j<k then sv j else .slice none 0 0)∧
   (∀j,j<k→kh h' (sv j) (tZ n j))∧(∀j,j<k→∀b,blk (sv j) b→h.size≤b∧b≠bc∧¬blk (.slice H n L) b)∧∀i j,i<k→j<k→i≠j→∀b,blk (sv i) b→¬blk (sv j) b)
  ⟨bZ _,e1.trans e2,λ_=>.nilFunc,r2,?_,λj F=>ae,λj F=>ae,λi j hi=>ae⟩ ?_
 ·have:=o1.fr (M:=λ_=>False) e2.fr λ_ _=>id
  rw[show List.replicate n (Value.slice none 0 0)=(List.range n).map λj=>if j<0 then Value.nilFunc else .slice none 0 0 by
   apply qu<;>simp]at this
  exact this
 rintro k h3 again ρj ⟨b2,e3,sv,r3,o3,G,I,ay⟩ bv;simp only[go_sem];refine ao (λhk=>?_) (λhk=>?_)
 ·have hk:k<n:=ae;refine PG ?_;refine aC (.slice H n L) (λh' e=>by rw[am (e.row r3)];rfl) ?_;refine og rfl ae ae λs4 h4 o4 e4 n4=>?_
  refine⟨e4,?_⟩;obtain⟨p,hp,hq,bg⟩:=(o3.fr (M:=λ_=>False) e4.fr λ_ _=>id).at1 (k:=.i64) hk;simp only[go_sem,hp];have a9:kh h4 s4 (List.replicate n 0):=by
   unfold kh;rw[vv,Rl];exact o4
  refine bg _ _ (CG a9) λh5 o5 f5 _=>?_
  rw[Lv]at o5;have ad:∀b,blk s4 b→¬blk (.slice H n L) b:=λb A D=>by have:=n4 b A;have:=o3.lt D;omega
  have o6:kh h5 s4 (List.replicate n 0):=a9.fr f5 λb A=>ad b A
  have r5:h5[bc]? =some (.cells #[.slice H n L] t0 (0,0)):=f5.row (e4.row r3) ax;obtain⟨p6,ar,aw⟩:=o5.sl.at1 (k:=.i64) hk;rw[hp]at ar;cases ar;rw[eU,y5,aA rfl]at aw;obtain⟨p7,be,b4,a7⟩:=Own.at1 o6 (k:=.i64) (i:=k) (by simpa using hk);simp only[go_sem,am r5,hp,aw,be];refine a7 _ _ rfl λh8 o8 f8 _=>?_
  rw[w64 ae ae];have f58:Fr (blk s4) h5 h8:=f8;have U:∀b,blk s4 b→h3.size≤b:=n4;have bd:Ext h h8:=((e3.trans e4).then_fr f5 n1).then_fr f58 λb A=>bh e3.1 (U b A)
  have a8:∀b,blk s4 b→h.size≤b∧b≠bc∧¬blk (.slice H n L) b:=λb A=>
   ⟨bh e3.1 (U b A),λb3=>by
    have h1:=U b A;have W:=(lY.1 r3).1;omega,ad b A⟩
  have aa:∀j,j<k→∀b,blk (sv j) b→¬blk s4 b:=λj F b A D=>by
   have h1:=U b D;have W:=(G j F).lt A;omega
  refine bv h8 hk ⟨hk,bd,λj=>if j=k then s4 else sv j,?_,?_,?_,?_,?_⟩
  ·exact f58.row r5 λA=>(a8 _ A).2.1 rfl
  ·have:=o5.fr f58 λb A D=>ad b D A
   rw[ME n _ (λj=>if j<k+1 then(if j=k then s4 else sv j)else .slice none 0 0) ?_]at this
   ·exact this
   ·intro j F;by_cases h1:j=k
    ·subst h1;simp
    ·by_cases W:j<k
     ·simp[h1,W,zaZ W]
     ·simp[h1,W,show¬j<k+1 by omega]
  ·intro j F;by_cases h1:j=k
   ·subst h1;simp only[cJ];have o9:Own 1 h8 s4 (tZ n j).length ((tZ n j).map vi):=by
     refine(congr (congrArg (Own 1 h8 s4) ?_) ?_).mp o8
     ·simp[tZ]
     ·apply qu
      ·simp[tZ]
      ·intro m h1 W;rw[GY];simp only[tZ,eU,Wy,y5,vi, @eq_comm _ m j];split<;>rfl
    exact o9
   ·simp only[h1,cF];have al:j<k:=ae;have h9:=((G j al).fr (M:=λ_=>False) e4.fr λ_ _=>id)
    have b0:kh h5 (sv j) (tZ n j):=h9.fr f5 λb A=>(I j al b A).2.2
    exact b0.fr f58 λb A=>aa j al b A
  ·intro j F b A;by_cases h1:j=k
   ·simp only[h1,cJ]at A;exact a8 b A
   ·simp only[h1,cF]at A;exact I j ae b A
  ·intro i j hi F ab b A D;by_cases h1:i=k
   ·simp only[h1,cJ]at A;have W:j≠k:=λh=>ab (h1.trans h.symm)
    simp only[W,cF]at D;exact aa j ae b D A
   ·simp only[h1,cF]at A;by_cases W:j=k
    ·simp only[W,cJ]at D;exact aa i ae b A D
    ·simp only[W,cF]at D;exact ay i j ae ae ab b A D
 ·obtain rfl:k=n:=ae;have bo:Own 1 h3 (.slice H k L) k ((List.range k).map sv):=by
   rw[ME k _ sv (λj F=>by simp[F])]at o3;exact o3
  refine⟨λb=>b=bc∨blk (.slice H k L) b∨∃j,j<k∧blk (sv j) b,⟨bc,.slice H k L,sv,t0,rfl,?_⟩,e3,?_⟩
  ·exact{
    var:=r3,arr:=bo,row:=G,len:=λi hi=>by simp[tZ],pos:=au
    inM:=⟨.inl rfl,λb A=>.inr (.inl A),λi hi b A=>.inr (.inr ⟨i,hi,A⟩)⟩
    ap1:=ax,ap2:=λi hi b A=>(I i hi b A).2,ap3:=λi j hi F ab b=>ay i j hi F ab b
    lt:=λb A=>by
     rcases A with rfl|A|⟨j,F,A⟩
     ·exact(lY.1 r3).1
     ·exact o3.lt A
     ·exact(G j F).lt A}
  ·intro b A;rcases A with rfl|A|⟨j,F,A⟩
   ·exact bh e1.1 n2
   ·exact n1 b A
   ·exact(I j F b A).1
end Go.Proofs.YtjljhnandbbldaaGreatDoor
namespace Go.Proofs.YtjljhnandbbldaaGreatDoor
open Go Go.Crisp
open _root_.Go.Proofs.Tryz
structure Acc where
 who:Int
 when_:List Int
 buf:Int
 lo:Int
 hi:Int
 wr:Bool
def yC (h:ah)(v:Value)(a:Acc):Prop:=∃s,v=.agg #[.int .i64 a.who,s,.int .i64 a.buf,.int .i64 a.lo,.int .i64 a.hi,.bool a.wr]∧lJ h s a.when_
theorem yC.ext {h h':ah}{v:Value}{a:Acc}(H:yC h v a)(e:Ext h h'):yC h' v a:=by
 obtain⟨s,rfl,A⟩:=H;exact⟨s,rfl,A.ext e⟩
def MB (a b:Acc):Bool:=decide (a.buf=b.buf)&&decide (max a.lo b.lo<min a.hi b.hi)
def JC (a b:Acc):Bool:= !decide (a.who=b.who)&&(a.wr||b.wr)&&MB a b&& !Jj a.when_ b.when_&& !Jj b.when_ a.when_
theorem zbw {h:ah}{v u:Value}{a b:Acc}(F:yC h v a)(H:yC h u b):
  ag prog vQ #[v,u] h λr h'=>r=.bool (MB a b)∧Ext h h':=by
 apply Ko;unfold Al;obtain⟨s,rfl,W⟩:=F;obtain⟨s',rfl,I⟩:=H;simp only[bO];refine aI λL h1 r1 G _=>aI λb2 U r2 D _=>?_
 have r1:=D.row r1;have e:=G.trans D;simp only[go_sem,am r1,am r2];by_cases A:a.buf=b.buf
 ·simp only[go_sem,A,am r1,am r2];exact⟨by simp[MB,A],e⟩
 ·simp only[go_sem,A];exact⟨by simp[MB,A],e⟩
theorem Z7 {h:ah}{v u:Value}{a b:Acc}(ha:yC h v a)(hb:yC h u b)(hn:a.when_.length≤9223372036854775807)(hm:b.when_.length≤9223372036854775807):
  ag prog qY #[v,u] h λr h'=>r=.bool (JC a b)∧Ext h h':=by
 apply Ma;unfold AZ;have L:=ha;have U:=hb;obtain⟨s,rfl,hs⟩:=ha;obtain⟨s',rfl,H⟩:=hb;simp only[bO];refine aI λb1 h1 r1 e1 _=>aI λb2 h2 r2 e2 _=>?_
 have r1:=e2.row r1;have e:=e1.trans e2;have l1:=aU r1 6 rfl;have l2:=aU r2 6 rfl;simp only[go_sem,am r1,am r2];by_cases I:a.who=b.who
 ·simp only[go_sem,I];exact⟨by simp[JC,I],e⟩
 cases A:a.wr<;>cases D:b.wr<;>simp only[go_sem,I,am r1,am r2,l1,l2,A,D]
 ·exact⟨by simp[JC,A,D],e⟩
 all_goals
  refine(zbw (a:=a) (b:=b) ?_ ?_).mono ?_
  ·rw[←A];exact L.ext e
  ·rw[←D];exact U.ext e
  rintro _ h3 ⟨rfl,W⟩;have r1:=W.row r1;have r2:=W.row r2;have e:=e.trans W;cases G:MB a b with
  |false=>simp only[go_sem];exact⟨by simp[JC,G],e⟩
  | true=>
   simp only[go_sem,am r1,am r2];refine(Xa (hs.ext e) (H.ext e) hn).mono ?_;rintro _ _ ⟨rfl,rfl⟩;cases F:Jj a.when_ b.when_ with
   |true=>simp only[go_sem];exact⟨by simp[JC,F],e⟩
   |false=>
    simp only[go_sem,am r1,am r2];refine(Xa (H.ext e) (hs.ext e) hm).mono ?_;rintro _ _ ⟨rfl,rfl⟩;simp only[go_sem];exact⟨by simp[JC,I,G,F,A,D],e⟩
end Go.Proofs.YtjljhnandbbldaaGreatDoor
namespace Go.Proofs.YtjljhnandbbldaaGreatDoor
open Go Go.Crisp
attribute [local irreducible] ag df aW stK aF vK qK bJ gK eK aZ
open _root_.Go.Proofs.Tryz
theorem TB {h:ah}{b:Nat}{l:List Int}{t:TypeId}{f:Nat×Nat}{cap:Nat}(r:h[b]? =some (.cells (l.map vi).toArray t f)):lJ h (.slice (some ⟨b,0,none⟩) l.length cap) l:=
 ⟨_,cap,rfl,.inr ⟨b,0,rfl,λi hi=>by rw[aK,am r];simp[hi]⟩⟩
theorem zbI {h:ah}:ag prog xI #[] h λr h'=>r=.bool true∧Ext h h':=by
 apply Mf;unfold A7;refine da (c':=#[aH,ai]) (by kernel_rfl) λG h1 r1 e1 _=>?_
 rw[Le _ #[ai,.slice (some ⟨G,0,none⟩) 2 2,ai,af 3,af 4,.bool true] (by kernel_rfl)];refine aI λb2 h2 r2 e2 n2=>?_
 refine cT (l:=[ai,.slice (some ⟨G,0,none⟩) 2 2,ai,af 3,af 4,.bool true]) r2 rfl (by simp[aQ]) rfl λL r3 u3=>?_
 have W:Ext h1 L:=e2.upd n2 u3;refine da (c':=#[ai,aH]) (by kernel_rfl) λH h4 r4 e4 _=>?_
 rw[Le _ #[aH,.slice (some ⟨H,0,none⟩) 2 2,ai,af 2,af 9,.bool true] (by kernel_rfl)];refine aI λb5 h5 r5 e5 n5=>?_
 refine cT (l:=[aH,.slice (some ⟨H,0,none⟩) 2 2,ai,af 2,af 9,.bool true]) r5 rfl (by simp[aQ]) rfl λA r6 u6=>?_
 have e6:Ext h4 A:=e5.upd n5 u6;have D:Ext L A:=e4.trans e6;have I:=aU (D.row r3) 6 rfl;have l6:=aU r6 6 rfl;have i1:lJ A (.slice (some ⟨G,0,none⟩) 2 2) [1,0]:=TB (l:=[1,0]) ((W.trans D).row r1);have i4:lJ A (.slice (some ⟨H,0,none⟩) 2 2) [0,1]:=TB (l:=[0,1]) (e6.row r4);have U:yC A (.agg #[ai,.slice (some ⟨G,0,none⟩) 2 2,ai,af 3,af 4,.bool true]) ⟨0,[1,0],0,3,4,true⟩:=⟨_,rfl,i1⟩
 have A4:yC A (.agg #[aH,.slice (some ⟨H,0,none⟩) 2 2,ai,af 2,af 9,.bool true]) ⟨1,[0,1],0,2,9,true⟩:=⟨_,rfl,i4⟩
 have e:Ext h A:=e1.trans (W.trans D);simp only[go_sem,I,l6];refine(Z7 U A4 (by simp) (by simp)).mono ?_;rintro _ h7 ⟨rfl,F⟩;rw[show JC ⟨0,[1,0],0,3,4,true⟩ ⟨1,[0,1],0,2,9,true⟩=true from by decide];simp only[go_sem,F.lds I,F.lds l6];refine(Z7 (A4.ext F) (U.ext F) (by simp) (by simp)).mono ?_;rintro _ h8 ⟨rfl,e8⟩;rw[show JC ⟨1,[0,1],0,2,9,true⟩ ⟨0,[1,0],0,3,4,true⟩=true from by decide];simp only[go_sem];exact⟨trivial,e.trans (F.trans e8)⟩
end Go.Proofs.YtjljhnandbbldaaGreatDoor
namespace Go.Proofs.YtjljhnandbbldaaGreatDoor
open Go Go.Crisp
attribute [local irreducible] ag df aW stK aF vK qK bJ gK eK aZ mkK di Fi
open _root_.Go.Proofs.Tryz
abbrev rIa:Rp Int:=Rp.int .i64
theorem Qe {Z:Nat→Prop}{h:ah}{v:Value}{l:List Int}(H:Rp.Sl rIa Z h v l):lJ h v l:=by
 obtain⟨ds,A,_,I⟩:=H;have G:ds.length=l.length:=by have:=A.1;simpa[Rp.int]using this
 have:ds=l.map vi:=by
  apply qu (by simp[G]);intro i h1 L;have F:=I i ae;have D:Rp.el 1 ds i=[af l[i]]:=F;rw[Rp.el_one h1]at D;rw[eU];simpa[vi]using D
 subst this;exact WG A
theorem zv {Z:Nat→Prop}{h:ah}{v:Value}{l:List Int}(H:lJ h v l)(A:l≠[]→∀b,blk v b→Z b):Rp.Sl rIa Z h v l:=by
 refine⟨l.map vi,H.sl,λh0=>A (by simpa using h0),λi hi=>?_⟩;show Rp.el 1 (l.map vi) i=[af l[i]];rw[Rp.el_one (by simpa using hi)];simp[vi]
def xn:Rp Acc where
 w:=6
 R:=λZ h cs a=>∃s,cs=[.int .i64 a.who,s,.int .i64 a.buf,.int .i64 a.lo,.int .i64 a.hi,.bool a.wr]∧Rp.Sl rIa Z h s a.when_
 len:=by rintro _ _ _ _ ⟨s,rfl,_⟩;rfl
 one:=by
  rintro _ _ _ _ ⟨s,rfl,H⟩ v hv;have:=H.one;simp only[List.mem_cons,List.not_mem_nil,or_false]at hv;rcases hv with rfl|rfl|rfl|rfl|rfl|rfl<;>first|rfl|exact this
 fr:=by rintro _ _ _ _ _ _ ⟨s,rfl,H⟩ f q;exact⟨s,rfl,H.fr f q⟩
 mono:=by rintro _ _ _ _ _ ⟨s,rfl,H⟩ q;exact⟨s,rfl,H.mono q⟩
def U0 (a:Acc):Bool:=decide (0≤a.who)&&(decide (0≤a.buf)&&(decide (0≤a.lo)&&decide (a.lo<a.hi)))
theorem c_may {h:ah}{v:Value}{a:Acc}(H:yC h v a):ag prog zU #[v] h λr h'=>r=.bool (U0 a)∧Ext h h':=by
 obtain⟨s,rfl,_⟩:=H;apply OD;unfold DW;simp only[bO];refine aI λb h1 r1 G I=>?_
 by_cases A:0≤a.who
 ·by_cases D:0≤a.buf
  ·by_cases F:0≤a.lo
   ·simp only[go_sem,am r1,A,D,F];exact⟨by simp[U0,A,D,F],G⟩
   ·simp only[go_sem,am r1,A,D,F];exact⟨by simp[U0,A,D,F],G⟩
  ·simp only[go_sem,am r1,A,D];exact⟨by simp[U0,A,D],G⟩
 ·simp only[go_sem,am r1,A];exact⟨by simp[U0,A],G⟩
theorem zbB {h:ah}{v:Value}{a:Acc}(ha:yC h v a)(hl:a.when_.length≤4398046511104):
  ag prog vR #[v] h λr h'=>∃ds,r=.agg (List.toArray ds)∧xn.R (λb=>h.size≤b∧b<h'.size) h' ds a∧Ext h h':=by
 obtain⟨s,rfl,hs⟩:=ha;apply Kq;unfold Am;simp only[bO];refine aI λL h1 r1 H n1=>aI λb3 h3 r3 I n3=>?_
 have D:=I.row r1;simp only[go_sem,am D];refine(W8 ((hs.ext H).ext I) hl).mono ?_;rintro F h4 ⟨o4,U,n4⟩;have ad:=CG o4;refine b9 (o:=1) (U.row D) (by simp) ad λh5 r5 W=>?_
 have r5:h5[L]? =some (.cells (List.toArray [af a.who,F,af a.buf,af a.lo,af a.hi,.bool a.wr]) _ (0,0)):=r5;rw[aU r5 6 rfl,aj];have aa:b3≠L:=by have:=bB r1;omega
 refine cT (l:=[af a.who,F,af a.buf,af a.lo,af a.hi,.bool a.wr]) (W.row aa (U.row r3)) rfl (by repeat' (first|rfl|assumption|exact aX|refine aq ?_ ?_)) rfl λh6 r6 u6=>?_
 rw[aU r6 6 rfl,aj];have ab:Ext h h6:=(((H.trans I).trans U).upd n1 W).upd (bh H.1 n3) u6;refine⟨_,rfl,⟨F,rfl,?_⟩,ab⟩;have G:∀b,blk F b→b≠L∧b≠b3:=λb A=>by
  have h1:=n4 b A;have h2:=bB D;have h3:=bB r3;exact⟨ae,ae⟩
 have o6:kh h6 F a.when_:=(o4.fr W.fr λb A=>(G b A).1).fr u6.fr λb A=>(G b A).2
 exact zv o6.ints λ_ b A=>⟨bh (H.trans I).1 (n4 b A),o6.lt A⟩
end Go.Proofs.YtjljhnandbbldaaGreatDoor
namespace Go.Proofs.YtjljhnandbbldaaGreatDoor
open Go Go.Crisp
attribute [local irreducible] ag df aW stK aF vK qK bJ gK eK aZ mkK di Fi
instance:Inhabited Acc:=⟨⟨0,[],0,0,0,false⟩⟩
end Go.Proofs.YtjljhnandbbldaaGreatDoor
namespace Go.Proofs.YtjljhnandbbldaaGreatDoor
open Go Go.Crisp
attribute [local irreducible] ag df aW stK aF vK qK bJ gK eK aZ mkK di Fi ud oA V2
open _root_.Go.Proofs.Tryz
section
section
variable {Z:Nat→Prop}{h:ah}{bx o:Nat}{cs:Array Value}{t:TypeId}{sl:Value}{l:List Acc}
structure zaq (Z:Nat→Prop)(h:ah)(bx o:Nat)(cs:Array Value)(t:TypeId)(sl:Value)(l:List Acc):Prop where
 var:h[bx]? =some (.cells cs t (0,0))
 pl:cs[o]? =some sl
 own:Rp.Ow xn Z h sl l
 ap:¬blk sl bx∧¬Z bx
 zlt:∀b,Z b→b<h.size
theorem zc5 {u:Value}{a:Acc}(L:zaq Z h bx o cs t sl l)(hu:yC h u a)(ha:a.when_.length≤4398046511104)(hl:l.length≤1000000)(hm:U0 a=true):
  ag prog me #[.pointer (some ⟨bx,o,none⟩),u] h λr h'=>∃s' Z',zaq Z' h' bx o (cs.setIfInBounds o s') t s' (l++[a])∧Fr (λb=>b=bx∨blk sl b) h h'∧(∀b,blk s' b→blk sl b∨h.size≤b)∧∀b,Z' b→Z b∨h.size≤b:=by
 have ar:=bB L.var;have ho:o<cs.size:=(lY.1 L.pl).1;obtain⟨s,rfl,hs⟩:=hu;apply BF;unfold rE;simp only[bO];refine aI λb1 h1 r1 e1 n1=>?_
 rw[aU (l:=[af a.who,s,af a.buf,af a.lo,af a.hi,.bool a.wr]) r1 6 rfl,aj];have A1:yC h1 (.agg #[af a.who,s,af a.buf,af a.lo,af a.hi,.bool a.wr]) a:=⟨s,rfl,hs.ext e1⟩
 refine(c_may A1).mono ?_;rintro _ h2 ⟨rfl,e2⟩;have H:=e1.trans e2;simp only[hm,go_sem,iE];have F:=e2.row r1;have v2:=H.row L.var;refine aP (λhh=>hh[bx]? =some (.cells cs t (0,0))∧aO 6 hh (.pointer (some ⟨b1,0,none⟩))=some (.agg #[af a.who,s,af a.buf,af a.lo,af a.hi,.bool a.wr]))
  ⟨v2,aU (l:=[af a.who,s,af a.buf,af a.lo,af a.hi,.bool a.wr]) F 6 rfl⟩ ?_
 refine aC sl (λhh S=>by rw[am S.1,L.pl]) ?_;refine aC _ (λhh S=>S.2) ?_;refine(zbB (A1.ext e2) ha).mono ?_;rintro _ h3 ⟨ds,rfl,ad,e3⟩;have an:=H.trans e3;refine⟨⟨e3.row v2,aU (l:=[af a.who,s,af a.buf,af a.lo,af a.hi,.bool a.wr]) (e3.row F) 6 rfl⟩,?_⟩;have G:ds.length=6:=xn.len ad;refine da (Rp.fill_whole rfl G) λb4 h4 r4 U n4=>?_
 have D:=an.trans U;refine⟨⟨U.row (e3.row v2),U.lds (aU (l:=[af a.who,s,af a.buf,af a.lo,af a.hi,.bool a.wr]) (e3.row F) 6 rfl)⟩,?_⟩;have S1:=Rp.SlC.single r4;rw[G]at S1;have dz:∀b,blk sl b→¬Z b:=by obtain⟨_,_,d,_⟩:=L.own;exact d
 have o4:Rp.Ow xn (λb=>Z b∨(h.size≤b∧b<h3.size)) h4 sl l:=(L.own.ext D).mono (λb _ A=>.inl A) λb A hz=>by
  rcases hz with hz|hz
  ·exact dz b A hz
  ·have:=L.own.lt A;omega
 refine Rp.app_ow (e:=xn) (l2:=[a]) o4 S1 (λi hi=>?_) rfl (by simp;omega) (by simp;omega) (λb A=>?_) λs' h5 o5 f5 n5=>?_
 ·have hi:i=0:=by simpa using hi
  subst hi;rw[show Rp.el xn.w ds 0=ds from Rp.el_self G];exact xn.mono (xn.ext ad U) λb _ A=>.inr ⟨bh H.1 A.1,A.2⟩
 ·rcases A with A|A
  ·exact bT (L.zlt b A) D.1
  ·exact bT A.2 U.1
 have v5:h5[bx]? =some (.cells cs t (0,0)):=f5.row (D.row L.var) L.ap.1;have al:¬blk sl b1:=λA=>by have:=L.own.lt A;omega
 refine⟨⟨v5,aU (l:=[af a.who,s,af a.buf,af a.lo,af a.hi,.bool a.wr]) (f5.row ((e3.trans U).row F) al) 6 rfl⟩,?_⟩;refine b9 v5 ho o5.one λh6 r6 u6=>?_
 have aa:∀b,blk s' b→b≠bx:=λb A W=>by
  rcases n5 b A with I|I
  ·exact L.ap.1 (W▸I)
  ·have:=D.1;omega
 have ab:∀b,(Z b∨(h.size≤b∧b<h3.size))→b≠bx:=λb A W=>by
  rcases A with A|A
  ·exact L.ap.2 (W▸A)
  ·omega
 have o6:=o5.fr u6.fr (λb _ A=>ab b A) aa;refine⟨s',λb=>Z b∨(h.size≤b∧b<h3.size),⟨r6,by simp[ho],o6,⟨λA=>aa bx A rfl,λA=>ab bx A rfl⟩,λb A=>?_⟩,?_,λb A=>?_,λb A=>A.imp id And.left⟩
 ·have I:h4.size≤h6.size:=by rw[u6.1];exact f5.1
  rcases A with A|A
  ·have:=L.zlt b A;have:=D.1;omega
  ·have:=U.1;omega
 ·exact(D.fr.trans (f5.mono λb _ A=>.inr A)).trans (u6.fr.mono λb _ A=>.inl A)
 ·rcases n5 b A with I|I
  ·exact .inl I
  ·exact .inr (bh D.1 I)
end
end
end Go.Proofs.YtjljhnandbbldaaGreatDoor
namespace Go.Proofs.YtjljhnandbbldaaGreatDoor
open Go Go.Crisp
attribute [local irreducible] ag df aW stK aF vK qK bJ gK eK aZ mkK di Fi GM CF bsK clK ud oA V2
section
def rIs:Rp (List Int) where
 w:=1
 R:=λZ h cs l=>∃v,cs=[v]∧Rp.Sl (Rp.int .i64) Z h v l
 len:=by rintro _ _ _ _ ⟨_,rfl,_⟩;rfl
 one:=by
  rintro _ _ _ _ ⟨_,rfl,H⟩;exact aq H.one aX
 fr:=by rintro _ _ _ _ _ _ ⟨v,rfl,H⟩ f q;exact⟨v,rfl,H.fr f q⟩
 mono:=by rintro _ _ _ _ _ ⟨v,rfl,H⟩ q;exact⟨v,rfl,H.mono q⟩
structure PV where
 vc:Value
 sl:Value
 wv:Value
 dv:Value
 sv:Value
 ev:Value
 lv:Value
structure cg where
 q:QD
 rows:Nat→List Int
 acc:List Acc
 ws:Nat→WD
 words:Nat→Int
 sent:Int
 stamps:List (List Int)
 fin:List Int
 left:List (List Int)
 ret:Bool
 picks:Int
def iK (C:C21)(V:PV)(P:cg):Array Value:=#[ptr C.bf,ptr C.bt,ptr C.bl,ptr C.bq,V.vc,V.sl,V.wv,V.dv,.int .i64 P.sent,V.sv,V.ev,V.lv,.bool P.ret,.int .i64 P.picks]
def tO (o:Nat→Nat)(k:Nat)(h:ah)(v:Value)(l:List (List Int)):Prop:=∃Z:Nat→Prop,Rp.Ow rIs Z h v l∧(∀c,Z c→o c=k)∧∀c,blk v c→o c=k
structure aS (X:Nat→Prop)(C:C21)(Z:Nat→Prop)(K:Nat)(h0:ah)(bw:Nat→Nat)(bp:Nat)(o:Nat→Nat)(n:Pic)(V:PV)(P:cg)(h:ah):Prop where
 q:¬X 1→IsQ (λc=>o c=1) h C.bq P.q
 c:¬X 2→fF (λc=>o c=2) h V.vc (K+1) P.rows
 l:¬X 3→∃Zl:Nat→Prop,Rp.Ow xn Zl h V.sl P.acc∧(∀c,Zl c→o c=3)∧∀c,blk V.sl c→o c=3
 p:¬X 4→h[bp]? =some (.cells (iK C V P) 106 (0,0))
 w:¬X 5→Own 1 h V.dv K ((List.range K).map λi=>.int .i64 (P.words i))∧∀c,blk V.dv c→o c=5
 s:¬X 6→tO o 6 h V.sv P.stamps
 f:¬X 7→tO o 7 h V.lv P.left
 e:¬X 8→Rp.Sl (Rp.int .i64) (λc=>o c=8) h V.ev P.fin
 wk:¬X 9→SlC 1 h V.wv K ((List.range K).map λi=>ptr (bw i))∧∀c,blk V.wv c→o c=9
 ws:∀i,i<K→¬X (10+i)→IsW Z (λc=>o c=10+i) h (bw i) (some C.E) n (P.ws i)
 po:o bp=4
 set:Ax Z h C.bf C.vf C.bt C.vt C.p C.q C.m n C.d.s
 pl:sV Z h C.bl C.d C.pp C.pq
 zl:Z C.bl∧C.pp=C.p∧C.pq=C.q
 sui:C.suits n
 ow:∀c,o c≠0→c<h.size∧h0.size≤c∧¬Z c∧Ay (some C.E) c∧¬de (some C.E) c
 ext:Ext h0 h
 few:1≤K∧K≤256
section
variable {X:Nat→Prop}{C:C21}{Z:Nat→Prop}{K:Nat}{h0 h h':ah}{bw:Nat→Nat}{bp:Nat}{o:Nat→Nat}{n:Pic}{V:PV}{P:cg}
theorem tO.fr {k:Nat}{v:Value}{l:List (List Int)}{M:Nat→Prop}(H:tO o k h v l)(f:Fr M h h')(q:∀c,o c=k→¬M c):tO o k h' v l:=by
 obtain⟨Z,F,D,A⟩:=H;exact⟨Z,F.fr f (λc _ hc=>q c (D c hc)) λc hc=>q c (A c hc),D,A⟩
theorem aS.chgO (H:aS X C Z K h0 bw bp o n V P h){A:Nat→Prop}(ha:¬A 0){n':Pic}(hb:∀c,de (some C.E) c→h0.size≤c)(f:Fr (λc=>A (o c)∨de (some C.E) c) h h')(W:jh h' (some C.E) n')(D:eo n n'):aS (λk=>X k∨A k) C Z K h0 bw bp o n' V P h':=by
 have no:∀c,o c≠0→¬de (some C.E) c:=λc hc=>(H.ow c hc).2.2.2.2
 have g:∀k,k≠0→¬A k→∀c,o c=k→¬(A (o c)∨de (some C.E) c):=λk h0 hk c hc h=>h.elim (by rw[hc];exact hk) (no c (by rw[hc];exact h0))
 have G:∀{k},¬(X k∨A k)→¬X k∧¬A k:=λh=>⟨λx=>h (.inl x),λx=>h (.inr x)⟩
 have U:∀c,A (o c)→c<h.size∧h0.size≤c∧¬Z c∧Ay (some C.E) c∧¬de (some C.E) c:=λc hc=>H.ow c λh=>ha (h▸hc)
 have L:∀c,Z c→¬(A (o c)∨de (some C.E) c):=λc hz hc=>hc.elim (λhc=>(U c hc).2.2.1 hz) (H.set.zz c hz)
 obtain⟨p1,p2,p3⟩:=H.pl;obtain⟨I,wf⟩:=W C.E rfl;obtain⟨s1,s2,s3,s4,s5⟩:=H.sui.2;refine⟨λF=>(H.q (G F).1).fr f (g 1 ae (G F).2),λF=>(H.c (G F).1).fr f λc _=>g 2 ae (G F).2 c,λF=>?_,λF=>f.row (H.p (G F).1) (g 4 ae (G F).2 bp H.po),λF=>⟨(H.w (G F).1).1.fr f λc hc=>g 5 ae (G F).2 c ((H.w (G F).1).2 c hc),(H.w (G F).1).2⟩,λF=>(H.s (G F).1).fr f (g 6 ae (G F).2),λF=>(H.f (G F).1).fr f (g 7 ae (G F).2),λF=>(H.e (G F).1).fr f λc _=>g 8 ae (G F).2 c,
  λF=>⟨(H.wk (G F).1).1.fr f λc _ hc=>g 9 ae (G F).2 c ((H.wk (G F).1).2 c hc),(H.wk (G F).1).2⟩,λi hi F=>(H.ws i hi (G F).1).other f L (g (10+i) ae (G F).2) W D,H.po,H.set.chg f L I,⟨f.row p1 (L _ H.zl.1),p2.fr f λc _=>L c,p3.fr f λc _=>L c⟩,H.zl,⟨wf,s1,by rw[D.w];exact s2,by rw[D.h];exact s3,by rw[D.c];exact s4,by rw[D.m];exact s5⟩,λc hc=>⟨bT (H.ow c hc).1 f.1,(H.ow c hc).2⟩,H.ext.then_fr f λc hc=>hc.elim (λh=>(U c h).2.1) (hb c),H.few⟩
 obtain⟨Zl,o1,z1,z2⟩:=H.l (G F).1;exact⟨Zl,o1.fr f (λc _ hc=>g 3 ae (G F).2 c (z1 c hc)) λc hc=>g 3 ae (G F).2 c (z2 c hc),z1,z2⟩
theorem aS.ex0 (H:aS X C Z K h0 bw bp o n V P h):jh h (some C.E) n:=λD A=>by cases A;exact⟨H.set.out,H.sui.1⟩
theorem aS.chgM (H:aS X C Z K h0 bw bp o n V P h){A M:Nat→Prop}(f:Fr M h h')(I:∀c,M c→(A (o c)∨o c=0)∧h0.size≤c∧¬Z c∧Ay (some C.E) c∧¬de (some C.E) c):aS (λk=>X k∨A k) C Z K h0 bw bp o n V P h':=by
 have L:jh h' (some C.E) n:=H.ex0.fr f λc hc _=>(I c hc).2.2.2
 have G:∀c,Z c→¬M c:=λc hz hc=>(I c hc).2.2.1 hz
 have g:∀k,k≠0→¬A k→∀c,o c=k→¬M c:=λk k0 hk c hc hm=>(I c hm).1.elim (by rw[hc];exact hk) λh=>k0 (by rw[←hc,h])
 have F:∀{k},¬(X k∨A k)→¬X k∧¬A k:=λh=>⟨λx=>h (.inl x),λx=>h (.inr x)⟩
 obtain⟨p1,p2,p3⟩:=H.pl;refine⟨λD=>(H.q (F D).1).fr f (g 1 ae (F D).2),λD=>(H.c (F D).1).fr f λc _=>g 2 ae (F D).2 c,λD=>?_,λD=>f.row (H.p (F D).1) (g 4 ae (F D).2 bp H.po),λD=>⟨(H.w (F D).1).1.fr f λc hc=>g 5 ae (F D).2 c ((H.w (F D).1).2 c hc),(H.w (F D).1).2⟩,λD=>(H.s (F D).1).fr f (g 6 ae (F D).2),λD=>(H.f (F D).1).fr f (g 7 ae (F D).2),λD=>(H.e (F D).1).fr f λc _=>g 8 ae (F D).2 c,
  λD=>⟨(H.wk (F D).1).1.fr f λc _ hc=>g 9 ae (F D).2 c ((H.wk (F D).1).2 c hc),(H.wk (F D).1).2⟩,λi hi D=>(H.ws i hi (F D).1).other f G (g (10+i) ae (F D).2) L (eo.refl n),H.po,H.set.chg f G (L C.E rfl).1,⟨f.row p1 (G _ H.zl.1),p2.fr f λc _=>G c,p3.fr f λc _=>G c⟩,H.zl,H.sui,λc hc=>⟨bT (H.ow c hc).1 f.1,(H.ow c hc).2⟩,H.ext.then_fr f λc hc=>(I c hc).2.1,H.few⟩
 obtain⟨Zl,o1,W,U⟩:=H.l (F D).1;exact⟨Zl,o1.fr f (λc _ hc=>g 3 ae (F D).2 c (W c hc)) λc hc=>g 3 ae (F D).2 c (U c hc),W,U⟩
theorem aS.chg (H:aS X C Z K h0 bw bp o n V P h){A:Nat→Prop}(D:¬A 0)(f:Fr (λc=>A (o c)) h h'):aS (λk=>X k∨A k) C Z K h0 bw bp o n V P h':=
 H.chgM f λc hc=>⟨.inl hc,(H.ow c λh=>D (h▸hc)).2⟩
theorem aS.less {Y:Nat→Prop}(H:aS X C Z K h0 bw bp o n V P h)(k:∀i,X i→Y i):aS Y C Z K h0 bw bp o n V P h:=
 ⟨λA=>H.q (A∘k _),λA=>H.c (A∘k _),λA=>H.l (A∘k _),λA=>H.p (A∘k _),λA=>H.w (A∘k _),λA=>H.s (A∘k _),λA=>H.f (A∘k _),λA=>H.e (A∘k _),λA=>H.wk (A∘k _),λi hi A=>H.ws i hi (A∘k _),H.po,H.set,H.pl,H.zl,H.sui,H.ow,H.ext,H.few⟩
theorem aS.loc (H:aS X C Z K h0 bw bp o n V P h){b:Nat}(u:Upd b h h')(D:o b=0∧h0.size≤b∧¬Z b∧Ay (some C.E) b∧¬de (some C.E) b):aS X C Z K h0 bw bp o n V P h':=
 (H.chgM (A:=λ_=>False) u.fr λc hc=>by rw[show c=b from hc];exact⟨.inr D.1,D.2⟩).less λk F=>F.elim id False.elim
theorem aS.ex (H:aS X C Z K h0 bw bp o n V P h)(e:Ext h h'):aS X C Z K h0 bw bp o n V P h':=by
 obtain⟨L,F,p3⟩:=H.pl;have I2:jh h' (some C.E) n:=λE' I=>by cases I;exact⟨H.set.out.ext e,H.sui.1⟩
 refine⟨λA=>(H.q A).ext e,λA=>(H.c A).ext e,λA=>?_,λA=>e.row (H.p A),λA=>⟨(H.w A).1.fr (M:=λ_=>False) e.fr λ_ _=>id,(H.w A).2⟩,λA=>(H.s A).fr (M:=λ_=>False) e.fr λ_ _=>id,λA=>(H.f A).fr (M:=λ_=>False) e.fr λ_ _=>id,λA=>(H.e A).ext e,λA=>⟨(H.wk A).1.ext e,(H.wk A).2⟩,λi hi A=>(H.ws i hi A).ext e,H.po,H.set.ext e,⟨e.row L,F.ext e,p3.ext e⟩,H.zl,H.sui,λc hc=>⟨bT (H.ow c hc).1 e.1,(H.ow c hc).2⟩,H.ext.trans e,H.few⟩;obtain⟨D,G,U,W⟩:=H.l A;exact⟨D,G.ext e,U,W⟩
def grow (o:Nat→Nat)(b lo hi:Nat):Nat→Nat:=λc=>if lo≤c∧c<hi then b else o c
theorem iL {b lo hi c:Nat}(h:c<lo):grow o b lo hi c=o c:=az ae
theorem aS.relab (H:aS X C Z K h0 bw bp o n V P h){B:Nat→Prop}{o':Nat→Nat}{lo:Nat}(e:∀c,c<lo→o' c=o c)(hl:∀c,lo≤c→o c=0)(hb:∀c,lo≤c→o' c≠0→B (o' c)∧c<h.size)(h1:h0.size≤lo)(h2:∀c,lo≤c→¬Z c∧Ay (some C.E) c∧¬de (some C.E) c):aS (λk=>X k∨B k) C Z K h0 bw bp o' n V P h:=by
 have D:∀{k},¬(X k∨B k)→¬X k∧¬B k:=λh=>⟨λx=>h (.inl x),λx=>h (.inr x)⟩
 have g:∀k,¬B k→k≠0→∀c,o' c=k↔o c=k:=λk F h0 c=>by
  rcases oE c lo with h|h
  ·rw[e c h]
  ·rw[hl c h];exact⟨λI=>absurd (by rw[←I];exact(hb c h ae).1) F,λI=>absurd I.symm h0⟩
 have G:∀k,¬B k→k≠0→(λc=>o' c=k)=λc=>o c=k:=λk F h0=>funext λc=>propext (g k F h0 c)
 have gr:∀{k v l},¬B k→k≠0→tO o k h v l→tO o' k h v l:=λF h0 ⟨Z1,U,W,L⟩=>⟨Z1,U,λc hc=>(g _ F h0 c).2 (W c hc),λc hc=>(g _ F h0 c).2 (L c hc)⟩
 have lb:bp<lo:=Nat.lt_of_not_le λh=>by have:=hl bp h;have:=H.po;omega
 refine⟨λA=>by rw[G 1 (D A).2 ae];exact H.q (D A).1,λA=>by rw[G 2 (D A).2 ae];exact H.c (D A).1,λA=>?_,λA=>H.p (D A).1,λA=>⟨(H.w (D A).1).1,λc hc=>(g 5 (D A).2 ae c).2 ((H.w (D A).1).2 c hc)⟩,λA=>gr (D A).2 ae (H.s (D A).1),λA=>gr (D A).2 ae (H.f (D A).1),λA=>by rw[G 8 (D A).2 ae];exact H.e (D A).1,λA=>⟨(H.wk (D A).1).1,λc hc=>(g 9 (D A).2 ae c).2 ((H.wk (D A).1).2 c hc)⟩,
  λi hi A=>by rw[G (10+i) (D A).2 ae];exact H.ws i hi (D A).1,by rw[e bp lb];exact H.po,H.set,H.pl,H.zl,H.sui,λc hc=>?_,H.ext,H.few⟩
 ·obtain⟨Zl,U,W,L⟩:=H.l (D A).1;exact⟨Zl,U,λc hc=>(g 3 (D A).2 ae c).2 (W c hc),λc hc=>(g 3 (D A).2 ae c).2 (L c hc)⟩
 ·rcases oE c lo with h|h
  ·rw[e c h]at hc;exact H.ow c hc
  ·exact⟨(hb c h hc).2,ae,h2 c h⟩
theorem aS.own (H:aS X C Z K h0 bw bp o n V P h){b lo:Nat}(D:∀c,lo≤c→o c=0)(h1:h0.size≤lo)(F:∀c,lo≤c→¬Z c∧Ay (some C.E) c∧¬de (some C.E) c):aS (λk=>X k∨k=b) C Z K h0 bw bp (grow o b lo h.size) n V P h:=
 H.relab (λc hc=>iL hc) D (λc hc h=>by
  unfold grow at h ⊢;split at h
  ·rename_i A;rw[aA A];exact⟨rfl,A.2⟩
  ·exact absurd (D c hc) h) h1 F
theorem aS.fresh (H:aS X C Z K h0 bw bp o n V P h){c:Nat}(hc:h.size≤c):o c=0∧¬Z c∧Ay (some C.E) c∧¬de (some C.E) c:=by
 have D:jh h (some C.E) n:=λG F=>by cases F;exact⟨H.set.out,H.sui.1⟩
 refine⟨Rc λh=>?_,λA=>?_,D.new hc⟩
 ·have:=(H.ow c h).1;omega
 ·have:=H.set.zl c A;omega
theorem aS.take (H:aS X C Z K h0 bw bp o n V P h){A:PV}{P1:cg}{D:Pic}{F:Nat→Prop}(G:aS F C Z K h0 bw bp o D A P1 h'){b:Nat}:aS (λk=>F k∨k=b) C Z K h0 bw bp (grow o b h.size h'.size) D A P1 h':=
 G.own (λc hc=>(H.fresh hc).1) H.ext.1 λc hc=>(H.fresh hc).2
theorem aS.fq (H:aS (λk=>X k∨k=1) C Z K h0 bw bp o n V P h){q:QD}(hq:IsQ (λc=>o c=1) h C.bq q):aS X C Z K h0 bw bp o n V {P with q:=q} h:=
 have D:∀{k},¬X k→k≠1→¬(X k∨k=1):=λa b h=>h.elim a b
 ⟨λ_=>hq,λA=>H.c (D A ae),λA=>H.l (D A ae),λA=>H.p (D A ae),λA=>H.w (D A ae),λA=>H.s (D A ae),λA=>H.f (D A ae),λA=>H.e (D A ae),λA=>H.wk (D A ae),λi hi A=>H.ws i hi (D A ae),H.po,H.set,H.pl,H.zl,H.sui,H.ow,H.ext,H.few⟩
theorem aS.fc (H:aS (λk=>X k∨k=2) C Z K h0 bw bp o n V P h){r:Nat→List Int}(hc:fF (λc=>o c=2) h V.vc (K+1) r):aS X C Z K h0 bw bp o n V {P with rows:=r} h:=
 have D:∀{k},¬X k→k≠2→¬(X k∨k=2):=λa b h=>h.elim a b
 ⟨λA=>H.q (D A ae),λ_=>hc,λA=>H.l (D A ae),λA=>H.p (D A ae),λA=>H.w (D A ae),λA=>H.s (D A ae),λA=>H.f (D A ae),λA=>H.e (D A ae),λA=>H.wk (D A ae),λi hi A=>H.ws i hi (D A ae),H.po,H.set,H.pl,H.zl,H.sui,H.ow,H.ext,H.few⟩
theorem aS.fl (H:aS (λk=>X k∨k=3) C Z K h0 bw bp o n V P h)(G:X 4){sl:Value}{acc:List Acc}(I:∃F:Nat→Prop,Rp.Ow xn F h sl acc∧(∀c,F c→o c=3)∧∀c,blk sl c→o c=3):aS X C Z K h0 bw bp o n {V with sl:=sl} {P with acc:=acc} h:=
 have D:∀{k},¬X k→k≠3→¬(X k∨k=3):=λa b h=>h.elim a b
 ⟨λA=>H.q (D A ae),λA=>H.c (D A ae),λA=>I,λA=>absurd G A,λA=>H.w (D A ae),λA=>H.s (D A ae),λA=>H.f (D A ae),λA=>H.e (D A ae),λA=>H.wk (D A ae),λi hi A=>H.ws i hi (D A ae),H.po,H.set,H.pl,H.zl,H.sui,H.ow,H.ext,H.few⟩
theorem aS.fp (H:aS (λk=>X k∨k=4) C Z K h0 bw bp o n V P h){st:Int}{rt:Bool}{pk:Int}(F:h[bp]? =some (.cells (iK C V {P with sent:=st,ret:=rt,picks:=pk}) 106 (0,0))):aS X C Z K h0 bw bp o n V {P with sent:=st,ret:=rt,picks:=pk} h:=
 have D:∀{k},¬X k→k≠4→¬(X k∨k=4):=λa b h=>h.elim a b
 ⟨λA=>H.q (D A ae),λA=>H.c (D A ae),λA=>H.l (D A ae),λ_=>F,λA=>H.w (D A ae),λA=>H.s (D A ae),λA=>H.f (D A ae),λA=>H.e (D A ae),λA=>H.wk (D A ae),λi hi A=>H.ws i hi (D A ae),H.po,H.set,H.pl,H.zl,H.sui,H.ow,H.ext,H.few⟩
theorem aS.fs (H:aS (λk=>X k∨k=6) C Z K h0 bw bp o n V P h)(F:X 4){sv:Value}{l:List (List Int)}(G:tO o 6 h sv l):aS X C Z K h0 bw bp o n {V with sv:=sv} {P with stamps:=l} h:=
 have D:∀{k},¬X k→k≠6→¬(X k∨k=6):=λa b h=>h.elim a b
 ⟨λA=>H.q (D A ae),λA=>H.c (D A ae),λA=>H.l (D A ae),λA=>absurd F A,λA=>H.w (D A ae),λ_=>G,λA=>H.f (D A ae),λA=>H.e (D A ae),λA=>H.wk (D A ae),λi hi A=>H.ws i hi (D A ae),H.po,H.set,H.pl,H.zl,H.sui,H.ow,H.ext,H.few⟩
theorem aS.ff (H:aS (λk=>X k∨k=7) C Z K h0 bw bp o n V P h)(F:X 4){lv:Value}{l:List (List Int)}(G:tO o 7 h lv l):aS X C Z K h0 bw bp o n {V with lv:=lv} {P with left:=l} h:=
 have D:∀{k},¬X k→k≠7→¬(X k∨k=7):=λa b h=>h.elim a b
 ⟨λA=>H.q (D A ae),λA=>H.c (D A ae),λA=>H.l (D A ae),λA=>absurd F A,λA=>H.w (D A ae),λA=>H.s (D A ae),λ_=>G,λA=>H.e (D A ae),λA=>H.wk (D A ae),λi hi A=>H.ws i hi (D A ae),H.po,H.set,H.pl,H.zl,H.sui,H.ow,H.ext,H.few⟩
theorem aS.fe (H:aS (λk=>X k∨k=8) C Z K h0 bw bp o n V P h)(F:X 4){ev:Value}{l:List Int}(G:Rp.Sl (Rp.int .i64) (λc=>o c=8) h ev l):aS X C Z K h0 bw bp o n {V with ev:=ev} {P with fin:=l} h:=
 have D:∀{k},¬X k→k≠8→¬(X k∨k=8):=λa b h=>h.elim a b
 ⟨λA=>H.q (D A ae),λA=>H.c (D A ae),λA=>H.l (D A ae),λA=>absurd F A,λA=>H.w (D A ae),λA=>H.s (D A ae),λA=>H.f (D A ae),λ_=>G,λA=>H.wk (D A ae),λi hi A=>H.ws i hi (D A ae),H.po,H.set,H.pl,H.zl,H.sui,H.ow,H.ext,H.few⟩
end
end
end Go.Proofs.YtjljhnandbbldaaGreatDoor
namespace Go.Crisp
open Go
section
structure Cp {α:Type}(e:Rp α)(Z:Nat→Prop)(h0:ah)(r:Option (Value×List α))(o:Option (Value×α))(g:ah):Prop where
 ext:Ext h0 g
 zl:∀b,Z b→b<h0.size
 row:∀p,r=some p→Rp.Ow e Z g p.1 p.2∧∀b,blk p.1 b→h0.size≤b
 el:∀p,o=some p→(∃cs,SlC e.w g p.1 1 cs∧e.R Z g (Rp.el e.w cs 0) p.2)∧∀b,blk p.1 b→h0.size≤b∧b<g.size
 apart:∀p q,r=some p→o=some q→∀b,blk p.1 b→¬blk q.1 b
section
variable {α:Type}{e:Rp α}{Z:Nat→Prop}{h0 g:ah}{r:Option (Value×List α)}{o:Option (Value×α)}{K:Value→ah→Prop}
theorem Cp.start (h:ah)(zl:∀b,Z b→b<h.size):Cp e Z h none none h:=⟨Ext.refl _,zl,by simp,by simp,by simp⟩
theorem Cp.row0 {t:TypeId}(C:Cp e Z h0 none o g)(H:∀v I,Cp e Z h0 (some (v,[])) o I→K v I):df #[] t 0 [] g K:=by
 refine da (c':=#[]) rfl λb I r1 F U=>H _ _ ⟨C.ext.trans F,C.zl,λp A=>?_,λp A=>?_,λp q A hq D G L=>?_⟩
 ·cases A;refine⟨⟨[],.inr ⟨b,0,[],t,rfl,bU _,by simp,by simp,r1⟩,λc hc W=>?_,λi hi=>absurd hi (by simp)⟩,λc hc=>?_⟩
  ·have h1:=C.zl c W;have:=C.ext.1;rw[show c=b from hc]at h1;omega
  ·rw[show c=b from hc];exact bh C.ext.1 U
 ·obtain⟨⟨cs,a,D⟩,c⟩:=C.el p A;exact⟨⟨cs,a.fr F.fr λ_ _ _=>id,e.ext D F⟩,λb G=>⟨(c b G).1,bT (c b G).2 F.1⟩⟩
 ·cases A;have:=((C.el q hq).2 D L).2;rw[show D=b from G]at this;omega
theorem Cp.row1 {t:TypeId}{c:Array Value}{cs:List Value}{x:α}(C:Cp e Z h0 r none g)(D:e.R Z h0 cs x)(hc:c.size=e.w)(H:∀v F,Cp e Z h0 r (some (v,x)) F→K v F):df c t 1 [(0,e.w,.agg cs.toArray)] g K:=by
 refine da (Rp.fill_whole hc (e.len D)) λb F r1 I W=>H _ _ ⟨C.ext.trans I,C.zl,λp A=>⟨(C.row p A).1.ext I,(C.row p A).2⟩,λp A=>?_,λp q A hq U hb G=>?_⟩
 ·cases A;have L:=Rp.SlC.single r1;rw[e.len D]at L;refine⟨⟨cs,L,?_⟩,λk hk=>?_⟩
  ·rw[Rp.el_self (e.len D)];exact e.ext D (C.ext.trans I)
  ·rw[show k=b from hk];exact⟨bh C.ext.1 W,bB r1⟩
 ·cases hq;have:=(C.row p A).1.lt hb;rw[show U=b from G]at this;omega
theorem Cp.app {t:TypeId}{z v u:Value}{l l2:List α}{bytes:Nat}(C:Cp e Z h0 (some (v,l)) o g)(hu:Rp.Sl e Z h0 u l2)(W:z.cells.size=e.w)(A:(l.length+l2.length)*bytes≤140737488355328)(hn:l.length+l2.length≤9223372036854775807)
  (H:∀I G,Cp e Z h0 (some (I,l++l2)) o G→K I G):di z t e.w bytes v u g K:=by
 obtain⟨o1,n1⟩:=C.row _ rfl;obtain⟨ds,hs,_,he⟩:=hu.ext C.ext;refine Rp.app_ow (l2:=l2) o1 hs he W A hn (λb A=>bT (C.zl b A) C.ext.1) λI G o' L n'=>H I G ⟨C.ext.then_fr L n1,C.zl,λp D=>?_,λp D=>?_,λp q D hq b A F=>?_⟩
 ·cases D;refine⟨o',λb A=>?_⟩;rcases n' b A with h|h
  ·exact n1 b h
  ·exact bh C.ext.1 h
 ·obtain⟨⟨cs,a,b'⟩,c⟩:=C.el p D;obtain⟨aa,_,U,_⟩:=o1;refine⟨⟨cs,a.fr L λb _ A hv=>C.apart _ _ rfl D b hv A,e.fr b' L λb _ W A=>U b A W⟩,λb A=>⟨(c b A).1,bT (c b A).2 L.1⟩⟩
 ·cases D;rcases n' b A with h|h
  ·exact C.apart _ _ rfl hq b h F
  ·have:=((C.el q hq).2 b F).2;omega
theorem Cp.app1 {t:TypeId}{z v u:Value}{l:List α}{x:α}{bytes:Nat}(C:Cp e Z h0 (some (v,l)) (some (u,x)) g)(L:z.cells.size=e.w)(D:(l.length+1)*bytes≤140737488355328)(hn:l.length+1≤9223372036854775807)
  (H:∀F A,Rp.Ow e Z A F (l++[x])→Ext h0 A→(∀b,blk F b→h0.size≤b)→K F A):di z t e.w bytes v u g K:=by
 obtain⟨U,G⟩:=C.row _ rfl;obtain⟨⟨cs,a,I⟩,c⟩:=C.el _ rfl;refine Rp.app_ow (l2:=[x]) U a (λi hi=>?_) L D hn (λb D=>bT (C.zl b D) C.ext.1) λF A o' W n'=>H F A o' (C.ext.then_fr W G) λb D=>?_
 ·have h0:i=0:=by simpa using hi
  subst h0;exact I
 rcases n' b D with h|h
 ·exact G b h
 ·exact bh C.ext.1 h
end
end
end Go.Crisp
namespace Go.Proofs.YtjljhnandbbldaaGreatDoor
open Go Go.Crisp
attribute [local irreducible] ag df aW stK aF vK qK bJ gK eK aZ mkK di Fi GM CF bsK clK ud oA V2
open _root_.Go.Proofs.Tryz
section
theorem Fo {h:ah}{b:Nat}{v:Value}{m:Pic}(H:db h b v m)(A:jA m.w m.h m.c):ag prog sD #[ptr b] h λr h'=>r=af (m.w*m.h*m.c)∧h'=h:=by
 apply QQ;unfold F9;have D:=dH A;refine ag.at (ut H) (ag.at (sq H) ?_);simp only[go_sem];rw[w64 (n:=m.w*m.h) ae ae];refine ag.at (fD H) ?_;simp only[go_sem];rw[w64 (n:=m.w*m.h*m.c) ae ae];exact⟨rfl,trivial⟩
def fR (C:C21)(Z:Nat→Prop)(K:Nat)(h0:ah)(bw:Nat→Nat)(bp:Nat)(o:Nat→Nat)(n:Pic)(P:cg)(h:ah):Prop:=∃V,aS (λ_=>False) C Z K h0 bw bp o n V P h
def PTo (C:C21)(Z:Nat→Prop)(K:Nat)(h0:ah)(bw:Nat→Nat)(bp:Nat)(o:Nat→Nat)(h:ah)(n':Pic)(P':cg)(h':ah):Prop:=∃o',fR C Z K h0 bw bp o' n' P' h'∧(∀c,c<h.size→o' c=o c)∧Fr (λc=>o c≠0∨de (some C.E) c) h h'
def tN (P:cg)(who:Nat)(buf lo cnt:Int)(wr:Bool):cg:={P with acc:=P.acc++[⟨who,P.rows who,buf,lo,lo+cnt,wr⟩]}
section
variable {C:C21}{Z:Nat→Prop}{K:Nat}{h0 h:ah}{bw:Nat→Nat}{bp:Nat}{o:Nat→Nat}{n:Pic}{P:cg}
theorem fR.row (H:fR C Z K h0 bw bp o n P h):∃V,aS (λ_=>False) C Z K h0 bw bp o n V P h∧h[bp]? =some (.cells (iK C V P) 106 (0,0)):=by
 obtain⟨V,H⟩:=H;exact⟨V,H,H.p id⟩
theorem PTo.refl (H:fR C Z K h0 bw bp o n P h):PTo C Z K h0 bw bp o h n P h:=⟨o,H,λ_ _=>rfl,Fr.refl _ _⟩
theorem fR.ext {h':ah}(H:fR C Z K h0 bw bp o n P h)(e:Ext h h'):fR C Z K h0 bw bp o n P h':=by
 obtain⟨V,H⟩:=H;exact⟨V,H.ex e⟩
theorem PTo.trans {A:Nat→Nat}{h1 F:ah}{H D:Pic}{P1 G:cg}(a:fR C Z K h0 bw bp A H P1 h1∧(∀c,c<h.size→A c=o c)∧Fr (λc=>o c≠0∨de (some C.E) c) h h1)(b:PTo C Z K h0 bw bp A h1 D G F):PTo C Z K h0 bw bp o h D G F:=by
 obtain⟨L,a1,f1⟩:=a;obtain⟨o2,I,a2,f2⟩:=b;have s:=f1.1;exact⟨o2,I,λc hc=>(a2 c ae).trans (a1 c hc),f1.after f2 λc hc h=>h.imp (λh=>by rwa [a1 c hc]at h) id⟩
theorem TL {r:Value}(A:aQ r=true)(a b c d:Int)(w:Bool):aM #[ai,(.slice none 0 0),ai,ai,ai,(.bool false)] [(0,1,af a),(1,1,r),(2,1,af b),(3,1,af c),(4,1,af d),(5,1,.bool w)]=some #[af a,r,af b,af c,af d,.bool w]:=by
 refine(bP (n:=1) (l:=[af a]) rfl rfl (by simp)).trans ?_;refine(bP (n:=1) (l:=[r]) (cC A) rfl (by simp[cG])).trans ?_;refine(bP (n:=1) (l:=[af b]) rfl rfl (by simp[cG])).trans ?_;refine(bP (n:=1) (l:=[af c]) rfl rfl (by simp[cG])).trans ?_;refine(bP (n:=1) (l:=[af d]) rfl rfl (by simp[cG])).trans ?_;refine(bP (n:=1) (l:=[.bool w]) rfl rfl (by simp[cG])).trans ?_;rw[gG];simp[wrL]
theorem Fp (H:fR C Z K h0 bw bp o n P h){who:Nat}(hw:who≤K){buf lo cnt:Int}{wr:Bool}(hl:P.acc.length≤1000000)(hb:0≤buf)(h1:0≤lo)(h2:1≤cnt)(h3:lo+cnt≤1000000000000):
  ag prog dN #[ptr bp,af (who:Int),af buf,af lo,af cnt,.bool wr] h λr h'=>r=.tuple #[]∧PTo C Z K h0 bw bp o h n (tN P who buf lo cnt wr) h':=by
 obtain⟨V,H,row⟩:=H.row;apply GF;unfold wG;have c4:aG h ⟨bp,4,none⟩=some V.vc:=am row;refine aP (λk=>k=h) rfl ?_;simp only[go_sem,aK];refine aC V.vc (λk e=>by rw[e];exact c4) ?_;rw[w64 (n:=lo+cnt) ae ae];refine(zb6 (H.c id) who).mono λr g1 ⟨o1,F,n1⟩=>?_
 have D:Kw (K+1) P.rows (who:Int)=P.rows who:=by
  unfold Kw;rw[aA ae,eT]
 rw[D]at o1;have ab:(P.rows who).length=K+1:=by
  obtain⟨bc,sl,sv,t,_,CA⟩:=H.c id;exact CA.len who ae
 have hK:=H.few;rw[Le _ #[af (who:Int),r,af buf,af lo,af (lo+cnt),.bool wr] (TL (CG o1) _ _ _ _ _)];have W:=H.ex F;obtain⟨Zl,ol,z1,z2⟩:=W.l id;have aa:=H.po;have L:zaq Zl g1 bp 5 (iK C V P) 106 V.sl P.acc:=⟨F.row row,rfl,ol,⟨λh=>by have:=z2 _ h;omega,λh=>by have:=z1 _ h;omega⟩,λc hc=>(W.ow c (by rw[z1 c hc];omega)).1⟩
 refine(zc5 (a:=⟨who,P.rows who,buf,lo,lo+cnt,wr⟩) L ⟨r,rfl,o1.ints⟩ (by show(P.rows who).length≤_;omega) hl (by simp[U0];omega)).mono λ_ g2 ⟨s',Z',G,f2,n2,nz⟩=>?_
 have A0:Fr (λc=>(λk=>k=3∨k=4) (o c)) g1 g2:=f2.mono λc _ hc=>hc.elim (λh=>.inr (by rw[h];exact aa)) λh=>.inl (z2 c h)
 have H2:=H.take ((W.chg (A:=λk=>k=3∨k=4) ae A0)) (b:=3);have s1:=F.1;have s2:=f2.1;have g3:∀c,blk s' c∨Z' c→grow o 3 h.size g2.size c=3:=λc hc=>by
  have lt:c<g2.size:=hc.elim (λh=>G.own.lt h) λh=>G.zlt c h
  unfold grow;split
  ·rfl
  ·rcases hc with I|I
   ·exact(n2 c I).elim (z2 c) λh=>ae
   ·exact(nz c I).elim (z1 c) λh=>ae
 have H3:=(H2.less (Y:=λk=>k=4∨k=3) λk U=>by rcases U with (h|h|h)|h<;>first|exact h.elim|exact .inr h|exact .inl h).fl (X:=λk=>k=4) rfl ⟨Z',G.own,λc hc=>g3 c (.inr hc),λc hc=>g3 c (.inl hc)⟩;have H4:=(H3.less (Y:=λk=>False∨k=4) λk U=>.inr U).fp (X:=λ_=>False) (st:=P.sent) (rt:=P.ret) (pk:=P.picks) G.var;exact⟨trivial,_,⟨_,H4⟩,λc hc=>iL hc,(F.fr (M:=λc=>o c≠0∨de (some C.E) c)).after A0 λc _ hc=>.inl (by rcases hc with h|h<;>omega)⟩
end
end
section
def gI (C:C21)(K:Nat)(P:cg)(i:Int):Bool:=
 if i<0∨(K:Int)<i then false
 else if 0<i then decide ((P.ws (i-1).toNat).state=1∨((P.ws (i-1).toNat).state=0∧dE P.q≠1))
 else if P.ret=true then false
 else if P.sent<bX C.d then decide (rG P.q≠1)
 else !P.q.closed||decide (P.left.length=K)
section
variable {C:C21}{Z:Nat→Prop}{K:Nat}{h0 h:ah}{bw:Nat→Nat}{bp:Nat}{o:Nat→Nat}{n:Pic}{P:cg}
theorem SlC.len {w:Nat}{h:ah}{v:Value}{n:Nat}{cs:List Value}(H:SlC w h v n cs):aD v=some (af (n:Int)):=by
 obtain⟨a,c,e⟩:=H.isSl;rw[e];rfl
theorem tO.len {k:Nat}{v:Value}{l:List (List Int)}(H:tO o k h v l):aD v=some (af (l.length:Int)):=by
 obtain⟨Z,A,_⟩:=H;obtain⟨a,c,e⟩:=A.isSl;rw[e];rfl
theorem aS.wat {X:Nat→Prop}{V:PV}(H:aS X C Z K h0 bw bp o n V P h)(A:¬X 9){i:Nat}(hi:i<K):∃p,bu 1 V.wv (af (i:Int))=some p∧ldV h p=some (ptr (bw i)):=by
 obtain⟨p,a1,a2⟩:=(H.wk A).1.at1 (k:=.i64) hi;refine⟨p,a1,?_⟩;rw[a2];simp[hi]
theorem zcT (H:fR C Z K h0 bw bp o n P h):ag prog qN #[ptr bp] h λr h'=>r=.bool (decide (P.left.length=K))∧h'=h:=by
 obtain⟨V,H,row⟩:=H.row;apply GH;unfold wI;have G:aG h ⟨bp,6,none⟩=some V.wv:=am row;have A:aG h ⟨bp,11,none⟩=some V.lv:=am row;have F:=SlC.len (H.wk id).1;have D:=(H.f id).len;simp only[go_sem,aK,G,A,F,D];exact⟨by congr 1;simp;omega,trivial⟩
theorem ZM (O:C.Ok)(H:fR C Z K h0 bw bp o n P h){i:Int}(hi:I64 i):ag prog lM #[ptr bp,af i] h λr h'=>r=.bool (gI C K P i)∧h'=h:=by
 have HP:=H;obtain⟨V,H,row⟩:=H.row;apply GD;unfold wE;have F:aG h ⟨bp,6,none⟩=some V.wv:=am row;have L:aG h ⟨bp,3,none⟩=some (ptr C.bq):=am row;have I:aG h ⟨bp,12,none⟩=some (.bool P.ret):=am row;have c8:aG h ⟨bp,8,none⟩=some (af P.sent):=am row;have c2:aG h ⟨bp,2,none⟩=some (ptr C.bl):=am row;have W:=SlC.len (H.wk id).1;have hq:=H.q id;unfold gI;unfold I64 at hi;by_cases h1:i<0
 ·simp only[go_sem,h1];exact⟨by simp,trivial⟩
 by_cases U:(K:Int)<i
 ·simp only[go_sem,aK,h1,F,W,U];exact⟨by simp,trivial⟩
 rw[az ae];by_cases D:0<i
 ·rw[aA D];simp only[go_sem,aK,h1,F,W,U,D];refine aP (λk=>k=h) rfl ?_;refine aC V.wv (λk e=>by rw[e];exact F) ?_;rw[w64 (n:=i-1) ae ae];obtain⟨m,hm⟩:∃m:Nat,i-1=(m:Int):=⟨(i-1).toNat,ae⟩
  have A:m<K:=ae;obtain⟨p,a1,a2⟩:=H.wat id A;rw[hm,a1,aj];refine aC (ptr (bw m)) (λk e=>by rw[e];exact a2) ?_
  try simp only[go_sem,aK]
  refine aC (ptr C.bq) (λk e=>by rw[e];exact L) ?_;refine(Fq (H.ws m A id) hq).mono λr h' ⟨er,eh⟩=>?_
  subst eh;exact⟨by rw[er,eT],rfl⟩
 ·rw [az D];simp only[go_sem,aK,h1,F,W,U,D,I];by_cases G:P.ret=true
  ·rw[aA G,G];simp only[go_sem];exact⟨trivial,trivial⟩
  ·rw[az G];have h5:P.ret=false:=by simpa using G
   rw[h5];simp only[go_sem,aK];refine aP (λk=>k=h) rfl ?_;refine aC (af P.sent) (λk e=>by rw[e];exact c8) ?_
   try simp only[go_sem,aK]
   refine aC (ptr C.bl) (λk e=>by rw[e];exact c2) ?_;refine ag.at (C8 H.pl O.d) ⟨rfl,?_⟩;rw[cq,aj];refine ao (λg=>?_) (λg=>?_)
   ·rw[aA g];simp only[go_sem,aK,L];exact P3 hq
   ·rw[az g];simp only[go_sem,aK,L];refine ag.at (PR hq) ?_;cases hc:P.q.closed with
    |true=>
     simp only[go_sem];refine ag.at (zcT HP) ?_;simp only[go_sem];exact⟨by simp,trivial⟩
    |false=>
     simp only[go_sem];exact⟨by simp,trivial⟩
end
end
section
def sI (C:C21)(K:Nat)(P:cg)(k:Nat):List Int:=((List.range k).map λi:Nat=>(i:Int)).filter λi=>gI C K P i
theorem Xv (C:C21)(K:Nat)(P:cg)(k:Nat):sI C K P (k+1)=sI C K P k++if gI C K P (k:Int)=true then[(k:Int)]else[]:=by
 unfold sI;rw[lU,iD,List.filter_append]
 congr 1
 simp[List.filter_cons]
theorem Gp (C:C21)(K:Nat)(P:cg)(k:Nat):(sI C K P k).length≤k:=by
 unfold sI;exact bh (List.length_filter_le _ _) (by simp)
section
variable {C:C21}{Z:Nat→Prop}{K:Nat}{h0 h:ah}{bw:Nat→Nat}{bp:Nat}{o:Nat→Nat}{n:Pic}{P:cg}
theorem If (H:fR C Z K h0 bw bp o n P h):ag prog fX #[ptr bp] h λr h'=>r=af ((K+1:Nat):Int)∧h'=h:=by
 obtain⟨V,H,row⟩:=H.row;apply Dm;unfold tG;have D:aG h ⟨bp,6,none⟩=some V.wv:=am row;have A:=SlC.len (H.wk id).1;have F:=H.few;simp only[go_sem,aK,D,A];rw[w64 (n:=(K:Int)+1) ae ae];exact⟨rfl,trivial⟩
theorem JV (O:C.Ok)(H:fR C Z K h0 bw bp o n P h):ag prog iT #[ptr bp] h λr h'=>New (Rp.int .i64) h h' r (sI C K P (K+1)):=by
 apply AF;unfold pN;have hk:K≤256:=by obtain⟨V,H⟩:=H;exact H.few.2
 refine ag.at (If H) ?_;refine bH (α:=Value) (K+1) 0 (λi v=>[v,af (i:Int)]) (λi v g=>New (Rp.int .i64) h g v (sI C K P i)) (.slice none 0 0) rfl (bZ _) (New.nil (Ext.refl _)) λi v g again ρ _ hi N D=>?_
 simp only[gX,vC];rw[cq,aj];refine ao (λg1=>?_) (λg1=>?_)
 ·have F:i<K+1:=ae;have A:(i:Int)+1=((i+1:Nat):Int):=ae;have W:=Gp C K P i;refine ag.at (ZM O (H.ext N.2.1) (by unfold I64;omega)) ?_;have G:=Xv C K P i;cases I:gI C K P (i:Int)with
  |true=>
   rw[I,aA rfl]at G;rw[iI];refine New.push_int N rfl ae ae λL g2 U=>?_
   simp only[go_sem];rw[w64 (n:=(i:Int)+1) ae ae,A];exact D L g2 F (by rw[G];exact U)
  |false=>
   rw[I]at G;rw[cK];simp only[go_sem];rw[w64 (n:=(i:Int)+1) ae ae,A];exact D v g F (by rw[G];simpa using N)
 ·have:i=K+1:=ae;subst this;exact N
theorem vG (H:fR C Z K h0 bw bp o n P h):ag prog gq #[ptr bp] h λr h'=>r=.bool P.ret∧h'=h:=by
 obtain⟨V,H,row⟩:=H.row;apply AG;unfold pP;have c:aG h ⟨bp,12,none⟩=some (.bool P.ret):=am row;simp only[go_sem,aK,c];exact⟨trivial,trivial⟩
def lR (K:Nat)(P:cg)(i:Int):List Int:=if i<1∨(K:Int)<i then[]else(P.ws (i-1).toNat).tiles
theorem Uc (H:fR C Z K h0 bw bp o n P h){i:Int}(hi:I64 i)(L:∀j,j<K→(P.ws j).tiles.length≤1000000):ag prog kN #[ptr bp,af i] h λr h'=>New (Rp.int .i64) h h' r (lR K P i):=by
 obtain⟨V,H,row⟩:=H.row;apply EN;unfold uY;have F:aG h ⟨bp,6,none⟩=some V.wv:=am row;have G:=SlC.len (H.wk id).1;unfold lR;unfold I64 at hi;by_cases h1:i<1
 ·rw[aA (.inl h1)];simp only[go_sem,h1];exact New.nil (Ext.refl _)
 by_cases D:(K:Int)<i
 ·rw[aA (.inr D)];simp only[go_sem,aK,h1,F,G,D];exact New.nil (Ext.refl _)
 rw[az ae];simp only[go_sem,aK,h1,F,G,D];rw[w64 (n:=i-1) ae ae];obtain⟨m,I⟩:∃m:Nat,i-1=(m:Int):=⟨(i-1).toNat,ae⟩
 have A:m<K:=ae;obtain⟨p,a1,a2⟩:=H.wat id A;rw[I,a1,aj,a2,aj];exact zbC (H.ws m A id) (L m A)
theorem R8 (H:fR C Z K h0 bw bp o n P h):ag prog nh #[ptr bp] h λr h'=>(P.ret=false∧r=.tuple #[.pointer none,.bool false]∧h'=h)∨(P.ret=true∧∃p,r=.tuple #[p,.bool true]∧sU h h' p n):=by
 obtain⟨V,H,row⟩:=H.row;apply Dl;unfold tF;have A:aG h ⟨bp,12,none⟩=some (.bool P.ret):=am row;have D:aG h ⟨bp,1,none⟩=some (ptr C.bt):=am row;simp only[go_sem,aK,A];cases P.ret with
 |false=>
  simp only[go_sem];exact .inl ⟨trivial,trivial,trivial⟩
 |true=>
  simp only[go_sem,aK,D];exact(zc3 H.set.out H.sui.1).mono λr h' N=>.inr ⟨trivial,r,rfl,N⟩
theorem VR {p:Value}{t:Tbl}(H:fG Z h p t):aQ p=true:=by
 obtain⟨b,lv,rfl,_⟩:=H.open;rfl
theorem Sc {b:Nat}{d:dn}{p q:Value}(H:sV Z h b d p q):ag prog iU #[ptr b] h λr h'=>r=.agg #[p,q,af d.s.border]∧Ext h h':=by
 apply EO;unfold uZ;refine aI λI h1 r1 A D=>?_
 simp only[go_sem];rw[ML (A.row H.row) 0 3 [p,q,af d.s.border] rfl rfl,aj];refine cT (l:=[p,q,af d.s.border]) r1 rfl (aq (VR H.x) (aq (VR H.y) (aq rfl aX))) rfl λG r2 F=>?_
 rw[aU r2 3 rfl,aj];exact⟨rfl,A.upd D F⟩
end
end
end Go.Proofs.YtjljhnandbbldaaGreatDoor
namespace Go.Proofs.YtjljhnandbbldaaGreatDoor
open Go Go.Crisp
open _root_.Go.Proofs.Tryz
section
theorem clK12 {f:FuncId}{a A D:Value}{h:ah}{K:Value→ah→Prop}:clK prog (.func (.func f) #[] #[A,D]) #[a] h K=ag prog f #[a,A,D] h K:=rfl
attribute [local irreducible] ag df aW stK aF vK qK bJ gK eK aZ mkK di Fi GM CF bsK clK ud oA V2
def sG (C:C21)(x:Int):Int:=(kE (cD C.d.s.y.lines):Int)*(gP ((aT C.d x).w*C.m.c):Int)
section
variable {X:Nat→Prop}{C:C21}{Z:Nat→Prop}{K:Nat}{h0 h g:ah}{bw:Nat→Nat}{bp:Nat}{o:Nat→Nat}{n:Pic}{V:PV}{P:cg}{x:Int}
theorem zcQ (O:C.Ok)(G:eB h0)(H:aS X C Z K h0 bw bp o n V P g)(x4:¬X 4)(h1:0≤x)(h2:x<bX C.d):ag prog qL #[ptr bp,af x] g λr g2=>
  ∃U bj rv,r=ptr bj∧Ext g g2∧(∀c,U c→g.size≤c∧c<g2.size)∧jD Z U g2 (some C.E) n (ptr bj) (C.jo x)∧kK Z U g2 bj C.bf C.vf C.bt C.vt C.p C.q rv ⟨C.m,C.d.s,aT C.d x⟩ (aT C.d x).y (lnF C.d.s.y (aT C.d x).y) n (kE (cD C.d.s.y.lines)) (gP ((aT C.d x).w*C.m.c)):=by
 have row:=H.p x4;apply GE;unfold wF;have c2:aG g ⟨bp,2,none⟩=some (ptr C.bl):=am row;simp only[go_sem,aK,c2];refine ag.to (vH H.pl O.d h1 h2) λg1 e1=>?_
 have x0:aL (.tuple #[.agg (dA (aT C.d x)).toArray,.bool true]) 0=some (.agg (dA (aT C.d x)).toArray):=rfl;have x1:aL (.tuple #[.agg (dA (aT C.d x)).toArray,.bool true]) 1=some (.bool true):=rfl;simp only[x0,x1,aj];refine dk (cs:=dA (aT C.d x)) rfl (kj _) rfl λb g2 r2 e2 n2=>?_
 have D:=e1.trans e2;have A:=D.row row;have W:=H.ex D;refine aP (Ext g2) (Ext.refl _) ?_
 try simp only[go_sem,aK]
 refine aC (ptr C.bf) (λk e=>am (e.row A)) ?_;refine aC (ptr C.bt) (λk e=>am (e.row A)) ?_;refine aC (ptr C.bl) (λk e=>am (e.row A)) ?_;refine aC (.agg (dA (aT C.d x)).toArray) (λk e=>aU (e.row r2) 10 rfl) ?_;refine(Sc W.pl).mono λr g3 ⟨L,F⟩=>?_
 subst L;refine⟨F,?_⟩;rw[H.zl.2.1,H.zl.2.2];have I:=W.ex F;refine(WW (G.ext I.ext) I.set O.m I.sui.1 O.s.wf).mono λr g4 HW=>?_
 obtain⟨bj,rv,L,e4,J,JS⟩:=VI.has O I.sui h1 h2 HW;subst L;have y0:aL (.tuple #[ptr bj,ai]) 0=some (ptr bj):=rfl;have y1:aL (.tuple #[ptr bj,ai]) 1=some ai:=rfl;simp only[go_sem,y0,y1,ne_eq,eqT,not_true,KQ];have le:g.size≤g3.size:=(D.trans F).1;exact⟨_,bj,rv,rfl,(D.trans F).trans e4,λc hc=>hc.elim False.elim λh=>⟨ae,h.2⟩,J,JS⟩
theorem zaS (O:C.Ok)(G:eB h0)(H:aS X C Z K h0 bw bp o n V P g)(x4:¬X 4)(F:¬X 5)(h1:0≤x)(h2:x<bX C.d){I b3 k:Nat}{T1 T3:TypeId}(hk:k<K)(r1:g[I]? =some (.cells #[ptr bp] T1 (0,0)))(r3:g[b3]? =some (.cells #[af ((k:Int)+1)] T3 (0,0))):
  clK prog (.func (.func gM) #[] #[ptr I,ptr b3]) #[af x] g λr g2=>∃D,(∀c,D c→g.size≤c∧c<g2.size)∧jD Z D g2 (some C.E) n r (C.jo x)∧Fr (blk V.dv) g g2∧Own 1 g2 V.dv K ((List.range K).map λi=>af (if i=k then sG C x else P.words i)):=by
 rw[clK12];apply BD;unfold rC;have hK:=H.few;have c1:aG g ⟨I,0,none⟩=some (ptr bp):=am r1;simp only[go_sem,c1];refine(zcQ O G H x4 h1 h2).mono λr g2 ⟨D,bj,rv,er,A,W,J,JS⟩=>?_
 subst er;rw[UO,aj,iI];have row:=A.row (H.p x4);have c7:aG g2 ⟨bp,7,none⟩=some V.dv:=am row;refine aP (λk=>k=g2) rfl ?_;refine aC (ptr bp) (λk e=>by rw[e];exact am (A.row r1)) ?_
 try simp only[go_sem,aK]
 refine aC V.dv (λk e=>by rw[e];exact c7) ?_;refine aC (af ((k:Int)+1)) (λk e=>by rw[e];exact am (A.row r3)) ?_;simp only[go_sem];rw[w64 (n:=(k:Int)+1-1) ae ae,show(k:Int)+1-1=(k:Int)by omega];refine ag.at (Ns JS) ⟨rfl,?_⟩;have o2:Own 1 g2 V.dv K ((List.range K).map λi=>af (P.words i)):=(H.w F).1.fr (M:=λ_=>False) A.fr λ_ _=>id
 obtain⟨p,a1,a2,a3⟩:=Own.at_map o2 (k:=.i64) hk;rw[a1,aj];refine a3 _ _ λg3 o3 f3=>?_
 have U:∀c,blk V.dv c→c<g.size:=λc hc=>(H.w F).1.lt hc
 have L:∀c,blk V.dv c→o c=5:=(H.w F).2;have sz:=A.1;have J3:=J.other f3 (λc hz hc=>(H.ow c (by rw[L c hc];omega)).2.2.1 hz) (λc hb hc=>by have:=W c hb;have:=U c hc;omega) (λE' hE=>by cases hE;exact⟨((H.ex A).set.out).fr f3 (λhc=>(H.ow _ (by rw[L _ hc];omega)).2.2.2.1 rfl) λc hv hc=>(H.ow c (by rw[L c hc];omega)).2.2.2.2 hv,H.sui.1⟩) (eo.refl n);exact⟨D,λc hc=>⟨(W c hc).1,bT (W c hc).2 f3.1⟩,J3,A.after f3,o3⟩
end
end
end Go.Proofs.YtjljhnandbbldaaGreatDoor
namespace Go.Proofs.YtjljhnandbbldaaGreatDoor
open Go Go.Crisp
attribute [local irreducible] ag df aW stK aF vK qK bJ gK eK aZ mkK di Fi GM CF bsK clK ud oA V2
open _root_.Go.Proofs.Tryz
section
theorem IsW.bmono {Z B B':Nat→Prop}{h:ah}{bw:Nat}{E:Option WE}{n:Pic}{w:WD}(H:IsW Z B h bw E n w)(A:∀c,B c→B' c)(G:∀c,B' c→c<h.size)(U:∀c,B' c→¬Z c∧Ay E c∧¬de E c):IsW Z B' h bw E n w:=by
 obtain⟨⟨tv,D,L,r,o,J,a1,a2,a3⟩,F,b2,W,zl,I,st⟩:=H;exact⟨⟨tv,D,L,r,o,J,λc hc=>⟨A c (a1 c hc).1,(a1 c hc).2⟩,λc hc=>A c (a2 c hc),a3⟩,A _ F,G,U,zl,I,st⟩
theorem IsQ.bmono {Q Q':Nat→Prop}{h:ah}{b:Nat}{d:QD}(H:IsQ Q h b d)(A:∀c,Q c→Q' c)(D:∀c,Q' c→c<h.size):IsQ Q' h b d:=by
 obtain⟨⟨v,r,o,c,n,s⟩,qb,ql,w⟩:=H;exact⟨⟨v,r,o,c,n,λc hc=>A c (s c hc)⟩,A _ qb,D,w⟩
theorem fF.bmono {M M':Nat→Prop}{h:ah}{v:Value}{n:Nat}{rows:Nat→List Int}(H:fF M h v n rows)(A:∀c,M c→M' c)(D:∀c,M' c→c<h.size):fF M' h v n rows:=by
 obtain⟨F,sl,sv,t,e,L⟩:=H;exact⟨F,sl,sv,t,e,L.var,L.arr,L.row,L.len,L.pos,⟨A _ L.inM.1,λb hc=>A b (L.inM.2.1 b hc),λi hi b hc=>A b (L.inM.2.2 i hi b hc)⟩,L.ap1,L.ap2,L.ap3,D⟩
def jn (C:C21)(P:cg)(k:Nat):cg:=
 {P with q:=(cL (some C.E) (C.jo (ce P.q)) (P.ws k) P.q).2.1,ws:=λi=>if i=k then(cL (some C.E) (C.jo (ce P.q)) (P.ws k) P.q).1 else P.ws i,words:=λi=>if i=k∧(P.ws k).state=0∧dE P.q=0 then sG C (ce P.q)else P.words i}
section
variable {C:C21}{Z:Nat→Prop}{K:Nat}{h0 h:ah}{bw:Nat→Nat}{bp:Nat}{o:Nat→Nat}{n:Pic}{V:PV}{P:cg}
theorem WX (O:C.Ok)(G:eB h0)(H:aS (λ_=>False) C Z K h0 bw bp o n V P h){k:Nat}(hk:k<K){b1 b3:Nat}{T1 T3:TypeId}(r1:h[b1]? =some (.cells #[ptr bp] T1 (0,0)))(r3:h[b3]? =some (.cells #[af ((k:Int)+1)] T3 (0,0)))(p1:o b1=0)(p3:o b3=0)(ht:(P.ws k).tiles.length≤1000000)(hb:∀c,de (some C.E) c→h0.size≤c)
  (hx:wg (P.ws k) P.q→0≤ce P.q∧ce P.q<bX C.d):
  ag prog cO #[ptr (bw k),ptr C.bq,.func (.func gM) #[] #[ptr b1,ptr b3]] h λr h'=>r=evV (cL (some C.E) (C.jo (ce P.q)) (P.ws k) P.q).2.2∧
   ∃n' o',aS (λ_=>False) C Z K h0 bw bp o' n' V (jn C P k) h'∧(∀c,c<h.size→o' c=o c)∧Fr (λc=>(o c=10+k∨o c=1∨o c=5)∨de (some C.E) c) h h'∧Cv (some C.E) (P.ws k) n n':=by
 have W:=H.ws k hk id;have Q:=H.q id;obtain⟨U,F⟩:=H.w id;have L:∀c,blk V.dv c→c<h.size:=λc hc=>U.lt hc
 have ab:∀c,o c≠0→¬de (some C.E) c:=λc hc=>(H.ow c hc).2.2.2.2
 refine(WV (jo:=C.jo (ce P.q)) (Qo:=blk V.dv) (P0:=λg=>Own 1 g V.dv K ((List.range K).map λi=>af (P.words i))) (P1:=λg=>Own 1 g V.dv K ((List.range K).map λi=>af (if i=k then sG C (ce P.q)else P.words i))) W Q ht (λtk=>.inr ⟨rfl,λh1 f1 w1=>?_⟩) (λc hc h=>ae) (λc hc=>(H.ow c ae).2.2) (λc hc=>?_) (λg g' f=>?_) U).mono λr h' ⟨er,⟨⟨n',B',Q',W',q',j1,j2,j3,Dr⟩,f⟩,ad,aa⟩=>?_
 ·have f2:Fr (λc=>(λj=>j=10+k∨j=1) (o c)) h h1:=f1;have H1:=H.chg (A:=λj=>j=10+k∨j=1) ae f2;have nx:∀{j},j≠10+k→j≠1→¬(False∨(j=10+k∨j=1)):=λa b h=>by rcases h with h|h|h<;>first|exact h|exact a h|exact b h
  exact zaS O G H1 (nx ae ae) (nx ae ae) (hx tk).1 (hx tk).2 hk (f1.row r1 ae) (f1.row r3 ae)
 ·have h5:=F c hc;have:=H.ow c ae;exact⟨this.1,ae,ae,this.2.2⟩
 ·have q:∀c,blk V.dv c→¬(de (some C.E) c∨o c=10+k∨o c=1∨h.size≤c):=λc hc hh=>by
   have h5:=F c hc;have:=L c hc;rcases hh with hh|hh
   ·exact ab c ae hh
   ·omega
  exact⟨λw=>w.fr f q,λw=>w.fr f q⟩
 ·have f2:Fr (λc=>(λj=>j=10+k∨j=1∨j=5) (o c)∨de (some C.E) c) h h':=f.mono λc _ hc=>by
   rcases hc with hc|hc|hc|hc
   ·exact .inr hc
   ·exact .inl (.inl hc)
   ·exact .inl (.inr (.inl hc))
   ·exact .inl (.inr (.inr (F c hc)))
  have sz:=f.1;have H2:=H.chgO (A:=λj=>j=10+k∨j=1∨j=5) ae hb f2 W'.out Dr.1;have Bl:=W'.bl;have Ql:=q'.ql;obtain⟨o',oo,on,ob,oq⟩:∃o':Nat→Nat,(∀c,c<h.size→o' c=o c)∧(∀c,h.size≤c→o' c≠0→(o' c=10+k∨o' c=1)∧c<h'.size)∧(∀c,B' c→o' c=10+k)∧∀c,Q' c→o' c=1:=by
   classical
   refine⟨λc=>if c<h.size then o c else if B' c then 10+k else if Q' c then 1 else 0,λc hc=>aA hc,λc hc h1=>?_,λc hc=>?_,λc hc=>?_⟩
   ·have I:¬c<h.size:=ae;simp only[az I]at h1 ⊢;by_cases b:B' c
    ·simp only[aA b];exact⟨.inl trivial,Bl c b⟩
    ·simp only[az b]at h1 ⊢;by_cases q:Q' c
     ·simp only[aA q];exact⟨.inr trivial,Ql c q⟩
     ·simp only[az q]at h1;exact absurd rfl h1
   ·by_cases I:c<h.size
    ·simp only[aA I];exact(j1 c hc).elim id λh=>ae
    ·simp only[az I,aA hc]
   ·have nb:¬B' c:=λhb=>j3 c hb hc
    by_cases I:c<h.size
    ·simp only[aA I];exact(j2 c hc).elim id λh=>ae
    ·simp only[az I,az nb,aA hc]
  have D:=H2.relab (B:=λj=>j=10+k∨j=1) (o':=o') oo (λc hc=>(H.fresh hc).1) on H.ext.1 λc hc=>(H.fresh hc).2
  have q3:IsQ (λc=>o' c=1) h' C.bq _:=q'.bmono oq λc hc=>(D.ow c (by rw[hc];omega)).1
  have W3:IsW Z (λc=>o' c=10+k) h' (bw k) (some C.E) n' _:=W'.bmono ob (λc hc=>(D.ow c (by rw[hc];omega)).1) λc hc=>(D.ow c (by rw[hc];omega)).2.2
  have w3:Own 1 h' V.dv K ((List.range K).map λi=>af ((jn C P k).words i)):=by
   by_cases tk:(P.ws k).state=0∧dE P.q=0
   ·have e:(λi=>af ((jn C P k).words i))=λi=>af (if i=k then sG C (ce P.q)else P.words i):=by
     funext i
     show af (if i=k∧(P.ws k).state=0∧dE P.q=0 then _ else _)=_;by_cases hi:i=k
     ·rw[aA ⟨hi,tk⟩,aA hi]
     ·rw[az (λh=>hi h.1),az hi]
    rw[e];exact ad tk
   ·have e:(λi=>af ((jn C P k).words i))=λi=>af (P.words i):=by
     funext i
     show af (if i=k∧(P.ws k).state=0∧dE P.q=0 then _ else _)=_;rw[az λh=>tk h.2]
    rw[e];exact aa tk
  have al:∀c,blk V.dv c→o' c=5:=λc hc=>by rw[oo c (L c hc)];exact F c hc
  have nx:∀{j},j≠10+k→j≠1→j≠5→¬((False∨(j=10+k∨j=1∨j=5))∨(j=10+k∨j=1)):=λa b c h=>by rcases h with (h|h|h|h)|h|h<;>first|exact h|exact a h|exact b h|exact c h
  refine⟨er,n',o',⟨λ_=>q3,λ_=>D.c (nx ae ae ae),λ_=>D.l (nx ae ae ae),λ_=>D.p (nx ae ae ae),λ_=>⟨w3,al⟩,λ_=>D.s (nx ae ae ae),λ_=>D.f (nx ae ae ae),λ_=>D.e (nx ae ae ae),λ_=>D.wk (nx ae ae ae),λi hi _=>?_,D.po,D.set,D.pl,D.zl,D.sui,D.ow,D.ext,D.few⟩,oo,f2,Dr⟩;by_cases he:i=k
  ·subst he;show IsW Z _ h' _ _ n' (if i=i then _ else _);rw[aA rfl];exact W3
  ·show IsW Z _ h' _ _ n' (if i=k then _ else _);rw[az he];exact D.ws i hi (nx ae ae ae)
end
end
section
def yW (C:C21)(P:cg)(k:Nat)(e:EvD):cg:=
 if e.2.2.1=1 then tN (tN P (k+1) 0 (atZ C.d.s.border e.2.2.2 C.m.h*(C.m.w*C.m.c)) (C.m.w*C.m.c) false) (k+1) (k+2) 0 (P.words k) true
 else tN (tN P (k+1) (k+2) 0 (P.words k) false) (k+1) 1 ((e.2.2.2*C.d.X+(aT C.d e.2.1).x)*C.m.c) ((aT C.d e.2.1).w*C.m.c) true
section
variable {C:C21}{Z:Nat→Prop}{K:Nat}{h0 h:ah}{bw:Nat→Nat}{bp:Nat}{o:Nat→Nat}{n:Pic}{P:cg}
theorem zbv (O:C.Ok)(H:fR C Z K h0 bw bp o n P h){k:Nat}(hk:k<K){e:EvD}(hl:P.acc.length≤999999)(hx:0≤e.2.1∧e.2.1<bX C.d)(hr:I64 e.2.2.2)(hy:e.2.2.1≠1→0≤e.2.2.2∧e.2.2.2<C.d.Y)(hw:1≤P.words k∧P.words k≤100000000000):
  ag prog pf #[ptr bp,af ((k:Int)+1),evV e] h λr h'=>r=.tuple #[]∧PTo C Z K h0 bw bp o h n (yW C P k e) h':=by
 obtain⟨ek,G,W,D⟩:=e;have HP:=H;obtain⟨V,H,row⟩:=H.row;apply EL;unfold uW;have x0:aL (.tuple #[.agg (dA (aT C.d G)).toArray,.bool true]) 0=some (.agg (dA (aT C.d G)).toArray):=rfl;have x1:aL (.tuple #[.agg (dA (aT C.d G)).toArray,.bool true]) 1=some (.bool true):=rfl;refine aI λb1 h1 r1 e1 n1=>?_
 have r1:h1[b1]? =some (.cells #[af ek,af G,af W,af D] 148 (0,0)):=r1;refine bi (λxs g=>∃bt,xs=[ptr bt]∧h.size≤bt∧Ext h1 g∧g[bt]? =some (.cells (dA (aT C.d G)).toArray 116 (0,0))) ?_ ?_
 ·refine aP (Ext h1) (Ext.refl _) ?_;simp only[go_sem,aK];refine aC (ptr C.bl) (λg e=>am (e.row (e1.row row))) ?_;refine aC (af G) (λg e=>am (e.row r1)) ?_;have one:∀v∈dA (aT C.d G),aQ v=true:=kj _;refine⟨?_,?_⟩
  ·refine ag.to (vH (H.ex e1).pl O.d hx.1 hx.2) λg2 L=>⟨L,?_⟩
   simp only[x0,x1,aj];refine aI λbt g3 r3 I n3=>⟨L.trans I,?_⟩
   refine cT (l:=dA (aT C.d G)) r3 rfl one rfl λg4 r4 u4=>?_
   have E:=(L.trans I).upd (bh L.1 n3) u4;have s1:=e1.1;have s2:=L.1;exact⟨E,bt,rfl,ae,E,r4⟩
  ·refine aI λbt g2 r2 L n2=>⟨L,?_⟩
   refine ag.to (vH ((H.ex e1).ex L).pl O.d hx.1 hx.2) λg3 I=>⟨L.trans I,?_⟩
   simp only[x0,x1,aj];refine cT (l:=dA (aT C.d G)) (I.row r2) rfl one rfl λg4 r4 u4=>?_
   have E:=(L.trans I).upd n2 u4;have s1:=e1.1;exact⟨E,bt,rfl,ae,E,r4⟩
 rintro xs ρ g ⟨bt,rfl,al,L,rt⟩;have E:=e1.trans L;have rg:=L.row r1;have F:=E.row row;have c7:aG g ⟨bp,7,none⟩=some V.dv:=am F;have c1:aG g ⟨bp,1,none⟩=some (ptr C.bt):=am F;have m2:aG g ⟨b1,2,none⟩=some (af W):=am rg;have hK:=H.few;have Hg:=H.ex E;have U:=HP.ext E;simp only[gX,go_sem,aK,c7];rw[w64 (n:=(k:Int)+1-1) ae ae,show(k:Int)+1-1=(k:Int)by omega];obtain⟨p,a1,a2,_⟩:=Own.at_map (Hg.w id).1 (k:=.i64) hk;rw[a1,aj,a2,aj,m2,aj,mu,aj];have bf:=dH O.m.fits;have sui:=H.sui.2;obtain⟨s1,s2,s3,s4,s5⟩:=sui;have who:((k:Int)+1)=((k+1:Nat):Int):=ae;have ab:∀{h'} {P'},PTo C Z K h0 bw bp o g n P' h'→PTo C Z K h0 bw bp o h n P' h':=λ{h' P'} T=>PTo.trans (h1:=g) ⟨U,λ_ _=>rfl,E.fr⟩ T
 refine ao (λhm=>?_) (λhm=>?_)
 ·have hm:W=1:=hm;subst hm;refine aP (λk=>k=g) rfl ?_;refine aC (ptr C.bf) (λk e=>by rw[e];exact am F) ?_;refine aC (ptr C.bf) (λk e=>by rw[e];exact am F) ?_;refine ag.at (ut Hg.set.src) ⟨rfl,?_⟩;refine ag.at (fD Hg.set.src) ?_;have wc:1≤C.m.w*C.m.c∧C.m.w*C.m.c≤65536*3:=⟨wS ae ae,qn ae ae ae ae⟩
  simp only[go_sem];rw[w64 (n:=C.m.w*C.m.c) ae ae];refine aP (Ext g) (Ext.refl _) ?_;refine aC (ptr C.bl) (λk e=>am (e.row F)) ?_
  try simp only[go_sem,aK]
  refine aC (af D) (λk e=>am (e.row rg)) ?_
  try simp only[go_sem,aK]
  refine aC (ptr C.bf) (λk e=>am (e.row F)) ?_;refine(Sc Hg.pl).mono λr g3 ⟨er,I⟩=>?_
  subst er;refine⟨I,?_⟩;have pv:pS false 1 2 (.agg #[C.pp,C.pq,af C.d.s.border])=some (af C.d.s.border):=rfl;rw[pv,aj];have H3:=Hg.ex I;refine ag.at (sq H3.set.src) ⟨I,?_⟩;refine ag.at (vI hr) ?_;have ha:=zc8 (p:=C.d.s.border) (j:=D) (n:=C.m.h) ae ae;have an:=mT (a:=atZ C.d.s.border D C.m.h) (A:=65536) (b:=C.m.w*C.m.c) (B:=65536*3) ae ae ae ae;simp only[go_sem];rw[w64 (n:=atZ C.d.s.border D C.m.h*(C.m.w*C.m.c)) ae ae,who];refine(Fp (U.ext I) (who:=k+1) ae ae ae an.1 wc.1 ae).mono λr g4 ⟨er,o4,H4,q4,f4⟩=>?_
  rw[w64 (n:=1+((k+1:Nat):Int)) ae ae,show 1+((k+1:Nat):Int)=(k:Int)+2 by omega];refine(Fp H4 (who:=k+1) ae (by simp[tN];omega) ae ae hw.1 ae).mono λr g5 ⟨er,T⟩=>?_
  have T2:=PTo.trans (h1:=g4) ⟨H4,q4,f4⟩ T;have T3:=PTo.trans (h1:=g3) (P1:=P) ⟨U.ext I,λ_ _=>rfl,I.fr⟩ T2;refine⟨trivial,?_⟩;unfold yW;rw[aA rfl];exact ab T3
 ·have hy:0≤D∧D<C.d.Y:=hy hm;rw[c1,aj];refine ag.at (fD Hg.set.out) ?_;rw[w64 (n:=1+((k:Int)+1)) ae ae,show 1+((k:Int)+1)=(k:Int)+2 by omega,who];refine(Fp U (who:=k+1) ae ae ae ae hw.1 ae).mono λr g4 ⟨er,o4,H4,q4,f4⟩=>?_
  have nf:∀{c},h.size≤c→¬(o c≠0∨de (some C.E) c):=λhc h=>h.elim (λh=>h (H.fresh hc).1) (H.fresh hc).2.2.2
  have au:=f4.row rg (nf n1);have aa:=f4.row rt (nf al);obtain⟨V4,B4,ad⟩:=H4.row;have wf:=kR O.d (i:=G) hx.1 hx.2;unfold fj at wf;refine aP (λk=>k=g4) rfl ?_;refine aC (af D) (λk e=>by rw[e];exact am au) ?_
  try simp only[go_sem,aK]
  refine aC (ptr C.bt) (λk e=>by rw[e];exact am ad) ?_
  try simp only[go_sem,aK]
  refine aC (af (aT C.d G).x) (λk e=>by rw[e];exact am aa) ?_
  try simp only[go_sem,aK]
  refine aC (af (aT C.d G).w) (λk e=>by rw[e];exact am aa) ?_;have bd:=dn.bd O.d;have wX:(aT C.d G).x+(aT C.d G).w≤C.d.X:=by show _≤((C.d.s.x.lines.length:Nat):Int);omega
  have nc:n.c=C.m.c:=s4;have ay:=mT (a:=(aT C.d G).w) (A:=65536) (b:=C.m.c) (B:=3) ae ae ae ae;have ar:1≤(aT C.d G).w*C.m.c:=wS ae ae;have ax:=mT (a:=D) (A:=65536) (b:=C.d.X) (B:=65536) ae ae ae ae;have aw:=mT (a:=D*C.d.X+(aT C.d G).x) (A:=65536*65536+65536) (b:=C.m.c) (B:=3) ae ae ae ae;rw[nc];simp only[go_sem];rw[w64 (n:=(aT C.d G).w*C.m.c) ae ae];refine ag.at (ut B4.set.out) ⟨rfl,?_⟩;rw[show n.w=C.d.X from s2];simp only[go_sem];rw[w64 (n:=D*C.d.X) ae ae,w64 (n:=D*C.d.X+(aT C.d G).x) ae ae,w64 (n:=(D*C.d.X+(aT C.d G).x)*C.m.c) ae ae];refine(Fp H4 (who:=k+1) ae (by simp[tN];omega) ae aw.1 ar ae).mono λr g5 ⟨er,T⟩=>?_
  have T2:=PTo.trans (h1:=g4) ⟨H4,q4,f4⟩ T;refine⟨trivial,?_⟩;unfold yW;rw[az hm];exact ab T2
end
end
section
section
variable {C:C21}{Z:Nat→Prop}{K:Nat}{h0 g g1 g2:ah}{bw:Nat→Nat}{bp:Nat}{o:Nat→Nat}{n:Pic}{V:PV}{P:cg}
theorem aS.setrow (H:aS (λ_=>False) C Z K h0 bw bp o n V P g)(u:Upd bp g g1){st:Int}{rt:Bool}{pk:Int}(r:g1[bp]? =some (.cells (iK C V {P with sent:=st,ret:=rt,picks:=pk}) 106 (0,0))):aS (λ_=>False) C Z K h0 bw bp o n V {P with sent:=st,ret:=rt,picks:=pk} g1:=by
 have D:=H.po;exact(H.chg (A:=λk=>k=4) ae (u.fr.mono λc _ hc=>by rw[show c=bp from hc];exact D)).fp r
theorem aS.putS (H:aS (λk=>k=6) C Z K h0 bw bp o n V P g){s:Value}{l:List (List Int)}(F:tO o 6 g s l)(u:Upd bp g g1)(r:g1[bp]? =some (.cells (iK C {V with sv:=s} P) 106 (0,0))):aS (λ_=>False) C Z K h0 bw bp o n {V with sv:=s} {P with stamps:=l} g1:=by
 have G:=H.po;have f:Fr (λc=>(λk=>k=4) (o c)) g g1:=u.fr.mono λc _ hc=>by rw[show c=bp from hc];exact G
 have L:=(H.chg (A:=λk=>k=4) ae f).less (Y:=λk=>k=4∨k=6) λk D=>D.symm
 have I:=L.fs (X:=λk=>k=4) rfl (F.fr f λc hc h=>by have h:o c=4:=h;omega);exact(I.less (Y:=λk=>False∨k=4) λk D=>.inr D).fp (X:=λ_=>False) (st:=P.sent) (rt:=P.ret) (pk:=P.picks) r
theorem aS.putL (H:aS (λk=>k=7) C Z K h0 bw bp o n V P g){s:Value}{l:List (List Int)}(F:tO o 7 g s l)(u:Upd bp g g1)(r:g1[bp]? =some (.cells (iK C {V with lv:=s} P) 106 (0,0))):aS (λ_=>False) C Z K h0 bw bp o n {V with lv:=s} {P with left:=l} g1:=by
 have G:=H.po;have f:Fr (λc=>(λk=>k=4) (o c)) g g1:=u.fr.mono λc _ hc=>by rw[show c=bp from hc];exact G
 have L:=(H.chg (A:=λk=>k=4) ae f).less (Y:=λk=>k=4∨k=7) λk D=>D.symm
 have I:=L.ff (X:=λk=>k=4) rfl (F.fr f λc hc h=>by have h:o c=4:=h;omega);exact(I.less (Y:=λk=>False∨k=4) λk D=>.inr D).fp (X:=λ_=>False) (st:=P.sent) (rt:=P.ret) (pk:=P.picks) r
theorem aS.putE (H:aS (λk=>k=8) C Z K h0 bw bp o n V P g){s:Value}{l:List Int}(F:Rp.Sl (Rp.int .i64) (λc=>o c=8) g s l)(u:Upd bp g g1)(r:g1[bp]? =some (.cells (iK C {V with ev:=s} P) 106 (0,0))):aS (λ_=>False) C Z K h0 bw bp o n {V with ev:=s} {P with fin:=l} g1:=by
 have G:=H.po;have f:Fr (λc=>(λk=>k=4) (o c)) g g1:=u.fr.mono λc _ hc=>by rw[show c=bp from hc];exact G
 have L:=(H.chg (A:=λk=>k=4) ae f).less (Y:=λk=>k=4∨k=8) λk D=>D.symm
 have I:=L.fe (X:=λk=>k=4) rfl (F.fr f λc _ hc h=>by have h:o c=4:=h;omega);exact(I.less (Y:=λk=>False∨k=4) λk D=>.inr D).fp (X:=λ_=>False) (st:=P.sent) (rt:=P.ret) (pk:=P.picks) r
theorem Ze {o:Nat→Nat}{j k lo hi:Nat}(h:∀c,lo≤c→o c=0)(F:k≠j)(D:k≠0):(λc=>grow o j lo hi c=k)=λc=>o c=k:=by
 funext c
 refine propext ?_;unfold grow;split
 ·rename_i A;rw[h c A.1];omega
 ·exact Iff.rfl
theorem aS.rs_push (H:aS (λ_=>False) C Z K h0 bw bp o n V P g){j:Nat}(hj:j≠0∧j≠2){v:Value}{l:List (List Int)}(HR:tO o j g v l){rows:Nat→List Int}{r:Value}{x:List Int}(o1:kh g1 r x)(c1:fF (λc=>o c=2) g1 V.vc (K+1) rows)(f1:Fr (λc=>o c=2) g g1)(n1:∀b,blk r b→g.size≤b)
  {Q:ah→Prop} {z z':Value} {t t':TypeId} {K':Value→ah→Prop} (I:z.cells.size=1) (hl:l.length≤1000000000) (hQ:∀h',Ext g1 h'→Q h')
  (HK:∀L g2,tO (grow o j g.size g2.size) j g2 L (l++[x])→aS (λk=>k=j) C Z K h0 bw bp (grow o j g.size g2.size) n V {P with rows:=rows} g2→Fr (λc=>o c=2∨o c=j) g g2→Fr (λc=>o c=j) g1 g2→K' L g2):
  df #[z'] t 1 [(0,1,r)] g1 λv2 U=>Q U∧di z t' 1 24 v v2 U K':=by
 obtain⟨W,ow,z1,z2⟩:=HR;have s1:=f1.1;have q1:∀c,W c∨blk v c→¬o c=2:=λc hc=>by have:=hc.elim (z1 c) (z2 c);omega
 have aa:=ow.fr f1 (λc _ hc=>q1 c (.inl hc)) λc hc=>q1 c (.inr hc)
 have dz:∀b,blk v b→¬W b:=by obtain⟨_,_,d,_⟩:=ow;exact d
 have ob:∀c,o c=j→c<g.size:=λc hc=>(H.ow c ae).1
 have o2:Rp.Ow rIs (λb=>W b∨blk r b) g1 v l:=aa.mono (λb _ D=>.inl D) λb D I=>by
  rcases I with I|I
  ·exact dz b D I
  ·have:=ob b (z2 b D);have:=n1 b I;omega
 refine Rp.push_ow1S (P:=λ_=>False) (e:=rIs) (x:=x) rfl o2 ⟨r,rfl,zv o1.ints λ_ b D=>.inr D⟩ I ae ae (λb D=>?_) hQ λL g2 o3 f3 n3=>?_
 ·rcases D with D|D
  ·have:=ob b (z1 b D);omega
  ·exact Own.lt o1 D
 have F:Fr (λc=>o c=j) g1 g2:=f3.mono λc _ hc=>z2 c hc
 have s3:=f3.1;have fA:Fr (λc=>(λk=>k=2∨k=j) (o c)) g g2:=(f1.mono λc _ hc=>.inl hc).after F λc _ hc=>.inr hc
 have H2:=H.take (H.chg (A:=λk=>k=2∨k=j) ae fA) (b:=j);have G:∀c,c<g2.size→(o c=j∨g.size≤c)→grow o j g.size g2.size c=j:=λc hl hc=>by
  unfold grow;split
  ·rfl
  ·exact hc.elim id λh=>ae
 have hR:tO (grow o j g.size g2.size) j g2 L (l++[x]):=by
  refine⟨λb=>W b∨blk r b,o3,λc hc=>?_,λc hc=>G c (o3.lt hc) ?_⟩
  ·rcases hc with hc|hc
   ·exact G c (by have:=ob c (z1 c hc);omega) (.inl (z1 c hc))
   ·exact G c (by have:=Own.lt o1 hc;omega) (.inr (n1 c hc))
  ·rcases n3 c hc with h|h
   ·exact .inl (z2 c h)
   ·exact .inr ae
 have c2:fF (λc=>grow o j g.size g2.size c=2) g2 V.vc (K+1) rows:=by
  have e:(λc=>grow o j g.size g2.size c=2)=λc=>o c=2:=by
   funext c
   refine propext ?_;unfold grow;split
   ·rename_i U;rw[(H.fresh U.1).1];omega
   ·exact Iff.rfl
  rw[e];exact c1.fr F λc _ hc h=>by have h:o c=j:=h;omega
 have H3:=(H2.less (Y:=λk=>k=j∨k=2) λk hk=>by rcases hk with (h|h|h)|h<;>first|exact h.elim|exact .inr h|exact .inl h).fc c2;exact HK L g2 hR H3 fA F
theorem Vu (H:aS (λ_=>False) C Z K h0 bw bp o n V P g){i:Nat}{u:Value}{s:List Int}(hu:lJ g u s)(U:s.length≤4398046511104):
  ag prog fZ #[V.vc,af (i:Int),u] g λr g1=>aS (λ_=>False) C Z K h0 bw bp (grow o 2 g.size g1.size) n V {P with rows:=oh (K+1) P.rows i s} g1∧Fr (λc=>o c=2) g g1:=by
 refine(zc0 (H.c id) i hu U).mono λr g1 ⟨_,M',F,f1,m1⟩=>?_
 have D:Fr (λc=>(λk=>k=2) (o c)) g g1:=f1;have G:=H.take (H.chg (A:=λk=>k=2) ae D) (b:=2);refine⟨(G.less (Y:=λk=>False∨k=2) λk I=>by rcases I with (h|h)|h<;>first|exact h.elim|exact .inr h).fc (F.bmono (λc hc=>?_) λc hc=>(G.ow c (by rw[hc];omega)).1),f1⟩;unfold grow;split
 ·rfl
 ·rename_i W;have lt:c<g1.size:=by
   obtain⟨bc,sl,sv,t,_,L⟩:=F;exact L.lt c hc
  rcases m1 c hc with h|h
  ·exact h
  ·omega
end
end
section
def evP (C:C21)(P:cg)(k:Nat):EvD:=(cL (some C.E) (C.jo (ce P.q)) (P.ws k) P.q).2.2
def Y9 (K:Nat)(P:cg)(k:Nat):cg:=
 {P with rows:=FE (K+1) (oh (K+1) P.rows (k+1:Nat) P.fin) (k+1:Nat),left:=P.left++[oh (K+1) P.rows (k+1:Nat) P.fin (k+1)]}
def rj (C:C21)(K:Nat)(P:cg)(k:Nat):cg:=
 if(evP C P k).1=1 then{jn C P k with rows:=oh (K+1) P.rows (k+1:Nat) (P.stamps.getD (evP C P k).2.1.toNat [])}
 else if(evP C P k).1=2 then yW C (jn C P k) k (evP C P k)
 else if(evP C P k).1=3 then Y9 K (jn C P k) k
 else jn C P k
section
variable {C:C21}{Z:Nat→Prop}{K:Nat}{h0 h:ah}{bw:Nat→Nat}{bp:Nat}{o:Nat→Nat}{n:Pic}{P:cg}
theorem zcM (O:C.Ok)(G:eB h0)(H:fR C Z K h0 bw bp o n P h){k:Nat}(hk:k<K)(ht:(P.ws k).tiles.length≤1000000)(hb:∀c,de (some C.E) c→h0.size≤c)(hl:P.acc.length≤999999)(bg:P.left.length≤1000000000)
  (hx:wg (P.ws k) P.q→0≤ce P.q∧ce P.q<bX C.d)
  (h1:(evP C P k).1=1→0≤(evP C P k).2.1∧(evP C P k).2.1<P.stamps.length)
  (hs:∀s∈P.stamps,s.length≤4398046511104) (hf:P.fin.length≤4398046511104)
  (h2:(evP C P k).1=2→(0≤(evP C P k).2.1∧(evP C P k).2.1<bX C.d)∧I64 (evP C P k).2.2.2∧((evP C P k).2.2.1≠1→0≤(evP C P k).2.2.2∧(evP C P k).2.2.2<C.d.Y)∧1≤(jn C P k).words k∧(jn C P k).words k≤100000000000):
  ag prog qJ #[ptr bp,af ((k:Int)+1)] h λr h'=>∃n',PTo C Z K h0 bw bp o h n' (rj C K P k) h'∧Cv (some C.E) (P.ws k) n n':=by
 have HP:=H;obtain⟨V,H,row⟩:=H.row;apply GC;unfold wD;have hK:=H.few;refine aI λb1 g1 r1 e1 n1=>aI λb3 g3 r3 e3 n3=>?_
 have r1:g1[b1]? =some (.cells #[ptr bp] _ (0,0)):=r1;have r3:g3[b3]? =some (.cells #[af ((k:Int)+1)] _ (0,0)):=r3;have r1:=e3.row r1;have E:=e1.trans e3;have H3:=H.ex E;have ab:=E.row row;have s1:=e1.1;have s3:=e3.1;have f1:=H.fresh (c:=b1) n1;have f3:=H.fresh (c:=b3) ae;have who:((k:Int)+1)=((k+1:Nat):Int):=ae;generalize ar:evP C P k=e at*;have ad:(cL (some C.E) (C.jo (ce P.q)) (P.ws k) P.q).2.2=e:=ar;refine bi (λxs g=>∃A n' o' T,xs=[ptr A]∧g[A]? =some (.cells #[af e.1,af e.2.1,af e.2.2.1,af e.2.2.2] T (0,0))∧aS (λ_=>False) C Z K h0 bw bp o' n' V (jn C P k) g∧(∀c,c<h.size→o' c=o c)∧Fr (λc=>o c≠0∨de (some C.E) c) h g∧g[b1]? =some (.cells #[ptr bp] 35 (0,0))∧g[b3]? =some (.cells #[af ((k:Int)+1)] 3 (0,0))∧o' b1=0∧o' b3=0∧o' A=0∧Cv (some C.E) (P.ws k) n n') ?_ ?_
 ·have nS:∀{c},o c=4∨o c=9→¬((o c=10+k∨o c=1∨o c=5)∨de (some C.E) c):=λ{c} hc h=>h.elim ae (H.ow c ae).2.2.2.2
  have U:∀{c},h.size≤c→¬((o c=10+k∨o c=1∨o c=5)∨de (some C.E) c):=λ{c} hc h=>h.elim (by have:=(H.fresh hc).1;omega) (H.fresh hc).2.2.2
  have M0:Fr (λc=>o c≠0∨de (some C.E) c) h g3:=E.fr;have hM:∀c,((o c=10+k∨o c=1∨o c=5)∨de (some C.E) c)→o c≠0∨de (some C.E) c:=λc hc=>hc.imp ae id
  have tc:evV e=.agg [af e.1,af e.2.1,af e.2.2.1,af e.2.2.2].toArray:=rfl;have one:∀v∈[af e.1,af e.2.1,af e.2.2.1,af e.2.2.2],aQ v=true:=aq rfl (aq rfl (aq rfl (aq rfl aX)));refine aP (Fr (λc=>(o c=10+k∨o c=1∨o c=5)∨de (some C.E) c) g3) (Fr.refl _ _) ?_;refine aC (ptr bp) (λg f=>am (f.row r1 (U n1))) ?_;simp only[go_sem,aK];refine aC V.wv (λg f=>am (f.row ab (nS (.inl H.po)))) ?_;refine aC (af ((k:Int)+1)) (λg f=>am (f.row r3 (U ae))) ?_;simp only[go_sem];rw[w64 (n:=(k:Int)+1-1) ae ae,show(k:Int)+1-1=(k:Int)by omega];obtain⟨p,a1,a2⟩:=H3.wat id hk;rw[a1,aj];refine aC (ptr (bw k)) (λg f=>?_) ?_
  ·obtain⟨p',c1,c2⟩:=((H3.wk id).1.fr f λc _ hc=>nS (.inr ((H3.wk id).2 c hc))).at1 (k:=.i64) hk;rw[a1]at c1;cases c1;rw[c2];simp[hk]
  refine aC (ptr bp) (λg f=>am (f.row r1 (U n1))) ?_
  try simp only[go_sem,aK]
  refine aC (ptr C.bq) (λg f=>am (f.row ab (nS (.inl H.po)))) ?_;have l1:=bB r1;have l3:=bB r3;refine⟨?_,?_⟩
  ·refine(WX O G H3 hk r1 r3 f1.1 f3.1 ht hb hx).mono λr g4 ⟨er,n',o',I,L,f4,Dr⟩=>⟨f4,?_⟩
   rw[ad]at er;subst er;have s4:=f4.1;refine aI λA g5 r5 e5 n5=>⟨f4.ext_r e5,?_⟩
   refine cT (l:=[af e.1,af e.2.1,af e.2.2.1,af e.2.2.2]) r5 rfl one rfl λg6 r6 u6=>?_
   have E6:=e5.upd n5 u6;have f6:=f4.ext_r E6;exact⟨f6,A,n',o',_,rfl,r6,I.ex E6,λc hc=>L c ae,M0.after f6 λc _ hc=>hM c hc,f6.row r1 (U n1),f6.row r3 (U ae),by rw[L _ l1];exact f1.1,by rw[L _ l3];exact f3.1,(I.fresh n5).1,Dr⟩
  ·refine aI λA g4 r4 e4 n4=>⟨e4.fr,?_⟩
   have s4:=e4.1;have l4:=bB r4;refine(WX O G (H3.ex e4) hk (e4.row r1) (e4.row r3) f1.1 f3.1 ht hb hx).mono λr g5 ⟨er,n',o',I,L,f5,Dr⟩=>⟨e4.fr.trans f5,?_⟩
   rw[ad]at er;subst er;have s5:=f5.1;refine cT (l:=[af e.1,af e.2.1,af e.2.2.1,af e.2.2.2]) (f5.row r4 (U ae)) rfl one rfl λg6 r6 u6=>?_
   have f6:=(e4.fr.trans f5).upd_new u6 (x:=A) n4;have aw:=H.fresh (c:=A) ae;have ob:o' A=0:=by rw[L A l4];exact aw.1
   exact⟨f6,A,n',o',_,rfl,r6,I.loc u6 ⟨ob,by have:=H.ext.1;omega,aw.2⟩,λc hc=>L c ae,M0.after f6 λc _ hc=>hM c hc,f6.row r1 (U n1),f6.row r3 (U ae),by rw[L _ ae];exact f1.1,by rw[L _ ae];exact f3.1,ob,Dr⟩
 rintro xs ρ g ⟨A,n',o',T,rfl,re,I,L,fr,q1,q3,z1,z3,ze,Dr⟩;have k0:aG g ⟨A,0,none⟩=some (af e.1):=am re;have k1:aG g ⟨A,1,none⟩=some (af e.2.1):=am re;have D:=I.p id;have bo:=fr.1;have F:∀{o2:Nat→Nat} {P2:cg} {g2:ah},fR C Z K h0 bw bp o2 n' P2 g2→(∀c,c<g.size→o2 c=o' c)→Fr (λc=>o' c≠0∨de (some C.E) c) g g2→PTo C Z K h0 bw bp o h n' P2 g2:=λ{o2 P2 g2} a b c=>⟨o2,a,λc hc=>(b c ae).trans (L c hc),fr.after c λc hc h=>h.imp (λh=>by rwa [L c hc]at h) id⟩
 have wP:rj C K P k=if e.1=1 then{jn C P k with rows:=oh (K+1) P.rows (k+1:Nat) (P.stamps.getD e.2.1.toNat [])}else if e.1=2 then yW C (jn C P k) k e else if e.1=3 then Y9 K (jn C P k) k else jn C P k:=by
  unfold rj;rw[ar]
 rw[wP];simp only[gX,go_sem,aK,k0];refine ao (λc1=>?_) (λc1=>?_)
 ·rw[aA c1];obtain⟨m1,m2⟩:=h1 c1;obtain⟨m,hm⟩:∃m:Nat,e.2.1=(m:Int):=⟨e.2.1.toNat,ae⟩
  have al:m<P.stamps.length:=ae;obtain⟨Zr,ow,_,_⟩:=I.s id;obtain⟨p,c,a1,a2,a3⟩:=ow.sl.at1 rfl (k:=.i64) (i:=m) al;obtain⟨v,hv,hS⟩:=a3;cases hv;have hi:=Qe hS;refine aP (λk=>k=g) rfl ?_;refine aC (ptr bp) (λk e=>by rw[e];exact am q1) ?_
  try simp only[go_sem,aK]
  refine aC V.vc (λk e=>by rw[e];exact am D) ?_;refine aC (af ((k:Int)+1)) (λk e=>by rw[e];exact am q3) ?_;refine aC (ptr bp) (λk e=>by rw[e];exact am q1) ?_
  try simp only[go_sem,aK]
  refine aC V.sv (λk e=>by rw[e];exact am D) ?_;refine aC (af e.2.1) (λk e=>by rw[e];exact k1) ?_;rw[hm,a1,aj];refine aC c (λk e=>by rw[e];exact a2) ?_;rw[who];have bd:=hs _ (cQ al);refine(Vu I (i:=k+1) hi bd).mono λr g2 ⟨H2,f2⟩=>⟨n',F (o2:=grow o' 2 g.size g2.size) ⟨V,?_⟩ (λc hc=>iL hc) (f2.mono λc _ hc=>.inl (by have hc:o' c=2:=hc;omega)),Dr⟩
  have e1:P.stamps.getD (m:Int).toNat []=P.stamps[m]:=by rw[eT,dQ,ja al];rfl
  rw[e1];exact H2
 rw[az c1];refine ao (λc2=>?_) (λc2=>?_)
 ·rw[aA c2];obtain⟨m1,m2,m3,m4⟩:=h2 c2;have bv:ldV g (ptr b1)=some (ptr bp):=am q1;have b0:ldV g (ptr b3)=some (af ((k:Int)+1)):=am q3;have le:aO 4 g (ptr A)=some (evV e):=aU (l:=[af e.1,af e.2.1,af e.2.2.1,af e.2.2.2]) re 4 rfl;have au:aG g ⟨b1,0,none⟩=some (ptr bp):=am q1;have a7:aG g ⟨b3,0,none⟩=some (af ((k:Int)+1)):=am q3;rw[au,aj,a7,aj,le,aj];refine(zbv O (P:=jn C P k) ⟨V,I⟩ hk hl m1 m2 m3 m4).mono λr g2 ⟨_,o2,a,b,c⟩=>⟨n',F a b c,Dr⟩
 rw[az c2];refine ao (λc3=>?_) (λc3=>?_)
 ·rw[aA c3];refine aP (λk=>k=g) rfl ?_;refine aC (ptr bp) (λk e=>by rw[e];exact am q1) ?_
  try simp only[go_sem,aK]
  refine aC V.vc (λk e=>by rw[e];exact am D) ?_;refine aC (af ((k:Int)+1)) (λk e=>by rw[e];exact am q3) ?_;refine aC (ptr bp) (λk e=>by rw[e];exact am q1) ?_
  try simp only[go_sem,aK]
  refine aC V.ev (λk e=>by rw[e];exact am D) ?_;rw[who];refine(Vu I (i:=k+1) (Qe (I.e id)) hf).mono λr g2 ⟨H2,f2⟩=>?_
  have bc:∀{c},o' c=0→¬o' c=2:=λh=>ae
  have ay:=bB q1;have ax:=bB q3;have a8:=f2.row q1 (bc z1);have an:=f2.row q3 (bc z3);have aa:=H2.p id;have hp:=H2.po;rw[who]at an;refine aP (λk'=>k'[b1]? =some (.cells #[ptr bp] 35 (0,0))∧k'[b3]? =some (.cells #[af ((k+1:Nat):Int)] 3 (0,0))∧k'[bp]? =some (.cells (iK C V {jn C P k with rows:=oh (K+1) (jn C P k).rows (k+1:Nat) (jn C P k).fin}) 106 (0,0))) ⟨a8,an,aa⟩ ?_;refine aC (ptr bp) (λk e=>am e.1) ?_;refine aC (ptr bp) (λk e=>am e.1) ?_
  try simp only[go_sem,aK]
  refine aC V.lv (λk e=>am e.2.2) ?_;refine aC (ptr bp) (λk e=>am e.1) ?_
  try simp only[go_sem,aK]
  refine aC V.vc (λk e=>am e.2.2) ?_;refine aC (af ((k+1:Nat):Int)) (λk e=>am e.2.1) ?_;refine(VA (H2.c id) ((k+1:Nat):Int)).mono λr g3 ⟨o3,bk,f3,n3⟩=>?_
  have gz:∀{c},c<g.size→o' c=0→¬grow o' 2 g.size g2.size c=2:=λhl h=>by rw[iL hl];omega
  have gp:¬grow o' 2 g.size g2.size bp=2:=ae;have S3:=And.intro (f3.row a8 (gz ay z1)) (And.intro (f3.row an (gz ax z3)) (f3.row aa gp));refine⟨S3,?_⟩;have a9:Kw (K+1) (oh (K+1) (jn C P k).rows (k+1:Nat) (jn C P k).fin) ((k+1:Nat):Int)=oh (K+1) P.rows (k+1:Nat) P.fin (k+1):=by
   unfold Kw;rw[aA ae,eT];rfl
  rw[a9]at o3;refine H2.rs_push (j:=7) ae (H2.f id) o3 bk f3 n3 rfl bg (λh' e=>⟨e.row S3.1,e.row S3.2.1,e.row S3.2.2⟩) λs' g4 hR H4 fA f4=>?_
  have g7:∀{c},c<g.size→o' c=0→¬grow o' 2 g.size g2.size c=7:=λhl h=>by rw[iL hl];omega
  have W:=f4.row S3.2.2 (show¬grow o' 2 g.size g2.size bp=7 by omega);refine⟨⟨f4.row S3.1 (g7 ay z1),f4.row S3.2.1 (g7 ax z3),W⟩,?_⟩;have os:aQ s'=true:=by
   obtain⟨_,o5,_⟩:=hR;exact o5.one
  refine b9 W (show 11<_ from by simp[iK]) os λg5 r5 u5=>?_
  have H5:=H4.putL hR u5 r5;refine⟨n',F (o2:=grow (grow o' 2 g.size g2.size) 7 g2.size g4.size) ⟨_,H5⟩ (λc hc=>?_) ?_,Dr⟩
  ·have:=f2.1;rw[iL ae,iL hc]
  ·have s2:=f2.1;have F1:Fr (λc=>o' c≠0∨de (some C.E) c) g g2:=f2.mono λc _ hc=>.inl (by have hc:o' c=2:=hc;omega)
   have F2:=F1.after fA λc hc h=>.inl (by rw[iL hc]at h;omega)
   exact F2.after u5.fr λc hc h=>.inl (by
    have h:c=bp:=h;rw[h]at hc ⊢;rw[iL hc]at hp;omega)
 rw[az c3];exact⟨n',F ⟨V,I⟩ (λ_ _=>rfl) (Fr.refl _ _),Dr⟩
end
end
section
def zbY (K:Nat)(P:cg):cg:={P with q:=kD P.q P.sent,rows:=FE (K+1) P.rows 0,stamps:=P.stamps++[P.rows 0],sent:=P.sent+1}
def ZH (K:Nat)(P:cg):cg:={P with q:={P.q with closed:=true},rows:=FE (K+1) P.rows 0,fin:=P.rows 0}
def yY (K:Nat)(rows:Nat→List Int)(l:List (List Int)):Nat→List Int:=l.foldl (λr s=>oh (K+1) r 0 s) rows
def zb4 (C:C21)(K:Nat)(P:cg):cg:={tN {P with rows:=yY K P.rows P.left} 0 1 0 (C.d.X*C.d.Y*C.m.c) false with ret:=true}
def JH (C:C21)(K:Nat)(P:cg):cg:=if P.sent<bX C.d then zbY K P else if P.q.closed=false then ZH K P else zb4 C K P
def kT (C:C21)(K:Nat)(P:cg)(i:Int):cg:=
 if gI C K P i=false then P else if i=0 then JH C K {P with picks:=P.picks+1}else rj C K {P with picks:=P.picks+1} (i-1).toNat
section
variable {C:C21}{Z:Nat→Prop}{K:Nat}{h0 h:ah}{bw:Nat→Nat}{bp:Nat}{o:Nat→Nat}{n:Pic}{P:cg}
theorem zcR (O:C.Ok)(H:fR C Z K h0 bw bp o n P h)(hl:P.acc.length≤999999)(bg:P.stamps.length≤1000000)(bo:0≤P.sent)(ay:∀s∈P.left,s.length≤4398046511104)(bk:P.left.length≤1000000)(bv:bX C.d≤1000000):
  ag prog qM #[ptr bp] h λr h'=>PTo C Z K h0 bw bp o h n (JH C K P) h':=by
 have HP:=H;obtain⟨V,H,row⟩:=H.row;apply GG;unfold wH;have hK:=H.few;have c8:aG h ⟨bp,8,none⟩=some (af P.sent):=am row;have c2:aG h ⟨bp,2,none⟩=some (ptr C.bl):=am row;have c3:aG h ⟨bp,3,none⟩=some (ptr C.bq):=am row;have bd:aG h ⟨bp,11,none⟩=some V.lv:=am row;have c4:aG h ⟨bp,4,none⟩=some V.vc:=am row;have c9:aG h ⟨bp,9,none⟩=some V.sv:=am row;have hp:=H.po;have ab:∀rows,Kw (K+1) rows (0:Int)=rows 0:=λrows=>by
  unfold Kw;rw[aA ae];rfl
 refine aP (λk=>k=h) rfl ?_;simp only[go_sem,aK];refine aC (af P.sent) (λk e=>by rw[e];exact c8) ?_
 try simp only[go_sem,aK]
 refine aC (ptr C.bl) (λk e=>by rw[e];exact c2) ?_;refine ag.at (C8 H.pl O.d) ⟨rfl,?_⟩;unfold JH;rw[cq,aj];refine ao (λg1=>?_) (λg1=>?_)
 ·rw[aA g1];refine aP (λk=>k=h) rfl ?_;refine aC (ptr C.bq) (λk e=>by rw[e];exact c3) ?_
  try simp only[go_sem,aK]
  refine aC (af P.sent) (λk e=>by rw[e];exact c8) ?_;refine(zbs (H.q id)).mono λr g2 ⟨_,q2,f2⟩=>?_
  have ad:Fr (λc=>(λk=>k=1) (o c)) h g2:=f2;have F:=H.take (H.chg (A:=λk=>k=1) ae ad) (b:=1);have F:=(F.less (Y:=λk=>False∨k=1) λk hk=>by rcases hk with (h|h)|h<;>first|exact h.elim|exact .inr h).fq (q:=kD P.q P.sent) (by
   have e:(λc=>grow o 1 h.size g2.size c=1)=qD (λc=>o c=1) h g2:=by
    funext c
    refine propext ?_;unfold grow;split
    ·rename_i h3;exact⟨λ_=>.inr h3,λ_=>rfl⟩
    ·rename_i h3;exact⟨.inl,λh=>h.elim id λh=>absurd h h3⟩
   rw[e];exact q2)
  have D:=F.p id;have b0:=F.po;have s2:=f2.1;refine aP (λk=>k[bp]? =some (.cells (iK C V {P with q:=kD P.q P.sent}) 106 (0,0))) D ?_;refine aC V.sv (λk e=>am e) ?_
  try simp only[go_sem,aK]
  refine aC V.vc (λk e=>am e) ?_;refine(VA (F.c id) 0).mono λr U ⟨W,an,f3,n3⟩=>?_
  rw[ab]at W;have S3:=f3.row D (show¬grow o 1 h.size g2.size bp=2 by omega);refine⟨S3,?_⟩;refine F.rs_push (j:=6) ae (F.s id) W an f3 n3 rfl (by show P.stamps.length≤_;omega) (λh' e=>e.row S3) λs' g4 hR H4 fA f4=>?_
  have au:=f4.row S3 (show¬grow o 1 h.size g2.size bp=6 by omega);have os:aQ s'=true:=by
   obtain⟨_,o5,_⟩:=hR;exact o5.one
  try simp only[go_sem,aK]
  refine b9 au (show 9<_ from by simp[iK]) os λg5 r5 u5=>?_
  have H5:=H4.putS hR u5 r5;have be:aG g5 ⟨bp,8,none⟩=some (af P.sent):=am (H5.p id);simp only[go_sem,aK,be];rw[w64 (n:=P.sent+1) ae ae];refine b9 (H5.p id) (show 8<_ from by simp[iK]) rfl λg6 r6 u6=>?_
  have H6:=H5.setrow u6 (st:=P.sent+1) (rt:=P.ret) (pk:=P.picks) r6;refine⟨grow (grow o 1 h.size g2.size) 6 g2.size g4.size,⟨_,H6⟩,λc hc=>?_,?_⟩
  ·rw[iL ae,iL hc]
  ·have F1:Fr (λc=>o c≠0∨de (some C.E) c) h g2:=f2.mono λc _ hc=>.inl (by have hc:o c=1:=hc;omega)
   have F2:=F1.after fA λc hc h=>.inl (by rw[iL hc]at h;omega)
   have F3:=F2.after u5.fr λc hc h=>.inl (by have h:c=bp:=h;rw[h];omega)
   exact F3.after u6.fr λc hc h=>.inl (by have h:c=bp:=h;rw[h];omega)
 ·rw [az g1];rw[c3,aj];refine ag.at (PR (H.q id)) ?_;cases hc:P.q.closed with
  | false=>
   rw[aA rfl];simp only[go_sem,aK,c3];refine(Ua (H.q id)).mono λr g2 ⟨_,q2,f2⟩=>?_
   have ad:Fr (λc=>(λk=>k=1) (o c)) h g2:=f2;have F:=(H.chg (A:=λk=>k=1) ae ad).fq q2;have D:=F.p id;have al:aG g2 ⟨bp,4,none⟩=some V.vc:=am D;simp only[go_sem,aK,al];refine(VA (F.c id) 0).mono λr U ⟨W,an,f3,n3⟩=>?_
   rw[ab]at W;have ax:Fr (λc=>(λk=>k=2) (o c)) g2 U:=f3;have H3:=F.take (F.chg (A:=λk=>k=2) ae ax) (b:=8);have H3:=(H3.less (Y:=λk=>k=8∨k=2) λk hk=>by rcases hk with (h|h)|h<;>first|exact h.elim|exact .inr h|exact .inl h).fc (r:=FE (K+1) P.rows 0) (by rw[Ze (λc hc=>(F.fresh hc).1) ae ae];exact an);have G:=f3.row D (show¬o bp=2 by omega);have hs:Rp.Sl (Rp.int .i64) (λc=>grow o 8 g2.size U.size c=8) U r (P.rows 0):=zv W.ints λ_ c hc=>by
    unfold grow;rw[aA ⟨n3 c hc,Own.lt W hc⟩]
   refine b9 G (show 10<_ from by simp[iK]) (CG W) λg4 r4 u4=>?_
   have H4:=H3.putE hs u4 r4;have s2:=f2.1;refine⟨grow o 8 g2.size U.size,⟨_,H4⟩,λc hc=>iL ae,?_⟩;have F1:Fr (λc=>o c≠0∨de (some C.E) c) h g2:=f2.mono λc _ hc=>.inl (by have hc:o c=1:=hc;omega)
   have F2:=F1.after f3 λc hc h=>.inl ae
   exact F2.after u4.fr λc hc h=>.inl (by have h:c=bp:=h;rw[h];omega)
  | true=>
   rw[az (by simp)];simp only[go_sem,aK,bd];have a7:=(H.f id).len;rw[a7,aj];refine bH (α:=Unit) P.left.length 0 (λi _=>[af (i:Int)]) (λi _ g=>∃o',aS (λ_=>False) C Z K h0 bw bp o' n V {P with rows:=yY K P.rows (P.left.take i)} g∧(∀c,c<h.size→o' c=o c)∧Fr (λc=>o c≠0∨de (some C.E) c) h g) () rfl (bZ _) ⟨o,H,λ_ _=>rfl,Fr.refl _ _⟩ λi _ g again ρ _ hi ⟨o',L,oo,f⟩ a9=>?_
   have aa:=L.p id;have al:aG g ⟨bp,4,none⟩=some V.vc:=am aa;have bc:aG g ⟨bp,1,none⟩=some (ptr C.bt):=am aa;have sg:=f.1;simp only[gX];rw[cq,aj];refine ao (λg2=>?_) (λg2=>?_)
   ·have I:i<P.left.length:=ae;have aw:(i:Int)+1=((i+1:Nat):Int):=ae;obtain⟨Zr,ow,_,_⟩:=L.f id;obtain⟨p,c,a1,a2,a3⟩:=ow.sl.at1 rfl (k:=.i64) (i:=i) I;obtain⟨v,hv,hS⟩:=a3;cases hv;have a8:=ay _ (cQ I);rw[a1,aj,a2,aj];simp only[go_sem,aK,al];refine(Vu L (i:=0) (Qe hS) a8).mono λr U ⟨H3,f3⟩=>?_
    rw[w64 (n:=(i:Int)+1) ae ae,aw];refine a9 () U I ⟨grow o' 2 g.size U.size,?_,λc hc=>by rw[iL ae];exact oo c hc,f.after f3 λc hc h=>.inl (by rw[←oo c hc];have h:o' c=2:=h;omega)⟩;have e:yY K P.rows (P.left.take (i+1))=oh (K+1) (yY K P.rows (P.left.take i)) 0 P.left[i]:=by
     unfold yY;rw[ju I,CJ];rfl
    rw[e];exact H3
   ·have:i=P.left.length:=ae;subst this;rw[GS]at L;simp only[go_sem,aK,bc];obtain⟨s1,s2,s3,s4,s5⟩:=L.sui.2;refine ag.at (Fo L.set.out L.sui.1.fits) ?_;have bf:=dH L.sui.1.fits;have ar:1≤n.w*n.h*n.c:=wS (wS ae ae) ae;have en:n.w*n.h*n.c=C.d.X*C.d.Y*C.m.c:=by rw[s2,s3,s4];rfl
    rw[en]at ar bf ⊢;refine(Fp (P:={P with rows:=yY K P.rows P.left}) ⟨V,L⟩ (who:=0) ae (by show P.acc.length≤_;omega) ae ae ar ae).mono λr U ⟨_,W,H3,q3,f3⟩=>?_
    obtain⟨V3,B3,G⟩:=H3.row
    try simp only[go_sem,aK]
    refine b9 G (show 12<_ from by simp[iK]) rfl λg4 r4 u4=>?_
    have b1:=B3.po;have H4:=B3.setrow u4 (st:=P.sent) (rt:=true) (pk:=P.picks) r4;refine⟨W,⟨_,H4⟩,λc hc=>(q3 c ae).trans (oo c hc),?_⟩;have F2:=f.after f3 λc hc h=>by rwa [oo c hc]at h
    exact F2.after u4.fr λc hc h=>.inl (by have h:c=bp:=h;rw[←oo c hc,←q3 c ae,h];omega)
end
end
end Go.Proofs.YtjljhnandbbldaaGreatDoor
namespace Go.Proofs.YtjljhnandbbldaaGreatDoor
open Go Go.Crisp
attribute [local irreducible] ag df aW stK aF vK qK bJ gK eK aZ mkK di Fi GM CF bsK clK ud oA V2
structure Sj (C:C21)(sent:Int)(w:WD)(words:Int):Prop where
 tl:∀x∈w.tiles,0≤x∧x<sent
 st:(w.state=1∧uq (some C.E) w.job∧w.tiles≠[])∨((w.state=0∨w.state=2)∧w.job=none)
 jb:∀t y e,w.job=some (t,y,e)→t=aT C.d (w.tiles.getLast?.getD 0)∧words=sG C (w.tiles.getLast?.getD 0)
structure lZ (C:C21)(K:Nat)(P:cg):Prop where
 sent:0≤P.sent∧P.sent≤bX C.d
 st:(P.stamps.length:Int)=P.sent
 q:∀x∈P.q.l,0≤x∧x<P.sent
 w:∀i,i<K→Sj C P.sent (P.ws i) (P.words i)
 tn:∀i,i<K→((P.ws i).tiles.length:Int)≤P.picks
 rows:∀i,i≤K→(P.rows i).length=K+1
 ss:∀s∈P.stamps,s.length=K+1
 fn:P.fin.length≤K+1
 ls:∀s∈P.left,s.length=K+1
 ln:(P.left.length:Int)≤P.picks
 ac:(P.acc.length:Int)≤2+2*P.picks
 pk:0≤P.picks
 cl:P.q.closed=true→P.sent=bX C.d
theorem Lk {n:Nat}{rows:Nat→List Int}(h:∀i,i<n→(rows i).length=n)(i:Int):∀j,j<n→(FE n rows i j).length=n:=by
 intro j A;unfold FE;split
 ·rename_i hi;by_cases e:j=i.toNat
  ·simp only[e,cJ,GU];exact h _ ae
  ·simp only[e,cF];exact h j A
 ·exact h j A
theorem MC {n:Nat}{rows:Nat→List Int}(h:∀i,i<n→(rows i).length=n)(i:Int)(s:List Int):∀j,j<n→(oh n rows i s j).length=n:=by
 intro j D;unfold oh;split
 ·rename_i A;unfold Ky at A;simp only[dh,dS]at A;by_cases e:j=i.toNat
  ·simp only[e,cJ,zu];rw[h _ ae,A.2.1,Nat.max_self]
  ·simp only[e,cF];exact h j D
 ·exact h j D
theorem Yz {C:C21}(O:C.Ok){x:Int}(h1:0≤x)(A:x<bX C.d):1≤sG C x∧sG C x≤100000000000:=by
 have I:=dH O.m.fits;have G:=kR O.d h1 A;unfold fj at G;have H:1*1≤(aT C.d x).w*C.m.c:=qn ae ae ae ae;have F:1≤(kE (cD C.d.s.y.lines):Int)∧(kE (cD C.d.s.y.lines):Int)≤65536:=by unfold kE;omega
 have D:1≤(gP ((aT C.d x).w*C.m.c):Int)∧(gP ((aT C.d x).w*C.m.c):Int)≤262144:=by unfold gP;omega
 have h1:1*1≤(kE (cD C.d.s.y.lines):Int)*(gP ((aT C.d x).w*C.m.c):Int):=qn F.1 D.1 ae ae;have A:=qn F.2 D.2 ae (show(0:Int)≤65536 by omega);unfold sG;omega
theorem Ty {l:List Int}(h:l≠[]):l.getLast?.getD 0∈l:=by
 rw[List.getLast?_eq_some_getLast h];exact List.getLast_mem h
theorem Sj.step {C:C21}{sent:Int}{w:WD}{words:Int}{q:QD}(H:Sj C sent w words)(hq:∀x∈q.l,0≤x∧x<sent):
  Sj C sent (cL (some C.E) (C.jo (ce q)) w q).1 (if w.state=0∧dE q=0 then sG C (ce q)else words):=by
 have W:∀(jo:Option (cZ×Int×Int)) (tl:List Int),(jo≠none→tl≠[])→(stJ (cH (some C.E) jo)=1∧uq (some C.E) (cH (some C.E) jo)∧tl≠[])∨((stJ (cH (some C.E) jo)=0∨stJ (cH (some C.E) jo)=2)∧cH (some C.E) jo=none):=λjo tl h=>by
  rcases Iq (some C.E) jo with⟨h1,L,G⟩|h1
  ·refine .inl ⟨?_,L,h ?_⟩
   ·rcases Bp (E:=some C.E) (jo:=jo)with h|h
    ·exact h.1
    ·exact absurd h.2 h1
   ·rw[←G];exact h1
  ·refine .inr ⟨?_,h1⟩;rw[h1];exact .inl rfl
 have I:∀(jo:Option (cZ×Int×Int)) t y e,cH (some C.E) jo=some (t,y,e)→jo=some (t,y,e):=λjo t y e h=>by
  rcases Iq (some C.E) jo with⟨_,_,G⟩|h1
  ·rw[←G];exact h
  ·rw[h1]at h;cases h
 obtain⟨st,tl,jo,wd⟩:=w;obtain⟨h1,L,G⟩:=H;unfold cL;rcases L with⟨A,F,s3⟩|⟨A|A,F⟩
 ·have A:st=1:=A;subst A;cases jo with
  |none=>exact(show False from F).elim
  |some x=>
   obtain⟨t,y,e⟩:=x;rw[aA rfl,az (show¬((1:Int)=0∧_)from λh=>ae)];refine⟨h1,W _ _ λ_=>s3,λt' y' e' h=>?_⟩;have h:=I (some (t,gi (C.E.d t) y e,iB (C.E.d t) y e)) _ _ _ h;have h:some (t,gi (C.E.d t) y e,iB (C.E.d t) y e)=some (t',y',e'):=h;cases h;exact G t y e rfl
 ·have A:st=0:=A;subst A;have F:jo=none:=F;subst F;rw[az (show¬(0:Int)=1 by omega),az (show¬(0:Int)=2 by omega)];by_cases D:dE q=0
  ·rw[aA D,aA ⟨rfl,D⟩];have hm:ce q∈q.l:=by
    unfold dE at D;unfold ce;cases hl:q.l with
    |nil=>rw[hl,aA rfl]at D;split at D<;>omega
    |cons a l=>simp
   have hx:=hq _ hm;refine⟨λx U=>?_,W _ _ λ_=>by simp[Ds],λt y e h=>?_⟩
   ·rcases gS.1 U with h|h
    ·exact h1 x h
    ·rw[ib.1 h];exact hx
   ·have h:=I (C.jo (ce q)) _ _ _ h;have h:some (Px C.d (ce q))=some (t,y,e):=h;unfold Px at h;cases h;show _=aT C.d ((tl++[ce q]).getLast?.getD 0)∧_=sG C ((tl++[ce q]).getLast?.getD 0);simp
  ·rw[az D,az (show¬((0:Int)=0∧dE q=0)from λh=>D h.2)];split
   ·exact⟨h1,.inr ⟨.inr rfl,rfl⟩,λt y e h=>by cases h⟩
   ·exact⟨h1,.inr ⟨.inl rfl,rfl⟩,λt y e h=>by cases h⟩
 ·have A:st=2:=A;subst A;rw[az (show¬(2:Int)=1 by omega),aA rfl,az (show¬((2:Int)=0∧_)from λh=>ae)];exact⟨h1,.inr ⟨.inr rfl,F⟩,G⟩
end Go.Proofs.YtjljhnandbbldaaGreatDoor
namespace Go.Proofs.YtjljhnandbbldaaGreatDoor
open Go Go.Crisp
attribute [local irreducible] ag df aW stK aF vK qK bJ gK eK aZ mkK di Fi GM CF bsK clK ud oA V2
open _root_.Go.Proofs.Tryz
section
structure DV where
 X:Value
 Y:Value
 tv:Value
 mv:Value
 ql:Value
 cv:Value
 wv:Value
 av:Value
 st:Value
 en:Value
 lf:Value
def dpC (C:C21)(P:cg)(V:DV):List Value:=[V.X,V.Y,.int .i64 C.d.s.x.n,.int .i64 C.d.s.y.n,.int .i64 C.d.s.border,.int .i64 C.m.c,V.tv,V.mv,.int .i64 P.q.room,V.ql,.bool P.q.closed,V.cv,V.wv,V.av,.int .i64 P.sent,.bool P.q.closed,.bool P.ret,V.st,V.en,V.lf]
structure DAt (Z:Nat→Prop)(C:C21)(K N:Nat)(P:cg)(V:DV)(h:ah):Prop where
 x:Rp.Sl mh Z h V.X C.d.s.x.lines
 y:Rp.Sl mh Z h V.Y C.d.s.y.lines
 t:Rp.Sl Gt Z h V.tv (eN C.d N)
 m:Rp.Sl zch Z h V.mv (EU C N)
 q:Rp.Sl (Rp.int .i64) Z h V.ql P.q.l∧Rp.SlCap V.ql
 c:Rp.Sl rIs Z h V.cv ((List.range (K+1)).map P.rows)
 w:Rp.Sl rVD Z h V.wv ((List.range K).map λi=>vOf C.E (P.ws i))
 a:Rp.Sl xn Z h V.av P.acc
 s:Rp.Sl rIs Z h V.st P.stamps
 e:Rp.Sl (Rp.int .i64) Z h V.en P.fin
 f:Rp.Sl rIs Z h V.lf P.left
section
variable {Z:Nat→Prop}{C:C21}{K N:Nat}{P:cg}{V:DV}{h:ah}
theorem DAt.fr {M:Nat→Prop}{h':ah}(H:DAt Z C K N P V h)(f:Fr M h h')(q:∀b,b<h.size→Z b→¬M b):DAt Z C K N P V h':=
 ⟨H.x.fr f q,H.y.fr f q,H.t.fr f q,H.m.fr f q,⟨H.q.1.fr f q,H.q.2⟩,H.c.fr f q,H.w.fr f q,H.a.fr f q,H.s.fr f q,H.e.fr f q,H.f.fr f q⟩
theorem DAt.ext {h':ah}(H:DAt Z C K N P V h)(k:Ext h h'):DAt Z C K N P V h':=H.fr (M:=λ_=>False) k.fr λ_ _ _=>id
theorem DAt.mono {Z':Nat→Prop}(H:DAt Z C K N P V h)(q:∀b,b<h.size→Z b→Z' b):DAt Z' C K N P V h:=
 ⟨H.x.mono q,H.y.mono q,H.t.mono q,H.m.mono q,⟨H.q.1.mono q,H.q.2⟩,H.c.mono q,H.w.mono q,H.a.mono q,H.s.mono q,H.e.mono q,H.f.mono q⟩
theorem DAt.ones (H:DAt Z C K N P V h):∀v∈dpC C P V,aQ v=true:=
 aq H.x.one (aq H.y.one (aq rfl (aq rfl (aq rfl (aq rfl (aq H.t.one (aq H.m.one (aq rfl (aq H.q.1.one (aq rfl (aq H.c.one (aq H.w.one (aq H.a.one (aq rfl (aq rfl (aq rfl (aq H.s.one (aq H.e.one (aq H.f.one aX)))))))))))))))))))
end
def DTo (Z:Nat→Prop)(C:C21)(K N:Nat)(h:ah)(P:cg)(r:Value)(h':ah):Prop:=∃Z' V,r=.agg (dpC C P V).toArray∧DAt Z' C K N P V h'∧(∀c,Z' c→(Z c∨h.size≤c)∧c<h'.size)∧Ext h h'
theorem zaI {h:ah}{L F:Nat}{l:List Value}{T:TypeId}{D:Array Value}{n:Nat}{R:Value→ah→Prop}(r1:h[L]? =some (.cells l.toArray T (0,0)))(r3:h[F]? =some (.cells D T (0,0)))(G:l.length=n)(ho:D.size=n)(h1:∀v∈l,aQ v=true)
  (W:∀h',Upd F h h'→R (.agg l.toArray) h'):vK (aO n h (ptr L)) λH=>stK n (ptr F) H h λaa A=>vK (aO n A (ptr F)) λI=>R I A:=by
 rw[aU r1 n G,aj];refine cT r3 ae h1 G λh' U u=>?_
 rw[aU U n G,aj];exact W h' u
theorem zci {Z:Nat→Prop}{h:ah}{v:Value}{l:List (List Int)}{k:IntKind}{i:Nat}(H:Rp.Sl rIs Z h v l)(hi:i<l.length):∃p s,bu 1 v (.int k (i:Int))=some p∧ldV h p=some s∧Rp.Sl (Rp.int .i64) Z h s l[i]:=by
 obtain⟨b,o,cs,h1,F,A,⟨s,rfl,D⟩,_⟩:=H.atp (show 0<rIs.w from Nat.one_pos) (k:=k) hi;refine⟨_,s,h1,?_,D⟩;rw[qS];exact A 0 (by simp)
section
variable {Z:Nat→Prop}{C:C21}{K N:Nat}{P:cg}{V:DV}{h:ah}
theorem PN (H:DAt Z C K N P V h)(zl:∀c,Z c→c<h.size){who:Nat}(hw:who≤K){buf lo cnt:Int}{wr:Bool}(hl:P.acc.length≤1000000)(h1:0≤lo)(h2:0≤cnt)(h3:lo+cnt≤1000000000000):
  ag prog uA #[.agg (dpC C P V).toArray,af (who:Int),af buf,af lo,af cnt,.bool wr] h (DTo Z C K N h (tN P who buf lo cnt wr)):=by
 apply Oc;unfold Dz;rw[bO];refine aI λL g1 r1 e1 n1=>aI λb3 g3 r3 e3 n3=>?_
 have k1:=bB r1;have k3:=bB r3;have s1:=e1.1;have s3:=e3.1;have r1:=e3.row r1;have H3:=H.ext (e1.trans e3);have ar:aG g3 ⟨L,11,none⟩=some V.cv:=am r1;simp only[go_sem,aK,ar];have ab:who<((List.range (K+1)).map P.rows).length:=by simp;omega
 obtain⟨p,s,i1,i2,i3⟩:=zci (k:=.i64) H3.c ab;have e0:((List.range (K+1)).map P.rows)[who]=P.rows who:=by simp
 rw[e0]at i3;simp only[go_sem,i1,i2];rw[w64 (n:=lo+cnt) ae ae,TL i3.one,bG,aj];have oa:∀v∈[af (who:Int),s,af buf,af lo,af (lo+cnt),.bool wr],aQ v=true:=aq rfl (aq i3.one (aq rfl (aq rfl (aq rfl (aq rfl aX)))));refine dk (cs:=[af (who:Int),s,af buf,af lo,af (lo+cnt),.bool wr]) rfl oa rfl λb5 F r5 U n5=>?_
 have s5:=U.1;have k5:=bB r5;have E5:Ext h F:=e1.trans (e3.trans U);have H5:=H3.ext U;have aa:=U.row r1;have an:=U.row r3;refine bi (λxs g=>xs=[]∧∃Z' A,DAt Z' C K N (tN P who buf lo cnt wr) {V with av:=A} g∧g[L]? =some (.cells (dpC C (tN P who buf lo cnt wr) {V with av:=A}).toArray 48 (0,0))∧g[b3]? =some (.cells aJ 48 (0,0))∧(∀c,Z' c→(Z c∨h.size≤c)∧c<g.size∧c≠b3)∧Ext h g) ?_ ?_
 ·refine aP (Ext F) (Ext.refl _) ?_;have M0:Cp xn Z F none none F:=Cp.start F λc hc=>bT (zl c hc) E5.1
  have q1:∀D,Ext F D→aG D ⟨L,13,none⟩=some V.av:=λD e=>am (e.row aa)
  have q2:∀D,Ext F D→aO 6 D (ptr b5)=some (.agg [af (who:Int),s,af buf,af lo,af (lo+cnt),.bool wr].toArray):=λD e=>aU (e.row r5) 6 rfl
  refine aC V.av q1 ?_;refine aC _ q2 ?_;have hx:xn.R Z F [af (who:Int),s,af buf,af lo,af (lo+cnt),.bool wr] ⟨who,P.rows who,buf,lo,lo+cnt,wr⟩:=⟨s,rfl,i3.ext U⟩
  have fin:∀A D,Rp.Ow xn Z D A (([]:List Acc)++P.acc++[⟨who,P.rows who,buf,lo,lo+cnt,wr⟩])→Ext F D→(∀b,blk A b→F.size≤b)→stK 1 (.pointer (some ⟨L,13,none⟩)) A D λ_ G=>([]:List Value)=[]∧∃Z' A,DAt Z' C K N (tN P who buf lo cnt wr) {V with av:=A} G∧G[L]? =some (.cells (dpC C (tN P who buf lo cnt wr) {V with av:=A}).toArray 48 (0,0))∧G[b3]? =some (.cells aJ 48 (0,0))∧(∀c,Z' c→(Z c∨h.size≤c)∧c<G.size∧c≠b3)∧Ext h G:=by
   intro A D o e n;have al:=e.row aa;refine b9 al (by show 13<(dpC C P V).toArray.size;simp[dpC]) o.one λg7 r7 W=>⟨rfl,λc=>(Z c∧c<h.size)∨blk A c,A,?_,r7,W.row ae (e.row an),λc hc=>?_,(E5.trans e).upd n1 W⟩
   ·have hz:∀c,Z c→¬c=L:=λc hc h=>by have:=zl c hc;omega
    have H7:=((H5.ext e).mono (Z':=λc=>(Z c∧c<h.size)∨blk A c) λc _ hc=>.inl ⟨hc,zl c hc⟩)
    have o7:Rp.Sl xn (λc=>(Z c∧c<h.size)∨blk A c) D A (P.acc++[⟨who,P.rows who,buf,lo,lo+cnt,wr⟩]):=o.sl.mono λc _ hc=>hc.imp (λhc=>⟨hc,zl c hc⟩) id
    have q:∀c,c<D.size→((Z c∧c<h.size)∨blk A c)→¬c=L:=λc _ hc h=>by
     rcases hc with hc|hc
     ·exact hz c hc.1 h
     ·have:=n c hc;omega
    have I:=H7.fr W.fr q;exact⟨I.x,I.y,I.t,I.m,I.q,I.c,I.w,o7.fr W.fr q,I.s,I.e,I.f⟩
   ·have s7:=W.1;have se:=e.1;rcases hc with hc|hc
    ·exact⟨.inl hc.1,ae,ae⟩
    ·have:=n c hc;have:=o.lt hc;exact⟨.inr ae,ae,ae⟩
  repeat' first
   |exact fin _ _ ‹_› ‹_› ‹_›
   |exact Cp.ext ‹Cp _ _ _ _ _ _›
   |exact ‹Ext F _›
   |refine And.intro ?_ ?_
   |refine Cp.row0 ‹Cp _ _ _ none _ _› λv D M=>?_
   |refine Cp.row1 (e:=xn) ‹Cp xn _ _ _ none _› hx rfl λv D M=>?_
   |refine Cp.app (e:=xn) (l:=[]) ‹Cp xn _ _ (some (_,[])) _ _› H5.a rfl (by simp;omega) (by simp;omega) λv D M=>?_
   |refine Cp.app1 (e:=xn) (l:=[]++P.acc) ‹Cp xn _ _ (some (_,[]++P.acc)) (some _) _› rfl (by simp;omega) (by simp;omega) λv D o e n=>?_
 ·rintro xs ρ g6 ⟨rfl,Z',A,H6,r6,ad,z6,E6⟩;refine zaI r6 ad rfl rfl H6.ones λg8 u8=>⟨Z',_,rfl,H6.fr u8.fr λc _ hc=>(z6 c hc).2.2,λc hc=>⟨(z6 c hc).1,by rw[u8.1];exact(z6 c hc).2.1⟩,E6.upd ae u8⟩
end
end
section
section
variable {C:C21}{K:Nat}{P:cg}
theorem Sj.more {s A:Int}{w:WD}{k:Int}(H:Sj C s w k)(h:s≤A):Sj C A w k:=⟨λx D=>by have:=H.tl x D;omega,H.st,H.jb⟩
theorem zaE (H:lZ C K P)(h:P.sent<bX C.d):lZ C K (zbY K {P with picks:=P.picks+1}):=by
 have h1:=H.sent;have G:=H.st;have F:=H.pk;refine⟨⟨by show 0≤P.sent+1;omega,by show P.sent+1≤_;omega⟩,by show((P.stamps++[P.rows 0]).length:Int)=P.sent+1;rw[ck];simp only[oD,kr];omega,λx A=>?_,λi hi=>(H.w i hi).more (by show P.sent≤P.sent+1;omega),λi hi=>by have:=H.tn i hi;show _≤P.picks+1;exact y6 this ae,λi hi=>Lk (λj I=>H.rows j ae) 0 i ae,λs D=>?_,H.fn,H.ls,by have:=H.ln;show _≤P.picks+1;exact y6 this ae,by have:=H.ac;show(P.acc.length:Int)≤2+2*(P.picks+1);omega,by show 0≤P.picks+1;omega,λhc=>?_⟩
 ·have A:x∈(kD P.q P.sent).l:=A;show 0≤x∧x<P.sent+1;unfold kD at A;split at A
  ·have:=H.q x A;omega
  ·split at A
   ·have:=H.q x A;omega
   ·rcases gS.1 A with A|A
    ·have:=H.q x A;omega
    ·have:=ib.1 A;omega
 ·rcases gS.1 D with D|D
  ·exact H.ss s D
  ·rw[ib.1 D];exact H.rows 0 ae
 ·have hc:(kD P.q P.sent).closed=true:=hc;have hc:P.q.closed=true:=by
   unfold kD at hc;split at hc
   ·exact hc
   ·split at hc<;>exact hc
  have:=H.cl hc;omega
theorem ZG (H:lZ C K P)(h:¬P.sent<bX C.d):lZ C K (ZH K {P with picks:=P.picks+1}):=by
 have h1:=H.sent;have A:=H.pk;exact⟨H.sent,H.st,H.q,H.w,λi hi=>by have:=H.tn i hi;show _≤P.picks+1;exact y6 this ae,λi hi=>Lk (λj D=>H.rows j ae) 0 i ae,H.ss,by show(P.rows 0).length≤_;rw[H.rows 0 ae];exact bU _,H.ls,by have:=H.ln;show _≤P.picks+1;exact y6 this ae,by have:=H.ac;show(P.acc.length:Int)≤2+2*(P.picks+1);omega,by show 0≤P.picks+1;omega,λ_=>by show P.sent=_;omega⟩
theorem zbT {rows:Nat→List Int}(h:∀i,i≤K→(rows i).length=K+1):∀(l:List (List Int)) i,i≤K→(yY K rows l i).length=K+1:=by
 intro l;induction l generalizing rows with
 |nil=>exact h
 |cons s l A=>exact A (rows:=oh (K+1) rows 0 s) λi hi=>MC (λj D=>h j ae) 0 s i ae
theorem zbg (H:lZ C K P):lZ C K (zb4 C K {P with picks:=P.picks+1}):=by
 have A:=H.pk;exact⟨H.sent,H.st,H.q,H.w,λi hi=>by have:=H.tn i hi;show _≤P.picks+1;exact y6 this ae,zbT H.rows P.left,H.ss,H.fn,H.ls,by have:=H.ln;show _≤P.picks+1;exact y6 this ae,by have:=H.ac;show((P.acc++[_]).length:Int)≤2+2*(P.picks+1);rw[ck];simp only[oD,kr];omega,by show 0≤P.picks+1;omega,H.cl⟩
theorem zaC {E:Option WE}{jo:Option (cZ×Int×Int)}{w:WD}{q:QD}:(∀x∈(cL E jo w q).2.1.l,x∈q.l)∧(cL E jo w q).2.1.closed=q.closed:=by
 have A:(∀x∈(pR q).l,x∈q.l)∧(pR q).closed=q.closed:=⟨λx D=>List.mem_of_mem_tail D,rfl⟩
 unfold cL;split
 ·split
  ·exact⟨λ_ h=>h,rfl⟩
  ·exact⟨λ_ h=>h,rfl⟩
 ·split
  ·exact⟨λ_ h=>h,rfl⟩
  ·split
   ·exact A
   ·split<;>exact A
theorem zaB (H:lZ C K P){k:Nat}(A:k<K):lZ C K (jn C {P with picks:=P.picks+1} k):=by
 have G:=H.pk;have hq:=zaC (E:=some C.E) (jo:=C.jo (ce P.q)) (w:=P.ws k) (q:=P.q);have D:=(H.w k A).step H.q;have I:=SD (E:=some C.E) (jo:=C.jo (ce P.q)) (w:=P.ws k) (d:=P.q);refine⟨H.sent,H.st,λx F=>H.q x (hq.1 x F),λi hi=>?_,λi hi=>?_,H.rows,H.ss,H.fn,H.ls,by have:=H.ln;show _≤P.picks+1;exact y6 this ae,by have:=H.ac;show(P.acc.length:Int)≤2+2*(P.picks+1);omega,by show 0≤P.picks+1;omega,λhc=>H.cl (by rw[←hq.2];exact hc)⟩
 ·by_cases e:i=k
  ·subst e;show Sj C P.sent (if i=i then(cL (some C.E) (C.jo (ce P.q)) (P.ws i) P.q).1 else P.ws i) (if i=i∧(P.ws i).state=0∧dE P.q=0 then sG C (ce P.q)else P.words i);simp only[cJ,CT];exact D
  ·show Sj C P.sent (if i=k then _ else P.ws i) (if i=k∧_ then _ else P.words i);rw[az e,az λh=>e h.1];exact H.w i hi
 ·by_cases e:i=k
  ·subst e;show(((if i=i then(cL (some C.E) (C.jo (ce P.q)) (P.ws i) P.q).1 else P.ws i).tiles.length:Nat):Int)≤P.picks+1;rw[aA rfl];have:=H.tn i A;omega
  ·show(((if i=k then(cL (some C.E) (C.jo (ce P.q)) (P.ws k) P.q).1 else P.ws i).tiles.length:Nat):Int)≤P.picks+1;rw[az e];have:=H.tn i hi;omega
theorem zav (H:lZ C K P){k:Nat}(L:k<K):lZ C K (rj C K {P with picks:=P.picks+1} k):=by
 have S:=zaB H L;have I:=H.ac;have U:=H.ln;unfold rj;split
 ·exact⟨S.sent,S.st,S.q,S.w,S.tn,λi hi=>MC (λj G=>H.rows j ae) _ _ i ae,S.ss,S.fn,S.ls,S.ln,S.ac,S.pk,S.cl⟩
 ·split
  ·have D:((yW C (jn C {P with picks:=P.picks+1} k) k (evP C {P with picks:=P.picks+1} k)).acc.length:Int)≤2+2*(P.picks+1):=by
    unfold yW;split
    ·show(((P.acc++[_])++[_]).length:Int)≤_;simp only[ck,oD,kr];omega
    ·show(((P.acc++[_])++[_]).length:Int)≤_;simp only[ck,oD,kr];omega
   unfold yW at D ⊢;split at D
   ·rename_i hc;rw[aA hc];exact⟨S.sent,S.st,S.q,S.w,S.tn,S.rows,S.ss,S.fn,S.ls,S.ln,D,S.pk,S.cl⟩
   ·rename_i hc;rw[az hc];exact⟨S.sent,S.st,S.q,S.w,S.tn,S.rows,S.ss,S.fn,S.ls,S.ln,D,S.pk,S.cl⟩
  ·split
   ·have F:∀i,i≤K→(oh (K+1) P.rows (k+1:Nat) P.fin i).length=K+1:=λi hi=>MC (λj G=>H.rows j ae) _ _ i ae
    refine⟨S.sent,S.st,S.q,S.w,S.tn,λi hi=>Lk (λj G=>F j ae) _ i ae,S.ss,S.fn,λs A=>?_,?_,S.ac,S.pk,S.cl⟩
    ·rcases gS.1 A with A|A
     ·exact H.ls s A
     ·rw[ib.1 A];exact F (k+1) ae
    ·show((P.left++[_]).length:Int)≤P.picks+1;rw[ck];simp only[oD,kr];omega
   ·exact S
theorem VY (H:lZ C K P)(i:Int):lZ C K (kT C K P i):=by
 unfold kT;split
 ·exact H
 ·rename_i A;split
  ·unfold JH;split
   ·rename_i h;exact zaE H h
   ·rename_i h;split
    ·exact ZG H h
    ·exact zbg H
  ·rename_i h0;have hi:0<i∧i≤K:=by
    unfold gI at A;split at A
    ·exact absurd rfl A
    ·omega
   exact zav H ae
end
section
variable {C:C21}{Z:Nat→Prop}{K:Nat}{h0 h:ah}{bw:Nat→Nat}{bp:Nat}{o:Nat→Nat}{n:Pic}{P:cg}
theorem IsW.job_at {Z B:Nat→Prop}{h:ah}{bw:Nat}{E:WE}{n:Pic}{w:WD}(H:IsW Z B h bw (some E) n w):∀t y e,w.job=some (t,y,e)→t.y≤y∧y<t.y+t.h∧lnF E.s.y y≤e∧e≤lnE E.s.y y:=by
 obtain⟨⟨tv,I,L,r,o,J,_⟩,_,_,_,_,_,st⟩:=H;intro t y e F;rw[F]at J st;obtain⟨U,G,ok,hc,bj,rv,_,S⟩:=J;cases G;obtain⟨⟨M,rs,J,_,k⟩,_⟩:=S;rcases st with⟨_,A,_⟩|⟨_,h⟩
 ·have A:cj (E.d t) y e≠0:=A;unfold cj at A;split at A
  ·exact absurd rfl A
  ·rename_i D;have D:¬t.y+t.h≤y:=D;have:=k (by show y<t.y+t.h;omega);exact⟨J.y0,ae,this.2⟩
 ·cases h
theorem SX {q:QD}(h:dE q=0):ce q∈q.l:=by
 unfold dE at h;unfold ce;cases A:q.l with
 |nil=>rw[A,aA rfl]at h;split at h<;>omega
 |cons a l=>simp
theorem zaz {E:WE}{jo:Option (cZ×Int×Int)}{w:WD}{q:QD}(h:(w.state=1∧uq (some E) w.job∧w.tiles≠[])∨((w.state=0∨w.state=2)∧w.job=none))(D:(cL (some E) jo w q).2.2.1=1):(cL (some E) jo w q).2.2.2.1=ce q∧w.state=0∧dE q=0:=by
 obtain⟨st,tl,j,H⟩:=w;unfold cL at D ⊢;rcases h with⟨A,G,_⟩|⟨A|A,G⟩
 ·have A:st=1:=A;subst A;cases j with
  |none=>exact(show False from G).elim
  |some x=>exact absurd (show(2:Int)=1 from D) ae
 ·have A:st=0:=A;subst A;rw[az (show¬(0:Int)=1 by omega),az (show¬(0:Int)=2 by omega)]at D ⊢;by_cases F:dE q=0
  ·rw[aA F];exact⟨rfl,rfl,F⟩
  ·rw[az F]at D;split at D
   ·exact absurd (show(3:Int)=1 from D) ae
   ·exact absurd (show(0:Int)=1 from D) ae
 ·have A:st=2:=A;subst A;rw[az (show¬(2:Int)=1 by omega),aA rfl]at D;exact absurd (show(0:Int)=1 from D) ae
theorem Y3 {E:WE}{jo:Option (cZ×Int×Int)}{w:WD}{q:QD}(h:(w.state=1∧uq (some E) w.job∧w.tiles≠[])∨((w.state=0∨w.state=2)∧w.job=none))(D:(cL (some E) jo w q).2.2.1=2):
  ∃t y e,w.job=some (t,y,e)∧w.state=1∧(cL (some E) jo w q).2.2=(2,w.tiles.getLast?.getD 0,cj (E.d t) y e,iA (E.d t) y e)∧cj (E.d t) y e≠0:=by
 obtain⟨st,tl,j,H⟩:=w;unfold cL at D ⊢;rcases h with⟨A,F,_⟩|⟨A|A,F⟩
 ·have A:st=1:=A;subst A;cases j with
  |none=>exact(show False from F).elim
  |some x=>exact⟨x.1,x.2.1,x.2.2,rfl,rfl,rfl,F⟩
 ·have A:st=0:=A;subst A;rw[az (show¬(0:Int)=1 by omega),az (show¬(0:Int)=2 by omega)]at D;by_cases G:dE q=0
  ·rw[aA G]at D;exact absurd (show(1:Int)=2 from D) ae
  ·rw[az G]at D;split at D
   ·exact absurd (show(3:Int)=2 from D) ae
   ·exact absurd (show(0:Int)=2 from D) ae
 ·have A:st=2:=A;subst A;rw[az (show¬(2:Int)=1 by omega),aA rfl]at D;exact absurd (show(0:Int)=2 from D) ae
theorem Y7 {t:Tbl}(W:t.Wf)(y:Int): -70368744177664≤(bE t y).1∧(bE t y).1≤70368744177664∧(bE t y).2.length≤1048576:=by
 unfold bE;split
 ·rw[dQ];by_cases h:y.toNat<t.lines.length
  ·rw[ja h];have:=W.taps _ (cQ h);exact⟨this.2.1,this.2.2,this.1⟩
  ·rw[GV ae];exact⟨by decide,by decide,by decide⟩
 ·exact⟨by decide,by decide,by decide⟩
def Xh (C:C21)(K:Nat)(P:cg)(i:Int)(n n':Pic):Prop:=if gI C K P i=true∧i≠0 then Cv (some C.E) (P.ws (i-1).toNat) n n' else n'=n
theorem zcZ (O:C.Ok)(G:eB h0)(H:fR C Z K h0 bw bp o n P h)(W:lZ C K P){i:Int}(hi:I64 i)(an:P.picks≤400000)(ab:bX C.d≤1000000)(hb:∀c,de (some C.E) c→h0.size≤c):
  ag prog dO #[ptr bp,af i] h λr h'=>r=.bool (gI C K P i)∧∃n',PTo C Z K h0 bw bp o h n' (kT C K P i) h'∧Xh C K P i n n':=by
 apply GI;unfold wJ;refine ag.at (ZM O H hi) ?_;unfold kT Xh;have w1:=W.pk;have w2:=W.ac;have w3:=W.ln;have w4:=W.sent;have w5:=W.st;cases hr:gI C K P i with
 |false=>
  simp only[go_sem];exact⟨trivial,n,by simpa using PTo.refl H,by simp⟩
 | true=>
  obtain⟨V,HB,row⟩:=H.row;have hp:=HB.po;have hK:=HB.few;have aa:aG h ⟨bp,13,none⟩=some (af P.picks):=am row;simp only[go_sem,aK,aa];rw[w64 (n:=P.picks+1) ae ae];refine b9 row (show 13<_ from by simp[iK]) rfl λg r u=>?_
  have ad:=HB.setrow u (st:=P.sent) (rt:=P.ret) (pk:=P.picks+1) r;have H1:fR C Z K h0 bw bp o n {P with picks:=P.picks+1} g:=⟨V,ad⟩
  have F1:Fr (λc=>o c≠0∨de (some C.E) c) h g:=u.fr.mono λc _ hc=>.inl (by have hc:c=bp:=hc;rw[hc];omega)
  have T:∀{n' P' h'},PTo C Z K h0 bw bp o g n' P' h'→PTo C Z K h0 bw bp o h n' P' h':=λ{n' P' h'} t=>PTo.trans (h1:=g) ⟨H1,λ_ _=>rfl,F1⟩ t
  rw[az (by simp)];by_cases F:i=0
  ·subst F;simp only[go_sem];refine(zcR O H1 (by show P.acc.length≤_;omega) (by show P.stamps.length≤_;omega) w4.1 (λs hs=>by have:=W.ls s hs;omega) (by show P.left.length≤_;omega) ab).mono λr g2 t=>⟨trivial,n,T t,?_⟩
   simp
  ·simp only[go_sem,F];have ar:0<i∧i≤K:=by
    unfold gI at hr;split at hr
    ·cases hr
    ·omega
   obtain⟨k,rfl⟩:∃k:Nat,i=(k:Int)+1:=⟨(i-1).toNat,ae⟩
   have hk:k<K:=ae;have ek:((k:Int)+1-1).toNat=k:=ae;rw[ek];have I:=W.w k hk;have tk:=W.tn k hk;have IW:=HB.ws k hk id;refine(zcM O G H1 hk (by show(P.ws k).tiles.length≤_;omega) hb (by show P.acc.length≤_;omega) (by show P.left.length≤_;omega) (λD=>?_) (λA=>?_) (λs hs=>by have:=W.ss s hs;omega) (by have:=W.fn;show P.fin.length≤_;omega) λA=>?_).mono λr g2 ⟨n',t,Dr⟩=>⟨trivial,n',by rw[az (λh:False=>h)];exact T t,?_⟩
   ·have D:(P.ws k).state=0∧dE P.q=0:=D;have hm:=SX D.2;have:=W.q _ hm;show 0≤ce P.q∧ce P.q<bX C.d;omega
   ·have A:(cL (some C.E) (C.jo (ce P.q)) (P.ws k) P.q).2.2.1=1:=A;obtain⟨e1,e2⟩:=zaz I.st A;have hm:=SX e2.2;have:=W.q _ hm;have ee:(evP C {P with picks:=P.picks+1} k).2.1=ce P.q:=e1;rw[ee];show 0≤ce P.q∧ce P.q<(P.stamps.length:Int);omega
   ·have A:(cL (some C.E) (C.jo (ce P.q)) (P.ws k) P.q).2.2.1=2:=A;obtain⟨t,y,e,hj,s1,ev,L⟩:=Y3 I.st A;have al:(P.ws k).tiles≠[]:=by
     rcases I.st with h|h
     ·exact h.2.2
     ·rw[h.2]at hj;cases hj
    have hl:=I.tl _ (Ty al);obtain⟨j1,j2⟩:=I.jb t y e hj;obtain⟨a1,a2,a3,a4⟩:=IW.job_at t y e hj;have U:0≤(P.ws k).tiles.getLast?.getD 0∧(P.ws k).tiles.getLast?.getD 0<bX C.d:=ae;have wt:=kR O.d U.1 U.2;rw[←j1]at wt;unfold fj at wt;have ew:(jn C {P with picks:=P.picks+1} k).words k=sG C ((P.ws k).tiles.getLast?.getD 0):=by
     show(if k=k∧(P.ws k).state=0∧dE P.q=0 then _ else P.words k)=_;rw[az ae];exact j2
    have wi:=Yz O U.1 U.2;rw[ew];have ee:evP C {P with picks:=P.picks+1} k=(2,(P.ws k).tiles.getLast?.getD 0,cj (C.E.d t) y e,iA (C.E.d t) y e):=ev;rw[ee];have bl:=Y7 O.s.wf.y y;have sj:iA (C.E.d t) y e=if cj (C.E.d t) y e=1 then e else y:=by
     have L:=L;unfold cj at L;unfold iA cj;by_cases q1:(C.E.d t).t.y+(C.E.d t).t.h≤y
     ·rw[aA q1]at L;exact absurd rfl L
     ·rw[az q1,az q1];by_cases q2:e<lnE (C.E.d t).s.y y
      ·rw[aA q2,aA q2,aA rfl]
      ·rw[az q2,az q2,az ae]
    have hY:C.d.Y=((C.d.s.y.lines.length:Nat):Int):=rfl;have bY:=dn.bd O.d;refine⟨U,?_,λh1=>?_,wi⟩
    ·show I64 (iA (C.E.d t) y e);rw[sj];unfold I64;unfold lnF at a3;unfold lnE at a4;have bl: -70368744177664≤(bE C.E.s.y y).1∧(bE C.E.s.y y).1≤70368744177664∧(bE C.E.s.y y).2.length≤1048576:=bl;split<;>omega
    ·have h1:cj (C.E.d t) y e≠1:=h1;show 0≤iA (C.E.d t) y e∧iA (C.E.d t) y e<C.d.Y;rw[sj,az h1];omega
   ·rw[aA ⟨trivial,F⟩];exact Dr
end
end
section
theorem zaU {K:Nat}(h:1≤K∧K≤256):ON ((K:Int)+1)=K+1:=by unfold ON;omega
theorem YK {α:Type}(n:Nat)(x:α):List.replicate n x=(List.range n).map λ_=>x:=by rw[List.map_const',fg]
structure kX (h0:ah)(K:Nat)(room:Int)(q:Option Nat)(c:Option (Value×(Nat→Prop)))(d:Option Value)(g:ah):Prop where
 ext:Ext h0 g
 hq:∀b,q=some b→IsQ (λc=>c=b) g b ⟨min (max 1 room) 4096,[],false⟩∧h0.size≤b
 hc:∀p,c=some p→fF p.2 g p.1 (K+1) (tZ (K+1))∧∀b,p.2 b→h0.size≤b∧b<g.size
 hd:∀v,d=some v→Own 1 g v K ((List.range K).map λ_=>.int .i64 0)∧∀b,blk v b→h0.size≤b
 qc:∀b p,q=some b→c=some p→¬p.2 b
 qd:∀b v,q=some b→d=some v→¬blk v b
 cd:∀p v b,c=some p→d=some v→p.2 b→¬blk v b
section
variable {h0 g:ah}{K:Nat}{room:Int}{q:Option Nat}{c:Option (Value×(Nat→Prop))}{d:Option Value}{X:Value→ah→Prop}
theorem kX.start (h:ah)(K:Nat)(room:Int):kX h K room none none none h:=⟨Ext.refl _,by simp,by simp,by simp,by simp,by simp,by simp⟩
theorem kX.ex {D:ah}(M:kX h0 K room q c d g)(e:Ext g D):kX h0 K room q c d D:=
 ⟨M.ext.trans e,λb h=>⟨(M.hq b h).1.ext e,(M.hq b h).2⟩,λp h=>⟨(M.hc p h).1.ext e,λb A=>⟨((M.hc p h).2 b A).1,bT ((M.hc p h).2 b A).2 e.1⟩⟩,λv h=>⟨(M.hd v h).1.fr (M:=λ_=>False) e.fr λ_ _=>id,(M.hd v h).2⟩,M.qc,M.qd,M.cd⟩
theorem kX.queue (M:kX h0 K room none c d g)(H:∀b A,kX h0 K room (some b) c d A→X (ptr b) A):ag prog nE #[af room] g X:=by
 refine ZV.mono λr A ⟨b,G,Q,e,n⟩=>?_
 subst G;have M':=M.ex e;have s:=M.ext.1;refine H b A ⟨M'.ext,λF h=>by cases h;exact⟨Q,ae⟩,M'.hc,M'.hd,λF p h I D=>?_,λF v h L D=>?_,M.cd⟩
 ·cases h;have:=((M.hc p I).2 b D).2;omega
 ·cases h;have:=(M.hd v L).1.lt D;omega
theorem kX.clock (hK:1≤K∧K≤256)(M:kX h0 K room q none d g)(H:∀p D,kX h0 K room q (some p) d D→X p.1 D):ag prog nG #[af ((K:Int)+1)] g X:=by
 refine(c_New ((K:Int)+1)).mono λr D ⟨U,G,e,n⟩=>?_
 rw[zaU hK]at G;have M':=M.ex e;have s:=M.ext.1;refine H (r,U) D ⟨M'.ext,M'.hq,λp h=>by cases h;exact⟨G,λb A=>⟨by have:=n b A;omega,by obtain⟨_,_,_,_,_,L⟩:=G;exact L.lt b A⟩⟩,M'.hd,λb p h I A=>?_,M.qd,λp v b I W A F=>?_⟩
 ·cases I;have:=n b A;have:=(M.hq b h).1.ql b rfl;omega
 ·cases I;have:=n b A;have:=(M.hd v W).1.lt F;omega
theorem kX.words (U:1≤K∧K≤256)(M:kX h0 K room q c none g){t:TypeId}(H:∀v D,kX h0 K room q c (some v) D→X v D):mkK ai t 1 8 (af (K:Int)) (af (K:Int)) g X:=by
 refine og rfl ae ae λv D o e n=>?_
 rw[YK]at o;have M':=M.ex e;have s:=M.ext.1;refine H v D ⟨M'.ext,M'.hq,M'.hc,λI h=>by cases h;exact⟨o,λb A=>by have:=n b A;omega⟩,M.qc,λb I h G A=>?_,λp I b L G A F=>?_⟩
 ·cases G;have:=n b A;have:=(M.hq b h).1.ql b rfl;omega
 ·cases G;have:=n b F;have:=((M.hc p L).2 b A).2;omega
end
theorem XX {vc dv:Value}{a b c d:Nat}(hc:aQ vc=true)(hd:aQ dv=true):(aM #[(.pointer none),(.pointer none),(.pointer none),(.pointer none),(.pointer none),(.slice none 0 0),(.slice none 0 0),(.slice none 0 0),ai,(.slice none 0 0),(.slice none 0 0),(.slice none 0 0),(.bool false),ai] [(0,1,ptr a),(1,1,ptr b),(2,1,ptr c),(3,1,ptr d),(4,1,vc),(7,1,dv)]).map Value.agg=
  some (.agg #[ptr a,ptr b,ptr c,ptr d,vc,.slice none 0 0,.slice none 0 0,dv,ai,.slice none 0 0,.slice none 0 0,.slice none 0 0,.bool false,ai]):=by
 have:aM #[(.pointer none),(.pointer none),(.pointer none),(.pointer none),(.pointer none),(.slice none 0 0),(.slice none 0 0),(.slice none 0 0),ai,(.slice none 0 0),(.slice none 0 0),(.slice none 0 0),(.bool false),ai] [(0,1,ptr a),(1,1,ptr b),(2,1,ptr c),(3,1,ptr d),(4,1,vc),(7,1,dv)]=some #[ptr a,ptr b,ptr c,ptr d,vc,.slice none 0 0,.slice none 0 0,dv,ai,.slice none 0 0,.slice none 0 0,.slice none 0 0,.bool false,ai]:=by
  refine(bP (n:=1) (l:=[ptr a]) rfl rfl (by simp)).trans ?_;refine(bP (n:=1) (l:=[ptr b]) rfl rfl (by simp[cG])).trans ?_;refine(bP (n:=1) (l:=[ptr c]) rfl rfl (by simp[cG])).trans ?_;refine(bP (n:=1) (l:=[ptr d]) rfl rfl (by simp[cG])).trans ?_;refine(bP (n:=1) (l:=[vc]) (cC hc) rfl (by simp[cG])).trans ?_;refine(bP (n:=1) (l:=[dv]) (cC hd) rfl (by simp[cG])).trans ?_;rw[gG];simp[wrL]
 rw[this];rfl
structure zc9 (hL:ah)(bp:Nat)(row:Value→Array Value)(T:TypeId)(i:Nat)(wv:Value)(bw:Nat→Nat)(g:ah):Prop where
 fr:Fr (λc=>c=bp) hL g
 own:Own 1 g wv i ((List.range i).map λj=>ptr (bw j))
 ws:∀j,j<i→g[bw j]? =some (.cells #[.int .i64 0,.slice none 0 0,.pointer none,.int .i64 0] 182 (0,0))∧hL.size≤bw j
 ne:∀j k,j<k→k<i→bw j≠bw k
 nw:∀b,blk wv b→hL.size≤b∧∀j,j<i→b≠bw j
 p:g[bp]? =some (.cells (row wv) T (0,0))
theorem zat {hL:ah}{bp:Nat}{row:Value→Array Value}{T:TypeId}{K:Nat}(hK:1≤K∧K≤256)(r0:hL[bp]? =some (.cells (row (.slice none 0 0)) T (0,0)))(h6:∀v,(row v)[6]? =some v)(U:∀v v',(row v).setIfInBounds 6 v'=row v'){tA tB:TypeId}{X:ah→Prop}
  (HX:∀wv bw g,zc9 hL bp row T K wv bw g→X g):
  aZ [ai] hL λI bv A D=>vK (ak .i .lss (ix I 0) (af (K:Int))) λa8=>aF a8 (
  bJ A λS=>vK (aR (ptr bp)) λau=>vK (aB 6 au) λaw=>qK S (λA=>ldV A aw) λal=>
  ag prog oL #[] A λa7 G=>S G∧(df #[(.pointer none)] tA 1 [(0,1,a7)] G λa9 H=>S H∧(di (.pointer none) tB 1 8 al a9 H λab ad=>
  vK (aR (ptr bp)) λay=>vK (aB 6 ay) λbk=>stK 1 bk ab ad λb0 bc=>vK (ak .i .add (ix I 0) aH) λbg=>D [bg] bc))) (X A):=by
 have bo:=bB r0;refine bH (α:=Value×(Nat→Nat)) K 0 (λi _=>[af (i:Int)]) (λi s g=>zc9 hL bp row T i s.1 s.2 g) (.slice none 0 0,λ_=>0) rfl (bZ _) ⟨Fr.refl _ _,.inl ⟨rfl,rfl,rfl⟩,by simp,ae,λb F=>F.elim,r0⟩ λi s g again ρ _ hi M bd=>?_
 obtain⟨wv,bw⟩:=s;have M:zc9 hL bp row T i wv bw g:=M;simp only[gX];rw[cq,aj];refine ao (λg1=>?_) (λg1=>?_)
 ·have aa:i<K:=ae;have an:(i:Int)+1=((i+1:Nat):Int):=ae;have sg:=M.fr.1;refine aP (Ext g) (Ext.refl _) ?_;simp only[go_sem,aK];refine aC wv (λk e=>by rw[am (e.row M.p)];exact h6 wv) ?_;refine JP.mono λr g2 ⟨b,er,r2,e2,n2⟩=>⟨e2,?_⟩
  subst er;have l2:=bB r2;refine da (Rp.fill_one rfl) λb3 g3 r3 e3 n3=>⟨e2.trans e3,?_⟩
  have E3:=e2.trans e3;have o3:Own 1 g3 wv i ((List.range i).map λj=>ptr (bw j)):=M.own.fr (M:=λ_=>False) E3.fr λ_ _=>id
  have S1:=Rp.SlC.single (cs:=[ptr b]) r3;have L:∀c,blk wv c→c<g.size:=λc hc=>M.own.lt hc
  refine vJ o3 S1 (aq rfl aX) rfl ae ae λs' g4 o4 f4 n4=>?_
  have ar:¬blk wv bp:=λF=>by have:=(M.nw bp F).1;omega
  have r4:=f4.row (E3.row M.p) ar;have os:aQ s'=true:=by obtain⟨a,c,e⟩:=Own.isSl o4;rw[e];rfl
  have ax:6<(row wv).size:=(lY.1 (h6 wv)).1;refine b9 r4 ax os λg5 r5 u5=>?_
  rw[U]at r5;have s2:=e2.1;have s3:=e3.1;have s4:=f4.1;rw[w64 (n:=(i:Int)+1) ae ae,an];have b5:b≠bp:=ae;have W:∀c,blk s' c→c≠bp∧hL.size≤c:=λc hc=>by
   rcases n4 c hc with h|h
   ·have:=(M.nw c h).1;exact⟨ae,ae⟩
   ·exact⟨ae,ae⟩
  refine bd (s',λj=>if j=i then b else bw j) g5 aa ⟨?_,?_,λj hj=>?_,λj k be hk=>?_,λc hc=>⟨(W c hc).2,λj hj=>?_⟩,r5⟩
  ·exact(((M.fr.trans E3.fr).after f4 λc hc F=>by have:=(M.nw c F).1;omega)).trans u5.fr
  ·have e:(List.range (i+1)).map (λj=>ptr (if j=i then b else bw j))=(List.range i).map (λj=>ptr (bw j))++[ptr b]:=by
    rw[lU,iD]
    congr 1
    ·refine K6 λj hj=>?_
     rw[az (by have:=xy.1 hj;omega)]
    ·simp
   rw[e];exact o4.fr u5.fr λc hc=>(W c hc).1
  ·by_cases e:j=i
   ·subst e;simp only[cJ];exact⟨u5.row b5 (f4.row (e3.row r2) λF=>by have:=L b F;omega),ae⟩
   ·simp only[az e];obtain⟨w1,w2⟩:=M.ws j ae;exact⟨u5.row ae (f4.row (E3.row w1) λF=>(M.nw _ F).2 j ae rfl),w2⟩
  ·show(if j=i then b else bw j)≠(if k=i then b else bw k);have lj:∀m,m<i→bw m<g.size:=λm hm=>bB (M.ws m hm).1
   by_cases e:k=i
   ·rw[az ae,aA e];have:=lj j ae;omega
   ·rw[az ae,az e];exact M.ne j k be ae
  ·show c≠(if j=i then b else bw j);by_cases e:j=i
   ·rw[aA e];rcases n4 c hc with h|h
    ·have:=L c h;omega
    ·omega
   ·rw[az e];rcases n4 c hc with h|h
    ·exact(M.nw c h).2 j ae
    ·have:=bB (M.ws j ae).1;omega
 ·have:i=K:=ae;subst this;exact HX wv bw g M
end
def Ea (K:Nat)(room:Int):cg:=⟨⟨min (max 1 room) 4096,[],false⟩,tZ (K+1),[],λ_=>⟨0,[],none,0⟩,λ_=>0,0,[],[],[],false,0⟩
def Gu (K:Nat)(room a b:Int):cg:=tN (tN (Ea K room) 0 0 0 a true) 0 1 0 b true
theorem YR {C:C21}{K:Nat}{room:Int}(h:0≤bX C.d):lZ C K (Ea K room):=
 ⟨⟨gC _,h⟩,rfl,(λx D=>by cases D),(λi _=>⟨(λx D=>by cases D),.inr ⟨.inl rfl,rfl⟩,(λt y e h=>by cases h)⟩),(λi _=>gC _),(λi _=>by simp[Ea,tZ]),(λs A=>by cases A),bZ _,(λs A=>by cases A),gC _,(by show(0:Int)≤2+2*0;omega),gC _,(λh=>by cases h)⟩
theorem YQ {C:C21}{K:Nat}{room a b:Int}(h:0≤bX C.d):lZ C K (Gu K room a b):=by
 have H:=YR (C:=C) (K:=K) (room:=room) h;exact⟨H.sent,H.st,H.q,H.w,H.tn,H.rows,H.ss,H.fn,H.ls,H.ln,(by show(2:Int)≤2+2*0;omega),H.pk,H.cl⟩
theorem label {P:Nat→Nat→Prop}(h0:∀c,¬P 0 c)(u:∀k k' c,P k c→P k' c→k=k'):∃o:Nat→Nat,∀k,k≠0→∀c,o c=k↔P k c:=by
 classical
 refine⟨λc=>if h:∃k,P k c then Classical.choose h else 0,λk A c=>?_⟩;by_cases h:∃k,P k c
 ·simp only[Hb h];have hc:=Wt h;exact⟨λe=>e▸hc,λe=>u _ _ c hc e⟩
 ·simp only[dif_neg h];exact⟨λe=>absurd e.symm A,λe=>absurd ⟨k,e⟩ h⟩
def zap (Z0:Nat→Prop)(h:ah)(m:Pic)(s:Stg)(tw th room:Int)(bf:Nat)(K:Nat)(r:Value)(h':ah):Prop:=
 ∃bp C Z bw o,r=.tuple #[ptr bp,.int .i64 0]∧C.m=m∧C.d=⟨s,tw,th⟩∧C.bf=bf∧C.Ok∧fR C Z K h bw bp o (ur s.x.lines.length s.y.lines.length m.c m.most) (Gu K room (m.w*m.h*m.c) ((s.x.lines.length:Int)*s.y.lines.length*m.c)) h'∧(∀c,de (some C.E) c→h.size≤c)∧Ext h h'∧(∀c,o c≠0→h.size≤c)∧(∀c,Z c→Z0 c∨h.size≤c)∧h.size≤C.bt
def Up (h4:ah)(K:Nat)(room:Int)(bf bt bl:Nat)(xs:List Value)(g:ah):Prop:=
 ∃bp bq pc dv,xs=[ptr bp]∧kX h4 K room (some bq) (some pc) (some dv) g∧g[bp]? =some (.cells #[ptr bf,ptr bt,ptr bl,ptr bq,pc.1,.slice none 0 0,.slice none 0 0,dv,.int .i64 0,.slice none 0 0,.slice none 0 0,.slice none 0 0,.bool false,.int .i64 0] 106 (0,0))∧h4.size≤bp∧bp≠bq∧¬pc.2 bp∧¬blk dv bp
theorem Iy {G g:ah}{K:Nat}{room:Int}{bf bt bl bq:Nat}{pc:Value×(Nat→Prop)}{dv:Value}(M:kX G K room (some bq) (some pc) (some dv) g):
  vK ((aM #[(.pointer none),(.pointer none),(.pointer none),(.pointer none),(.pointer none),(.slice none 0 0),(.slice none 0 0),(.slice none 0 0),ai,(.slice none 0 0),(.slice none 0 0),(.slice none 0 0),(.bool false),ai] [(0,1,ptr bf),(1,1,ptr bt),(2,1,ptr bl),(3,1,ptr bq),(4,1,pc.1),(7,1,dv)]).map .agg) λD=>aW (Value.cells D) 106 g λF A=>Ext G A∧Up G K room bf bt bl [F] A:=by
 have I:aQ pc.1=true:=by obtain⟨_,_,_,_,e,_⟩:=(M.hc pc rfl).1;rw[e];rfl
 have U:aQ dv=true:=by obtain⟨a,c,e⟩:=Own.isSl (M.hd dv rfl).1;rw[e];rfl
 rw[XX I U,aj];refine aI λbp W L H n'=>⟨M.ext.trans H,bp,bq,pc,dv,rfl,M.ex H,L,by have:=M.ext.1;omega,by have:=(M.hq bq rfl).1.ql bq rfl;omega,λh=>by have:=((M.hc pc rfl).2 bp h).2;omega,λh=>by have:=(M.hd dv rfl).1.lt h;omega⟩
theorem PU {h:ah}(G:eB h){Z0:Nat→Prop}{bf:Nat}{vf sv:Value}{m:Pic}{s:Stg}(I:db h bf vf m)(W:m.Wf)(HS:pU Z0 h sv s)(WS:Cf s)(au:nK m s)(zf:Z0 bf∧∀c,blk vf c→Z0 c)(zl:∀c,Z0 c→c<h.size)(fit:BN s.x.lines.length s.y.lines.length m.c m.most=0){tw th wk room:Int}:
  ag prog zR #[ptr bf,sv,af tw,af th,af wk,af room] h λr h'=>
   (¬(fm tw∧fm th)→r=.tuple #[.pointer none,af 9]∧Ext h h')∧(fm tw∧fm th→¬(1≤wk∧wk≤256)→r=.tuple #[.pointer none,af 10]∧Ext h h')∧
   (fm tw∧fm th→∀K:Nat,wk=K→1≤K∧K≤256→zap Z0 h m s tw th room bf K r h'):=by
 apply Tk;unfold Jx;have bo:=HS;obtain⟨p,q,rfl,hp,hq,b6⟩:=jm HS;simp only[bO];refine aI λD h1 r1 e1 n1=>?_
 have nf:ak .p .eql (ptr bf) (.pointer none)=some (.bool false):=rfl;have l3:aO 3 h1 (ptr D)=some (.agg #[p,q,af s.border]):=aU (l:=[p,q,af s.border]) r1 3 rfl;simp only[go_sem,nf,l3];refine(La (G.ext e1) (I.ext e1) (bo.ext e1)).mono λr h2 ⟨er,e2⟩=>?_
 rw[cP au]at er;subst er;simp only[go_sem];have E2:=e1.trans e2;have r2:=e2.row r1;refine aP (λk=>k=h2) rfl ?_;refine aC p (λk e=>by rw[e];exact am r2) ?_;refine aC q (λk e=>by rw[e];exact am r2) ?_;have b0:=hp.ext E2;have bg:=hq.ext E2;refine ag.at (Dp b0) ⟨rfl,?_⟩;refine ag.at (Dp bg) ?_;have I2:=I.ext E2;refine ag.at (fD I2) ?_;refine ag.at (uH I2) ?_;refine yw.mono λr h3 ⟨pt,er,e3,_,hN⟩=>?_
 subst er;obtain⟨bt,vt,b5,It,b8,ar,_⟩:=hN fit;subst b5;rw[fit];have x0:∀a b:Value,aL (.tuple #[a,b]) 0=some a:=λ_ _=>rfl
 have x1:∀a b:Value,aL (.tuple #[a,b]) 1=some b:=λ_ _=>rfl
 simp only[x0,x1,aj];have an:ak .i .neq ai ai=some (.bool false):=rfl;rw[an,aj,cK];have E3:=E2.trans e3;have s1:=e1.1;have s2:=e2.1;have s3:=e3.1;rw[aU (l:=[p,q,af s.border]) (e3.row r2) 3 rfl,aj];refine(PY (Z:=Z0) (s:=s) ⟨p,q,rfl,hp.ext E3,hq.ext E3⟩).mono λr h4 ⟨e4,be,bk⟩=>?_
 have E4:=E3.trans e4;by_cases F:fm tw∧fm th
 ·obtain⟨bl,pp,pq,er,cw,PL⟩:=be F;subst er;simp only[x0,x1,aj];rw[an,aj,cK];by_cases ad:wk<1
  ·simp only[go_sem,ad];exact⟨λh=>absurd F h,λ_ _=>⟨trivial,E4⟩,λ_ K hK h=>ae⟩
  by_cases ay:256<wk
  ·simp only[go_sem,ad,ay];exact⟨λh=>absurd F h,λ_ _=>⟨trivial,E4⟩,λ_ K hK h=>ae⟩
  simp only[go_sem,ad,ay];obtain⟨K,hK⟩:∃K:Nat,wk=(K:Int):=⟨wk.toNat,ae⟩
  subst hK;have hK:1≤K∧K≤256:=ae;have fin:∀{r h'},zap Z0 h m s tw th room bf K r h'→(¬(fm tw∧fm th)→r=.tuple #[.pointer none,af 9]∧Ext h h')∧(fm tw∧fm th→¬(1≤(K:Int)∧(K:Int)≤256)→r=.tuple #[.pointer none,af 10]∧Ext h h')∧(fm tw∧fm th→∀K':Nat,(K:Int)=K'→1≤K'∧K'≤256→zap Z0 h m s tw th room bf K' r h'):=λ{r h'} M=>⟨λh=>absurd F h,λ_ h=>absurd ae h,λ_ K' e _=>by
   obtain rfl:K=K':=ae;exact M⟩
  have cb:=It.lt;have c1:=bB PL.row;have s4:=e4.1;refine bi (Up h4 K room bf bt bl) ?_ ?_
  ·refine aP (Ext h4) (Ext.refl _) ?_
   try simp only[go_sem]
   rw[w64 (n:=(K:Int)+1) ae ae];have M0:=kX.start h4 K room;refine⟨?_,?_⟩
   ·refine M0.queue λbq g1 M1=>⟨M1.ext,?_,?_⟩
    ·refine M1.clock hK λpc g2 M2=>⟨M2.ext,?_⟩
     refine M2.words hK λdv g3 M3=>⟨M3.ext,?_⟩
     exact Iy M3
    ·refine M1.words hK λdv g2 M2=>⟨M2.ext,?_⟩
     refine M2.clock hK λpc g3 M3=>⟨M3.ext,?_⟩
     exact Iy M3
   ·refine M0.words hK λdv g1 M1=>⟨M1.ext,?_⟩
    refine M1.queue λbq g2 M2=>⟨M2.ext,?_⟩
    refine M2.clock hK λpc g3 M3=>⟨M3.ext,?_⟩
    exact Iy M3
  rintro xs ρ g ⟨bp,bq,pc,dv,rfl,M,row,cp,bv,a9,a8⟩;simp only[gX];refine zat (row:=λv=>#[ptr bf,ptr bt,ptr bl,ptr bq,pc.1,.slice none 0 0,v,dv,ai,.slice none 0 0,.slice none 0 0,.slice none 0 0,.bool false,ai]) hK row (λv=>rfl) (λv v'=>rfl) λwv bw g2 U=>?_
  have c0:=M.ext;have sM:=c0.1;obtain⟨Qk,b7⟩:=M.hq bq rfl;obtain⟨Ck,cM⟩:=M.hc pc rfl;obtain⟨Dk,nd⟩:=M.hd dv rfl;have ct:=Qk.ql bq rfl;have a7:∀c,blk dv c→c<g.size:=λc hc=>Dk.lt hc
  have ci:=bB row;have e0:=U.fr;have se:=e0.1;have wl:∀j,j<K→bw j<g2.size:=λj hj=>bB (U.ws j hj).1
  have b3:∀c,blk wv c→c<g2.size:=λc hc=>U.own.lt hc
  have wi:∀i j,i<K→j<K→bw i=bw j→i=j:=λi j hi hj h=>by
   rcases Nat.lt_trichotomy i j with h1|h1|h1
   ·exact absurd h (U.ne i j h1 hj)
   ·exact h1
   ·exact absurd h.symm (U.ne j i h1 hi)
  have u:∀k k' c,((k=1∧c=bq)∨(k=2∧pc.2 c)∨(k=4∧c=bp)∨(k=5∧blk dv c)∨(k=9∧blk wv c)∨∃j,j<K∧k=10+j∧c=bw j)→((k'=1∧c=bq)∨(k'=2∧pc.2 c)∨(k'=4∧c=bp)∨(k'=5∧blk dv c)∨(k'=9∧blk wv c)∨∃j,j<K∧k'=10+j∧c=bw j)→k=k':=by
   intro k k' c h1 h2;have q1:pc.2 c→c<g.size∧c≠bq∧c≠bp∧¬blk dv c:=λh=>⟨(cM c h).2,λe=>M.qc bq pc rfl rfl (e▸h),λe=>a9 (e▸h),M.cd pc dv c rfl rfl h⟩
   have q2:blk dv c→c<g.size∧c≠bq∧c≠bp:=λh=>⟨a7 c h,λe=>M.qd bq dv rfl rfl (e▸h),λe=>a8 (e▸h)⟩
   have q3:blk wv c→g.size≤c∧∀j,j<K→c≠bw j:=λh=>U.nw c h
   have q4:∀j,j<K→g.size≤bw j:=λj hj=>(U.ws j hj).2
   rcases h1 with⟨a1,D⟩|⟨a1,D⟩|⟨a1,D⟩|⟨a1,D⟩|⟨a1,D⟩|⟨i,i1,a1,D⟩<;>rcases h2 with⟨a2,H⟩|⟨a2,H⟩|⟨a2,H⟩|⟨a2,H⟩|⟨a2,H⟩|⟨j,j1,a2,H⟩<;>
    first
    |omega
    |(exfalso;exact(q1 D).2.2.2 H)
    |(exfalso;exact(q1 H).2.2.2 D)
    |(exfalso;have:=q1 D;have:=q3 H;omega)
    |(exfalso;have:=q1 H;have:=q3 D;omega)
    |(exfalso;have:=q2 D;have:=q3 H;omega)
    |(exfalso;have:=q2 H;have:=q3 D;omega)
    |(exfalso;have:=q1 D;omega)
    |(exfalso;have:=q1 H;omega)
    |(exfalso;have:=q2 D;omega)
    |(exfalso;have:=q2 H;omega)
    |(exfalso;have:=(q3 D).1;omega)
    |(exfalso;have:=(q3 H).1;omega)
    |(exfalso;exact(q3 D).2 _ j1 H)
    |(exfalso;exact(q3 H).2 _ i1 D)
    |(exfalso;have:=q1 D;have:=q4 _ j1;omega)
    |(exfalso;have:=q1 H;have:=q4 _ i1;omega)
    |(exfalso;have:=q2 D;have:=q4 _ j1;omega)
    |(exfalso;have:=q2 H;have:=q4 _ i1;omega)
    |(exfalso;have:=q4 _ j1;omega)
    |(exfalso;have:=q4 _ i1;omega)
    |(have:=wi i j i1 j1 (D.symm.trans H);omega)
  obtain⟨o,ho⟩:=label (λc h=>by rcases h with⟨a,_⟩|⟨a,_⟩|⟨a,_⟩|⟨a,_⟩|⟨a,_⟩|⟨j,_,a,_⟩<;>omega) u;have A:∀c,o c≠0→h4.size≤c∧c<g2.size:=λc hc=>by
   rcases(ho _ hc c).1 rfl with⟨_,e⟩|⟨_,e⟩|⟨_,e⟩|⟨_,e⟩|⟨_,e⟩|⟨j,j1,_,e⟩
   ·omega
   ·have:=cM c e;omega
   ·omega
   ·have:=nd c e;have:=a7 c e;omega
   ·have:=(U.nw c e).1;have:=b3 c e;omega
   ·have:=(U.ws j j1).2;have:=wl j j1;omega
  have cc:h4.size≤g2.size:=ae;have L:Ext h4 g2:=c0.then_fr e0 λc hc=>by have hc:c=bp:=hc;omega
  have E:=E4.trans L;obtain⟨C,hC⟩:∃C:C21,C=⟨0,0,0,0,bf,vf,bt,vt,pp,pq,.pointer none,bl,pp,pq,m,⟨s,tw,th⟩,0,bq⟩:=⟨_,rfl⟩
  have bc:db g2 bt vt (ur s.x.lines.length s.y.lines.length m.c m.most):=(It.ext e4).ext L;have I0:=I.lt;have Iv:∀c,blk vf c→c<h.size:=λc hc=>I.ltv hc
  have Tv:∀c,blk vt c→c<h3.size:=λc hc=>It.ltv hc
  have al:(ur s.x.lines.length s.y.lines.length m.c m.most).Wf:=C1 fit;have ab:jA s.x.lines.length s.y.lines.length m.c:=al.fits;have hZ:∀c,(Z0 c∨c=bl)→c<g2.size∧c≠bt∧¬blk vt c:=λc hc=>by
   have h1:=ar c;rcases hc with hc|hc
   ·have:=zl c hc;exact⟨ae,ae,λh=>by have:=h1 h;omega⟩
   ·exact⟨ae,ae,λh=>by have:=Tv c h;omega⟩
  have SU:Ax (λc=>Z0 c∨c=bl) g2 C.bf C.vf C.bt C.vt C.p C.q C.m (ur s.x.lines.length s.y.lines.length m.c m.most) C.d.s:=by
   rw[hC];exact⟨I.ext E,bc,(by show bf≠bt;omega),(PL.x.ext L).mono λc _ hc=>.inl hc,(PL.y.ext L).mono λc _ hc=>.inl hc,⟨.inl zf.1,λc hc=>.inl (zf.2 c hc)⟩,λc hc=>(hZ c hc).2.2,λc hc=>(hZ c hc).2.1,λc hc=>(hZ c hc).1⟩
  have b4:sV (λc=>Z0 c∨c=bl) g2 C.bl C.d C.pp C.pq:=by
   rw[hC];exact⟨L.row PL.row,(PL.x.ext L).mono λc _ hc=>.inl hc,(PL.y.ext L).mono λc _ hc=>.inl hc⟩
  have CO:C.Ok:=by
   rw[hC];exact⟨W,⟨WS.wf,F.1,F.2⟩,WS⟩
  have SW:C.suits (ur s.x.lines.length s.y.lines.length m.c m.most):=by
   rw[hC];exact⟨al,au,rfl,rfl,rfl,rfl⟩
  have eC:C.m=m∧C.d=⟨s,tw,th⟩∧C.bf=bf∧C.bq=bq∧C.bt=bt∧C.bl=bl∧C.vt=vt∧C.pp=C.p∧C.pq=C.q:=by rw[hC];exact⟨rfl,rfl,rfl,rfl,rfl,rfl,rfl,rfl,rfl⟩
  clear hC
  obtain⟨k1,k2,k3,k4,k5,k6,k7,k8,k9⟩:=eC;have aw:jh g2 (some C.E) (ur s.x.lines.length s.y.lines.length m.c m.most):=λE' hE=>by cases hE;exact⟨SU.out,al⟩
  have aa:∀c,h4.size≤c→¬(Z0 c∨c=bl)∧Ay (some C.E) c∧¬de (some C.E) c:=λc hc=>by
   refine⟨λh=>?_,?_,λh=>?_⟩
   ·rcases h with h|h
    ·have:=zl c h;omega
    ·omega
   ·show c≠C.bt;omega
   ·have h:blk C.vt c:=h;rw[k7]at h;have:=Tv c h;omega
  have ca:∀c,c≠bp→¬(λc=>c=bp) c:=λc h=>h
  have PB:aS (λ_=>False) C (λc=>Z0 c∨c=bl) K h bw bp o (ur s.x.lines.length s.y.lines.length m.c m.most) ⟨pc.1,.slice none 0 0,wv,dv,.slice none 0 0,.slice none 0 0,.slice none 0 0⟩ (Ea K room) g2:=by
   refine⟨λ_=>?_,λ_=>?_,λ_=>⟨λ_=>False,Rp.Ow.nil,λc h=>h.elim,λc h=>h.elim⟩,λ_=>?_,λ_=>⟨?_,λc hc=>(ho 5 ae c).2 (.inr (.inr (.inr (.inl ⟨rfl,hc⟩))))⟩,λ_=>⟨λ_=>False,Rp.Ow.nil,λc h=>h.elim,λc h=>h.elim⟩,λ_=>⟨λ_=>False,Rp.Ow.nil,λc h=>h.elim,λc h=>h.elim⟩,λ_=>Rp.Sl.nil,λ_=>⟨U.own.sl,λc hc=>(ho 9 ae c).2 (.inr (.inr (.inr (.inr (.inl ⟨rfl,hc⟩)))))⟩,λi hi _=>?_,(ho 4 ae bp).2 (.inr (.inr (.inl ⟨rfl,rfl⟩))),SU,b4,⟨.inr k6,k8,k9⟩,SW,λc hc=>⟨(A c hc).2,by have:=(A c hc).1;have:=E4.1;omega,aa c (A c hc).1⟩,E,hK⟩
   ·rw[k4];exact(Qk.fr e0 λc hc h=>bv (h.symm.trans hc)).bmono (λc hc=>(ho 1 ae c).2 (.inl ⟨rfl,hc⟩)) λc hc=>(A c (by rw[hc];omega)).2
   ·exact(Ck.fr e0 λc _ hc h=>a9 (by have h:c=bp:=h;rw[←h];exact hc)).bmono (λc hc=>(ho 2 ae c).2 (.inr (.inl ⟨rfl,hc⟩))) λc hc=>(A c (by rw[hc];omega)).2
   ·have:=U.p;unfold iK;rw[k3,k5,k6,k4];exact this
   ·exact Dk.fr e0 λc hc h=>a8 (by have h:c=bp:=h;rw[←h];exact hc)
   ·have hw:=U.ws i hi;have hn:=aa (bw i) ae;exact(IsW.new hw.1 hn.1 hn.2.1 hn.2.2 (λc hc=>(hZ c hc).1) aw).bmono (λc hc=>(ho (10+i) ae c).2 (.inr (.inr (.inr (.inr (.inr ⟨i,hi,rfl,hc⟩)))))) (λc hc=>(A c (by rw[hc];omega)).2) λc hc=>aa c (A c (by rw[hc];omega)).1
  have HP:fR C (λc=>Z0 c∨c=bl) K h bw bp o _ (Ea K room) g2:=⟨_,PB⟩
  -- the two notes
  have cr:=dH W.fits;have cu:=dH ab;have m1:1≤m.w*m.h*m.c:=wS (wS ae ae) ae;have m2:1≤(s.x.lines.length:Int)*s.y.lines.length*m.c:=wS (wS ae ae) ae;refine ag.at (Fo (I.ext E) W.fits) ?_;refine(Fp HP (who:=0) ae (by show 0≤1000000;omega) (gC 0) (gC 0) m1 ae).mono λr g3 ⟨_,o3,H3,q3,f3⟩=>?_
  have B3:=H3;obtain⟨V3,B3⟩:=B3;have ax:=B3.set.out;rw[k5,k7]at ax;refine ag.at (Fo ax ab) ?_;refine(Fp H3 (who:=0) ae (by show 1≤1000000;omega) ae (gC 0) m2 ae).mono λr g4 ⟨_,o4,H4,q4,f4⟩=>?_
  refine fin ⟨bp,C,λc=>Z0 c∨c=bl,bw,o4,rfl,k1,k2,k3,CO,H4,λc hc=>?_,?_,λc hc=>?_,λc hc=>hc.elim .inl λh=>.inr ae,ae⟩
  ·have hc:blk C.vt c:=hc;rw[k7]at hc;have:=ar c hc;omega
  ·obtain⟨V4,B4⟩:=H4;exact B4.ext
  ·obtain⟨V4,B4⟩:=H4;exact(B4.ow c hc).2.1
 ·have er:=bk F;subst er;simp only[x0,x1,aj];have bd:ak .i .neq (af 9) ai=some (.bool true):=rfl;rw[bd,aj,iI];exact⟨λ_=>⟨trivial,E4⟩,λh=>absurd h F,λh=>absurd h F⟩
section
theorem ZS {h:ah}{n:Nat}(h1:1≤n)(h2:n≤512):ag prog lk #[af (n:Int)] h λr h'=>jC rIs h h' r ((List.range n).map (tZ n)):=by
 apply QC;unfold FO;refine bi (λD g=>D=[af (n:Int)]∧g=h) ?_ ?_
 ·rw[cq,aj];exact ao (λc=>absurd c ae) λ_=>by simp
 rintro D ρ g ⟨rfl,rfl⟩;refine bi (λD L=>D=[af (n:Int)]∧L=g) ?_ ?_
 ·simp only[gX];rw[sr,aj];exact ao (λc=>absurd c ae) λ_=>by simp
 rintro D ρ L ⟨rfl,rfl⟩;simp only[gX];refine bH (α:=Value) n 0 (λi v=>[v,af (i:Int)]) (λi v g=>jC rIs L g v ((List.range i).map (tZ n))) (.slice none 0 0) rfl (bZ _) (jC.nil (Ext.refl _)) λi v g again ρ _ hi G I=>?_
 simp only[gX,vC];rw[cq,aj];refine ao (λg1=>?_) (λg1=>?_)
 ·have A:i<n:=ae;refine og rfl ae ae λs g2 o2 e2 U=>?_
  obtain⟨p,q1,_,q3⟩:=Own.at1 o2 (k:=.i64) A;rw[q1,aj];refine q3 _ _ rfl λg3 W f3 s3=>?_
  have E3:Ext g g3:=e2.then_fr f3 U;have hx:(List.replicate n (af 0)).set i aH=(tZ n i).map vi:=by
   apply qu (by simp[tZ]);intro j h1 h2;rw[GY];simp only[eU,Wy,tZ,y5,vi];by_cases h:i=j
   ·subst h;simp
   ·rw[az h,az (ie h)]
  rw[hx]at W;have hl:(tZ n i).length=n:=by simp[tZ]
  have oI:kh g3 s (tZ n i):=by unfold kh;rw[hl];exact W
  have N3:=G.ext E3;have sE:=G.exts.1;refine jC.push1 (e:=rIs) (x:=tZ n i) (Y:=blk s) rfl N3 ⟨s,rfl,zv (kh.ints oI) λ_ b F=>F⟩ (λb F=>⟨?_,oI.lt F,λhv=>?_⟩) rfl (by simp;omega) (by simp;omega) λv7 g7 N7=>?_
  ·have:=U b F;omega
  ·have h1:=U b F;have h2:=G.lt hv;omega
  have H:(i:Int)+1=((i+1:Nat):Int):=ae
  try simp only[go_sem]
  rw[w64 (n:=(i:Int)+1) ae ae,H];refine I v7 g7 A ?_;rw[lU,iD];exact N7
 ·have:i=n:=ae;subst this;exact G
theorem UM {α:Type}{e:Rp α}{Z P:Nat→Prop}{Q:ah→Prop}{z U c:Value}{t t':TypeId}{bytes:Nat}{s:Value}{h:ah}{l:List α}{x:α}{K:Value→ah→Prop}(W:e.w=1)(L:Rp.Ow e Z h s l)(hx:e.R P h [c] x)(D:z.cells.size=1)(A:(l.length+1)*bytes≤140737488355328)(hn:l.length+1≤9223372036854775807)(hZ:∀b,Z b→b<h.size)(I:∀b,P b→b<h.size∧¬blk s b)(hQ:∀h',Ext h h'→Q h')
  (H:∀F h',Rp.Ow e (λb=>Z b∨P b) h' F (l++[x])→Fr (blk s) h h'→(∀b,blk F b→blk s b∨h.size≤b)→K F h'):df #[U] t 1 [(0,1,c)] h λv2 G=>Q G∧di z t' 1 bytes s v2 G K:=by
 have dz:∀b,blk s b→¬Z b:=by obtain⟨ds,_,d,_⟩:=L;exact d
 exact Rp.push_ow1S (P:=λ_=>True) W (L.mono (λb _ A=>.inl A) λb A D=>D.elim (dz b A) λD=>(I b D).2 A) (e.mono hx λb _ A=>.inr A) D A hn (λb A=>A.elim (hZ b) λh=>(I b h).1) hQ H
structure StN (C:C21)(K N:Nat)(room:Int)(h0:ah)(t q c w:Option Value)(p:Option Nat)(g:ah):Prop where
 ext:Ext h0 g
 parts:∃Zr:Nat→Prop,(∀k,Zr k→h0.size≤k∧k<g.size∧∀x,p=some x→k≠x)∧(∀v,t=some v→Rp.Sl Gt Zr g v (eN C.d N))∧(∀v,c=some v→Rp.Sl rIs Zr g v ((List.range (K+1)).map (tZ (K+1))))∧∀v,w=some v→Rp.Sl rVD Zr g v ((List.range K).map λ_=>⟨0,[],[]⟩)
 qq:∀v,q=some v→v=.agg #[.int .i64 (min (max 1 room) 4096),.slice none 0 0,.bool false]
 var:∀x,p=some x→h0.size≤x∧g[x]? =some (.cells aJ 48 (0,0))
section
variable {C:C21}{K N:Nat}{room:Int}{h0 g:ah}{t q c w:Option Value}{p:Option Nat}{J:Value→ah→Prop}
theorem StN.start (C:C21)(K N:Nat)(room:Int)(h:ah):StN C K N room h none none none none none h:=⟨Ext.refl _,⟨λ_=>False,by simp,by simp,by simp,by simp⟩,by simp,by simp⟩
theorem StN.grow {F:ah}(S:StN C K N room h0 t q c w p g)(e:Ext g F):StN C K N room h0 t q c w p F:=by
 obtain⟨a,⟨U,z,I,L,H⟩,d,f⟩:=S;exact⟨a.trans e,⟨U,λk D=>⟨(z k D).1,bT (z k D).2.1 e.1,(z k D).2.2⟩,λv A=>(I v A).ext e,λv A=>(L v A).ext e,λv A=>(H v A).ext e⟩,d,λx G=>⟨(f x G).1,e.row (f x G).2⟩⟩
theorem StN.more {H c' w':Option Value}{D:ah}{Y:Nat→Prop}(S:StN C K N room h0 t q c w p g)(e:Ext g D)(hY:∀k,Y k→g.size≤k∧k<D.size)(U:∀v,H=some v→t=some v∨Rp.Sl Gt Y D v (eN C.d N))(hc:∀v,c'=some v→c=some v∨Rp.Sl rIs Y D v ((List.range (K+1)).map (tZ (K+1))))(L:∀v,w'=some v→w=some v∨Rp.Sl rVD Y D v ((List.range K).map λ_=>⟨0,[],[]⟩)):StN C K N room h0 H q c' w' p D:=by
 obtain⟨a,⟨Zr,z,I,b2,W⟩,d,f⟩:=S;have se:=a.1;refine⟨a.trans e,⟨λk=>Zr k∨Y k,λk A=>?_,λv F=>?_,λv F=>?_,λv F=>?_⟩,d,λx G=>⟨(f x G).1,e.row (f x G).2⟩⟩
 ·rcases A with A|A
  ·exact⟨(z k A).1,bT (z k A).2.1 e.1,(z k A).2.2⟩
  ·have:=hY k A;exact⟨ae,this.2,λx G=>by have:=bB (f x G).2;omega⟩
 ·exact(U v F).elim (λh=>((I v h).ext e).mono λ_ _ h=>.inl h) λh=>h.mono λ_ _ h=>.inr h
 ·exact(hc v F).elim (λh=>((b2 v h).ext e).mono λ_ _ h=>.inl h) λh=>h.mono λ_ _ h=>.inr h
 ·exact(L v F).elim (λh=>((W v h).ext e).mono λ_ _ h=>.inl h) λh=>h.mono λ_ _ h=>.inr h
theorem StN.call_t {Z:Nat→Prop}{cs:List Value}(S:StN C K N room h0 none q c w p g)(I:xm.R Z h0 cs C.d.s)(O:C.Ok)(L:(N:Int)=bX C.d)(F:N≤4096)(U:1≤C.d.X)(hY:1≤C.d.Y)(few:∀x∈C.d.s.x.lines++C.d.s.y.lines,x.2.length≤1073741824)(H:∀v A,StN C K N room h0 (some v) q c w p A→J v A):ag prog lz #[.agg cs.toArray,af C.d.w,af C.d.h] g J:=
 (X9 (xm.ext I S.ext) O.d few L F U hY).mono λv A D=>H v A (S.more (Y:=blk v) D.2.1 (λk G=>⟨D.2.2 k G,D.lt G⟩) (λu hu=>by cases hu;exact .inr D.sl) (λu hu=>.inl hu) λu hu=>.inl hu)
theorem StN.call_q (S:StN C K N room h0 t none c w p g)(H:∀v A,StN C K N room h0 t (some v) c w p A→J v A):ag prog ll #[af room] g J:=
 ZT.mono λv A ⟨F,e⟩=>H v A (by
  have D:=S.grow e;exact⟨D.ext,D.parts,λu hu=>by cases hu;exact F,D.var⟩)
theorem StN.call_c (S:StN C K N room h0 t q none w p g)(G:K≤511)(H:∀v A,StN C K N room h0 t q (some v) w p A→J v A):ag prog lk #[af ((K:Int)+1)] g J:=by
 rw[show(K:Int)+1=((K+1:Nat):Int)by omega];exact(ZS ae ae).mono λv A D=>H v A (S.more (Y:=fN g A) D.exts (λk F=>F) (λu hu=>.inl hu) (λu hu=>by cases hu;exact .inr D.sl) λu hu=>.inl hu)
theorem StN.mk_w {bytes:Nat}{T:TypeId}(S:StN C K N room h0 t q c none p g)(W:K≤511)(G:bytes≤1000)(H:∀v F,StN C K N room h0 t q c (some v) p F→J v F):mkK (.agg #[ai,.slice none 0 0,.slice none 0 0]) T 3 bytes (af (K:Int)) (af (K:Int)) g J:=by
 unfold mkK;have I:IntKind.i64.wrap (K:Int)=K:=w64 ae ae;simp only[I];refine⟨ae,ae,?_,?_⟩
 ·have:(bytes:Int)*(K:Int)≤1000*511:=qn ae ae ae ae;omega
 rw[eT];have L:∀j,j<K*3→(jk (.agg #[ai,.slice none 0 0,.slice none 0 0]) (K*3)).toList[j]? =some ([af 0,.slice none 0 0,.slice none 0 0][j%3]'(by simp;omega)):=by
  intro j D;unfold jk;simp only[bO,RS,w6,Array.toList_range,Wa D,cI];have:j%3<3:=gT _ ae
  congr 1
  rcases(show j%3=0∨j%3=1∨j%3=2 by omega)with h|h|h<;>simp[h]
 have U:(jk (.agg #[ai,.slice none 0 0,.slice none 0 0]) (K*3)).toList.length=K*3:=by simp[jk]
 refine H _ _ (S.more (Y:=λk=>k=g.size) (Ext.push g _) (λk A=>by rw[A];simp) (λu hu=>.inl hu) (λu hu=>.inl hu) λu hu=>by
  cases hu;refine .inr ⟨(jk (.agg #[ai,.slice none 0 0,.slice none 0 0]) (K*3)).toList,⟨by simp[jk];rfl,_,K,by rw[cV,fg],.inr ⟨g.size,0,rfl,λj D=>?_⟩⟩,λ_ b G=>G,λi hi=>?_⟩
  ·rw[aK,am (t:=T) (f:=(0,0)) rJ,ja D |>.symm,um]
  ·have hi:i<K:=by simpa using hi
   refine⟨.slice none 0 0,.slice none 0 0,?_,by simpa using Rp.Sl.nil,by simpa using Rp.Sl.nil,_,_,_,rfl,bU _⟩;apply List.ext_getElem?;intro k;by_cases A:k<3
   ·show((List.drop (i*3) _).take 3)[k]? =_;rw[Wm A,List.getElem?_drop,L _ ae];rcases(show k=0∨k=1∨k=2 by omega)with h|h|h<;>subst h<;>simp<;>rfl
   ·show((List.drop (i*3) _).take 3)[k]? =_;rw[GV (by simp;omega),GV (by simp;omega)])
theorem StN.new_p (S:StN C K N room h0 t q c w none g)(H:∀x D,StN C K N room h0 t q c w (some x) D→J (ptr x) D):aW aJ 48 g J:=by
 have hs:=S.ext.1;refine aI λx D r e n=>H x D ?_
 obtain⟨a,⟨U,z,I,W,L⟩,d,f⟩:=S;exact⟨a.trans e,⟨U,λk F=>⟨(z k F).1,bT (z k F).2.1 e.1,λy G=>by cases G;have:=(z k F).2.1;omega⟩,λv A=>(I v A).ext e,λv A=>(W v A).ext e,λv A=>(L v A).ext e⟩,d,λy G=>by cases G;exact⟨ae,r⟩⟩
theorem StN.vk_fill {X Y tv H cv wv:Value}{A G F D:Int}{J:Value→Prop}(S:StN C K N room h0 (some tv) (some H) (some cv) (some wv) p g)(oX:aQ X=true)(oY:aQ Y=true)(W:J (.agg [X,Y,af A,af G,af F,af D,tv,.slice none 0 0,af (min (max 1 room) 4096),.slice none 0 0,.bool false,cv,wv,.slice none 0 0,ai,.bool false,.bool false,.slice none 0 0,.slice none 0 0,.slice none 0 0].toArray)):
  vK ((aM aJ [(0,5,.agg [X,Y,af A,af G,af F].toArray),(5,1,af D),(6,1,tv),(8,3,H),(11,1,cv),(12,1,wv)]).map .agg) J:=by
 obtain⟨Zr,z,I,U,L⟩:=S.parts;have e:=S.qq _ rfl;subst e;have f:aM aJ [(0,5,.agg [X,Y,af A,af G,af F].toArray),(5,1,af D),(6,1,tv),(8,3,.agg #[af (min (max 1 room) 4096),.slice none 0 0,.bool false]),(11,1,cv),(12,1,wv)]=some [X,Y,af A,af G,af F,af D,tv,.slice none 0 0,af (min (max 1 room) 4096),.slice none 0 0,.bool false,cv,wv,.slice none 0 0,ai,.bool false,.bool false,.slice none 0 0,.slice none 0 0,.slice none 0 0].toArray:=by
  refine(bP (n:=5) (l:=[X,Y,af A,af G,af F]) rfl rfl (by simp)).trans ?_;refine(bP (n:=1) (l:=[af D]) rfl rfl (by simp[cG])).trans ?_;refine(bP (n:=1) (l:=[tv]) (cC (I _ rfl).one) rfl (by simp[cG])).trans ?_;refine(bP (n:=3) (l:=[af (min (max 1 room) 4096),.slice none 0 0,.bool false]) rfl rfl (by simp[cG])).trans ?_;refine(bP (n:=1) (l:=[cv]) (cC (U _ rfl).one) rfl (by simp[cG])).trans ?_;refine(bP (n:=1) (l:=[wv]) (cC (L _ rfl).one) rfl (by simp[cG])).trans ?_;rw[gG];simp[wrL]
 rw[f,bG,aj];exact W
end
abbrev BJ:Value:=.slice none 0 0
def PreN (C:C21)(K N:Nat)(room:Int)(X Y:Value)(h0:ah)(x:Nat)(tv cv wv:Value)(Zr:Nat→Prop)(g:ah):Prop:=
 g[x]? =some (.cells (dpC C (Ea K room) ⟨X,Y,tv,BJ,BJ,cv,wv,BJ,BJ,BJ,BJ⟩).toArray 48 (0,0))∧Ext h0 g∧h0.size≤x∧(∀k,Zr k→h0.size≤k∧k<g.size∧k≠x)∧
 Rp.Sl Gt Zr g tv (eN C.d N)∧Rp.Sl rIs Zr g cv ((List.range (K+1)).map (tZ (K+1)))∧Rp.Sl rVD Zr g wv ((List.range K).map λ_=>⟨0,[],[]⟩)
theorem StN.fin {C:C21}{K N:Nat}{room:Int}{h0 g:ah}{X Y tv qv cv wv:Value}{x:Nat}{J:Value→ah→Prop}(S:StN C K N room h0 (some tv) (some qv) (some cv) (some wv) (some x) g)(oX:aQ X=true)(oY:aQ Y=true)(HJ:∀F D,PreN C K N room X Y h0 x tv cv wv F D→J undef D):
  stK 20 (ptr x) (.agg [X,Y,af C.d.s.x.n,af C.d.s.y.n,af C.d.s.border,af C.m.c,tv,.slice none 0 0,af (min (max 1 room) 4096),.slice none 0 0,.bool false,cv,wv,.slice none 0 0,ai,.bool false,.bool false,.slice none 0 0,.slice none 0 0,.slice none 0 0].toArray) g J:=by
 obtain⟨F,z,L,b2,U⟩:=S.parts;obtain⟨n,r⟩:=S.var x rfl;have H:=L _ rfl;have I:=b2 _ rfl;have G:=U _ rfl;refine cT (l:=[X,Y,af C.d.s.x.n,af C.d.s.y.n,af C.d.s.border,af C.m.c,tv,.slice none 0 0,af (min (max 1 room) 4096),.slice none 0 0,.bool false,cv,wv,.slice none 0 0,ai,.bool false,.bool false,.slice none 0 0,.slice none 0 0,.slice none 0 0]) r rfl ?_ rfl λD W u=>?_
 ·exact aq oX (aq oY (aq rfl (aq rfl (aq rfl (aq rfl (aq H.one (aq rfl (aq rfl (aq rfl (aq rfl (aq I.one (aq G.one (aq rfl (aq rfl (aq rfl (aq rfl (aq rfl (aq rfl (aq rfl aX)))))))))))))))))))
 ·have q:∀k,k<g.size→F k→¬k=x:=λk _ A=>(z k A).2.2 x rfl
  exact HJ F D ⟨W,S.ext.upd n u,n,λk A=>⟨(z k A).1,by rw[u.1];exact(z k A).2.1,(z k A).2.2 x rfl⟩,H.fr u.fr q,I.fr u.fr q,G.fr u.fr q⟩
theorem ZR {C:C21}{K N:Nat}{room:Int}{h:ah}{Z:Nat→Prop}{cs:List Value}(HK:xm.R Z h cs C.d.s)(zl:∀c,Z c→c<h.size)(O:C.Ok)(hN:(N:Int)=bX C.d)(bk:N≤4096)(hX:1≤C.d.X)(hY:1≤C.d.Y)(few:∀x∈C.d.s.x.lines++C.d.s.y.lines,x.2.length≤1073741824)(hK:1≤K∧K≤256)
  (b1:0≤C.d.s.x.n*C.d.s.y.n*C.m.c∧C.d.s.x.n*C.d.s.y.n*C.m.c≤1000000000000) (b2:0≤C.d.X*C.d.Y*C.m.c∧C.d.X*C.d.Y*C.m.c≤1000000000000) (b3:0≤C.d.s.x.n*C.d.s.y.n∧C.d.s.x.n*C.d.s.y.n≤1000000000000) (b4:0≤C.d.X*C.d.Y∧C.d.X*C.d.Y≤1000000000000):
  ag prog Cj #[.agg cs.toArray,af C.m.c,af C.d.w,af C.d.h,af (K:Int),af room] h (DTo Z C K N h (Gu K room (C.d.s.x.n*C.d.s.y.n*C.m.c) (C.d.X*C.d.Y*C.m.c))):=by
 apply QB;unfold FN;have ca:=HK;obtain⟨X,Y,rfl,HX,HY⟩:=HK;rw[bO];refine aI λbs g1 r1 e1 n1=>aI λb3 g3 r3 e3 n3=>?_
 have k1:=bB r1;have k3:=bB r3;have s1:=e1.1;have s3:=e3.1;have r1:=e3.row r1;have E3:=e1.trans e3;have a7:=xm.ext ca E3;have oX:=HX.one;have oY:=HY.one;refine bi (λxs g=>∃x tv cv wv Zr,xs=[ptr x]∧PreN C K N room X Y g3 x tv cv wv Zr g) ?_ ?_
 ·refine aP (Ext g3) (Ext.refl _) ?_;have q2:∀W,Ext g3 W→aO 5 W (ptr bs)=some (.agg [X,Y,af C.d.s.x.n,af C.d.s.y.n,af C.d.s.border].toArray):=λW e=>aU (e.row r1) 5 rfl
  refine aC _ q2 ?_;refine aC _ q2 ?_;have ek:ak .i .add (af (K:Int)) aH=some (af ((K:Int)+1)):=by
   show some (af (IntKind.i64.wrap ((K:Int)+1)))=_;rw[w64 ae ae]
  rw[ek,aj];have M0:=StN.start C K N room g3
  repeat' first
   |exact StN.ext ‹StN _ _ _ _ _ _ _ _ _ _ _›
   |refine And.intro ?_ ?_
   |refine StN.call_t ‹StN _ _ _ _ _ none _ _ _ _ _› a7 O hN bk hX hY few λv W M=>?_
   |refine StN.call_q ‹StN _ _ _ _ _ _ none _ _ _ _› λv W M=>?_
   |refine StN.call_c ‹StN _ _ _ _ _ _ _ none _ _ _› ae λv W M=>?_
   |refine StN.mk_w ‹StN _ _ _ _ _ _ _ _ none _ _› ae ae λv W M=>?_
   |refine StN.new_p ‹StN _ _ _ _ _ _ _ _ _ none _› λx W M=>?_
   |refine StN.vk_fill ‹StN _ _ _ _ _ (some _) (some _) (some _) (some _) _ _› oX oY ?_
   |refine StN.fin ‹StN _ _ _ _ _ (some _) (some _) (some _) (some _) (some _) _› oX oY λZr W H=>⟨_,_,_,_,Zr,rfl,H⟩
 rintro xs ρ g ⟨x,tv,cv,wv,Zr,rfl,rx,eg,nx,zr,Ht,Hc,Hw⟩;have kx:=bB rx;have sg:=eg.1;have c6:aG g ⟨x,6,none⟩=some tv:=am rx;have b8:aD tv=some (af (N:Int)):=by obtain⟨a,c,e⟩:=Ht.isSl;rw[e];simp[aD,eN]
 have al:∀c,Z c→¬c=x:=λc hc h=>by have:=zl c hc;omega
 simp only[gX,go_sem,aK,c6,b8];refine bH (α:=Unit) N 0 (λi _=>[af (i:Int)]) (λi _ F=>∃mv Zm,F[x]? =some (.cells (dpC C (Ea K room) ⟨X,Y,tv,mv,BJ,cv,wv,BJ,BJ,BJ,BJ⟩).toArray 48 (0,0))∧Fr (λk=>k=x) g F∧Rp.Ow zch Zm F mv (EU C i)∧∀k,(blk mv k∨Zm k)→g.size≤k∧k<F.size) () rfl (bZ _) ⟨BJ,λ_=>False,rx,Fr.refl _ _,Rp.Ow.nil,λk A=>A.elim (λh=>h.elim) False.elim⟩ λi _ F again ρ' _ hi ⟨mv,Zm,U,fx,om,zm⟩ cb=>?_
 have sx:=fx.1;have rS:=fx.row (eg.row r1) (show¬bs=x by omega);simp only[gX];rw[cq,aj];refine ao (λc1=>?_) (λc1=>?_)
 ·have bd:i<N:=ae;have b6:=Ht.fr fx λk _ A=>(zr k A).2.2
  obtain⟨pt,cs,a1,a2,a3⟩:=b6.atw (show 0<10 by omega) (k:=.i64) (i:=i) (by simp[eN];omega);have a1:bu 10 tv (af (i:Int))=some pt:=a1;have a2:aO 10 F pt=some (.agg cs.toArray):=a2;have et:(eN C.d N)[i]'(by simp[eN];omega)=aT C.d i:=by simp[eN]
  rw[et]at a3;obtain⟨f0,f1,f3,f5,ec⟩:=a3;rw[a1,aj,a2,aj];refine dk (cs:=cs) (by rw[ec];rfl) (Gt.one (Z:=Zr) (h:=F) (x:=aT C.d i) ⟨f0,f1,f3,f5,ec⟩) (by rw[ec];rfl) λb5 g5 r5 e5 n5=>?_
  rw[ec]at r5;have s5:=e5.1;refine aP (Ext g5) (Ext.refl _) ?_;simp only[go_sem,aK];refine aC mv (λk e=>am (e.row (e5.row U))) ?_;refine aC (.agg [X,Y,af C.d.s.x.n,af C.d.s.y.n,af C.d.s.border].toArray) (λk e=>aU (e.row (e5.row rS)) 5 rfl) ?_
  try simp only[go_sem,aK]
  refine aC (af (aT C.d i).y) (λk e=>am (e.row r5)) ?_
  try simp only[go_sem,aK]
  refine aC (af (aT C.d i).h) (λk e=>am (e.row r5)) ?_;have hw:=kR O.d (i:=(i:Int)) ae ae;unfold fj at hw;have K5:xm.R Z g5 [X,Y,af C.d.s.x.n,af C.d.s.y.n,af C.d.s.border] C.d.s:=xm.ext (xm.fr (xm.ext a7 eg) fx λk _ A=>al k A) e5;refine(Vs (m:=C.m) (t:=aT C.d i) K5 O.s hw.2.2.2.1 hw.2.1 ae).mono λsv g6 G=>⟨G.2.1,?_⟩
  have s6:=G.2.1.1;have aw:(EU C i).length=i:=by simp[EU]
  refine UM (e:=zch) (x:=RU C.E (some (Px C.d i))) (P:=blk sv) (Q:=Ext g5) rfl (om.ext (e5.trans G.2.1)) ⟨sv,rfl,G.sl,G.1.slcap⟩ rfl (by rw[aw];omega) (by rw[aw];omega) (λb hb=>by have:=(zm b (.inr hb)).2;omega) (λb hb=>⟨G.lt hb,λhv=>by have:=G.2.2 b hb;have:=(zm b (.inl hv)).2;omega⟩) (λh' e=>G.2.1.trans e) λv7 g7 o7 f7 n7=>?_
  have s7:=f7.1;have bv:=f7.row ((e5.trans G.2.1).row U) (show¬blk mv x from λh=>by have:=(zm x (.inl h)).1;omega);have bo:(i:Int)+1=((i+1:Nat):Int):=ae
  try simp only[go_sem,aK]
  refine b9 bv (by simp[dpC]) o7.one λg8 r8 u8=>?_
  have s8:=u8.1
  try simp only[go_sem]
  rw[w64 (n:=(i:Int)+1) ae ae,bo];have hz:∀k,(blk v7 k∨(Zm k∨blk sv k))→g.size≤k∧k<g7.size:=λk A=>by
   rcases A with A|A|A
   ·refine⟨?_,o7.lt A⟩;rcases n7 k A with h|h
    ·exact(zm k (.inl h)).1
    ·omega
   ·have:=zm k (.inr A);omega
   ·have:=G.2.2 k A;have:=G.lt A;omega
  refine cb () g8 bd ⟨v7,λb=>Zm b∨blk sv b,r8,((fx.after (e5.trans G.2.1).fr λ_ _ h=>False.elim h).after f7 λc hc h=>by have:=(zm c (.inl h)).1;omega).after u8.fr λc _ h=>h,?_,λk A=>by rw[s8];exact hz k A⟩;rw[Tp];exact o7.fr u8.fr (λk _ A h=>by have:=(hz k (.inr A)).1;omega) λk A h=>by have:=(hz k (.inl A)).1;omega
 ·have:i=N:=ae;subst this;have q0:∀k,k<g.size→Zr k→¬k=x:=λk _ A=>(zr k A).2.2
  have EG:=E3.trans eg
  let Z':Nat→Prop:=λk=>(Z k∨Zr k∨blk mv k∨Zm k)∧k<F.size
  have zz:∀k,Z' k→(Z k∨h.size≤k)∧k<F.size∧k≠x∧k≠b3:=λk A=>by
   obtain⟨A,lt⟩:=A;rcases A with A|A|A|A
   ·have:=zl k A;exact⟨.inl A,lt,ae,ae⟩
   ·have:=zr k A;exact⟨.inr ae,lt,ae,ae⟩
   ·have:=zm k (.inl A);exact⟨.inr ae,lt,ae,ae⟩
   ·have:=zm k (.inr A);exact⟨.inr ae,lt,ae,ae⟩
  have D:DAt Z' C K i (Ea K room) ⟨X,Y,tv,mv,BJ,cv,wv,BJ,BJ,BJ,BJ⟩ F:=
   ⟨((HX.ext EG).fr fx λk _ A=>al k A).mono λk lt A=>⟨.inl A,lt⟩,((HY.ext EG).fr fx λk _ A=>al k A).mono λk lt A=>⟨.inl A,lt⟩,(Ht.fr fx q0).mono λk lt A=>⟨.inr (.inl A),lt⟩,om.sl.mono λk lt A=>⟨.inr (.inr (A.elim .inr .inl)),lt⟩,⟨Rp.Sl.nil,_,_,_,rfl,bU _⟩,
    (Hc.fr fx q0).mono λk lt A=>⟨.inr (.inl A),lt⟩,(Hw.fr fx q0).mono λk lt A=>⟨.inr (.inl A),lt⟩,Rp.Sl.nil,Rp.Sl.nil,Rp.Sl.nil,Rp.Sl.nil⟩
  have c2:aG F ⟨bs,2,none⟩=some (af C.d.s.x.n):=am rS;have c3:aG F ⟨bs,3,none⟩=some (af C.d.s.y.n):=am rS;rw[aU U 20 rfl,aj];simp only[go_sem,aK,c2,c3];rw[w64 (n:=C.d.s.x.n*C.d.s.y.n) ae ae,w64 (n:=C.d.s.x.n*C.d.s.y.n*C.m.c) ae ae];refine(PN (who:=0) D (λc hc=>(zz c hc).2.1) (bZ _) (by simp[Ea]) (gC _) b1.1 ae).mono λr g9 D9=>?_
  obtain⟨Z9,V9,er,H9,z9,e9⟩:=D9;subst er;have s9:=e9.1;have ad:∀k,Z9 k→(Z k∨h.size≤k)∧k<g9.size∧k≠x∧k≠b3:=λk A=>by
   rcases(z9 k A).1 with h1|h1
   ·have:=zz k h1;exact⟨this.1,(z9 k A).2,this.2.2⟩
   ·exact⟨.inr ae,(z9 k A).2,ae,ae⟩
  refine cT (e9.row U) (by rfl) H9.ones (by rfl) λa8 cc L=>?_
  have c4:=L.1;have aa:=L.row (show bs≠x by omega) (e9.row rS);have cp:=H9.fr L.fr λk _ A=>(ad k A).2.2.1
  obtain⟨ax,cx,ex⟩:=HX.isSl;obtain⟨ay,cy,ey⟩:=HY.isSl;have b7:aD X=some (af C.d.X):=by rw[ex];rfl
  have be:aD Y=some (af C.d.Y):=by rw[ey];rfl
  have c0:aG a8 ⟨bs,0,none⟩=some X:=am aa;have cr:aG a8 ⟨bs,1,none⟩=some Y:=am aa;rw[aU cc 20 rfl,aj];simp only[go_sem,aK,c0,cr,b7,be];rw[w64 (n:=C.d.X*C.d.Y) ae ae,w64 (n:=C.d.X*C.d.Y*C.m.c) ae ae];refine(PN (who:=0) cp (λc hc=>by have:=(ad c hc).2.1;omega) (bZ _) (by simp[Ea,tN]) (gC _) b2.1 ae).mono λr ct ci=>?_
  obtain⟨au,b0,er,a9,an,ar⟩:=ci;subst er;have cu:=ar.1;have bc:=ar.row (L.row (show b3≠x by omega) (e9.row (fx.row (eg.row r3) (show¬b3=x by omega))));have I:∀k,au k→(Z k∨h.size≤k)∧k<ct.size∧k≠b3:=λk A=>by
   rcases(an k A).1 with h1|h1
   ·have:=ad k h1;exact⟨this.1,(an k A).2,this.2.2.2⟩
   ·exact⟨.inr ae,(an k A).2,ae⟩
  refine cT bc (by rfl) a9.ones (by rfl) λcw bg ab=>?_
  rw[aU bg 20 rfl,aj];have EX:Ext h F:=EG.then_fr fx λc hc=>by have hc:c=x:=hc;omega
  exact⟨au,b0,rfl,a9.fr ab.fr λk _ A=>(I k A).2.2,λk A=>⟨(I k A).1,by rw[ab.1];exact(I k A).2.1⟩,(((EX.trans e9).upd ae L).trans ar).upd ae ab⟩
end
section
section
variable {C:C21}{Z:Nat→Prop}{K:Nat}{h0 h:ah}{bw:Nat→Nat}{bp:Nat}{o:Nat→Nat}{n:Pic}{P:cg}
theorem Ub (O:C.Ok)(H:fR C Z K h0 bw bp o n P h){N:Nat}(hN:(N:Int)=bX C.d)(ax:N≤4096)(hs:ji C N 0≤1000000000):
  ag prog pg #[ptr bp] h λr h'=>r=af ((2*N+K+2+ji C N 0:Nat):Int)∧Ext h h':=by
 have HP:=H;obtain⟨V,H,row⟩:=H.row;apply EM;unfold uX;have hK:=H.few;have c2:aG h ⟨bp,2,none⟩=some (ptr C.bl):=am row;have c6:aG h ⟨bp,6,none⟩=some V.wv:=am row;have F:=SlC.len (H.wk id).1;refine aP (λk=>k=h) rfl ?_;simp only[go_sem,aK];refine aC (ptr C.bl) (λk e=>by rw[e];exact c2) ?_
 try simp only[go_sem,aK]
 refine aC V.wv (λk e=>by rw[e];exact c6) ?_;refine aC (af (K:Int)) (λ_ _=>F) ?_;refine ag.at (C8 H.pl O.d) ⟨rfl,?_⟩;rw[←hN];simp only[go_sem];rw[w64 (n:=2*(N:Int)) ae ae,w64 (n:=2*(N:Int)+K) ae ae,w64 (n:=2*(N:Int)+K+2) ae ae,c2,aj];refine(Yc H.pl O.d hN ae).mono λav g3 U=>?_
 obtain⟨aa,ca,ea⟩:=U.sl.isSl;have al:(eN C.d N).length=N:=by simp[eN]
 have W:aD av=some (af (N:Int)):=by rw[ea];show some (af ((eN C.d N).length:Int))=_;rw[al]
 rw[W,aj];refine bH (α:=Unit) N 0 (λi _=>[af (2*(N:Int)+K+2+(ji C i 0:Nat)),af (i:Int)]) (λi _ g=>Ext g3 g) () (by simp[ji]) (bZ _) (Ext.refl _) λi _ g4 again ρ _ hi e4 ab=>?_
 simp only[gX,vC];have E4:=U.2.1.trans e4;have H4:=H.ex E4;rw[cq,aj];refine ao (λg1=>?_) (λg1=>?_)
 ·have ad:i<N:=ae;obtain⟨pt,D,q1,q2,G⟩:=(U.sl.ext e4).atw (show 0<10 by omega) (k:=.i64) (i:=i) ae;have q1:bu 10 av (af (i:Int))=some pt:=q1;have q2:aO 10 g4 pt=some (.agg D.toArray):=q2;have G:D=dA (eN C.d N)[i]:=G;have q4:(eN C.d N)[i]=aT C.d i:=by simp[eN]
  rw[q4]at G;subst G;rw[q1,aj,q2,aj];refine dk (cs:=dA (aT C.d i)) rfl (kj _) rfl λb5 g5 r5 e5 n5=>?_
  have H5:=H4.ex e5;have A:=H5.p id;refine aP (Ext g5) (Ext.refl _) ?_
  try simp only[go_sem,aK]
  refine aC (ptr C.bl) (λk e=>am (e.row A)) ?_;refine aC (.agg (dA (aT C.d i)).toArray) (λk e=>aU (e.row r5) 10 rfl) ?_;refine(Sc H5.pl).mono λr g6 ⟨er,F⟩=>?_
  subst er;refine⟨F,?_⟩;have H6:=H5.ex F;rw[H.zl.2.1,H.zl.2.2];refine ag.to (zbD C.m H6.set.tx H6.set.ty O.s) λg7 e7=>?_
  rw[aA (kR O.d ae ae)];have I:yM C.d.s (aT C.d i) C.m=qa C i:=rfl;rw[I];have aw:ji C (i+1) 0=ji C i 0+qa C i:=by
   rw[Ll C i 1 0,aK];show _+(qa C i+0)=_;omega
  have au:ji C N 0=ji C (i+1) 0+ji C (N-(i+1)) (0+(i+1)):=by rw[←Ll];congr 1;omega
  have ar:2*(N:Int)+K+2+(ji C i 0:Nat)+(qa C i:Int)=2*(N:Int)+K+2+(ji C (i+1) 0:Nat):=ae;have L:(i:Int)+1=((i+1:Nat):Int):=ae
  try simp only[go_sem]
  rw[ar,w64 (n:=2*(N:Int)+K+2+(ji C (i+1) 0:Nat)) ae ae,w64 (n:=(i:Int)+1) ae ae,L];exact ab () g7 ad (e4.trans (e5.trans (F.trans e7)))
 ·have an:i=N:=ae;subst an;refine⟨?_,E4⟩
  congr 1
end
end
end Go.Proofs.YtjljhnandbbldaaGreatDoor
namespace Go.Proofs.YtjljhnandbbldaaGreatDoor
open Go Go.Crisp
attribute [local irreducible] ag df aW stK aF vK qK bJ gK eK aZ mkK di Fi GM CF bsK clK ud oA V2
section
def BH (a b:Nat):List Int:=(List.range' a (b-a)).map λi:Nat=>(i:Int)
theorem XE {a b:Nat}(h:a≤b):BH a (b+1)=BH a b++[(b:Int)]:=by
 unfold BH;rw[show b+1-a=(b-a)+1 by omega,List.range'_concat,iD]
 congr 1
 simp;omega
theorem Tn {a b:Nat}(h:a<b):BH a b=(a:Int)::BH (a+1) b:=by
 unfold BH;rw[show b-a=(b-(a+1))+1 by omega,List.range'_succ];rfl
theorem Pl {a b:Nat}:BH a b=[]↔b≤a:=by
 unfold BH;simp;omega
def mO (K:Nat)(f:Nat→Nat):Nat:=((List.range K).map f).sum
theorem p9 (K:Nat)(f:Nat→Nat):mO (K+1) f=mO K f+f K:=by simp[mO,lU]
theorem Ip {K:Nat}{f g:Nat→Nat}(h:∀i,i<K→f i=g i):mO K f=mO K g:=by
 unfold mO
 congr 1
 exact K6 λi hi=>h i (xy.1 hi)
theorem SB {f g:Nat→Nat}{k:Nat}(h:∀i,i≠k→g i=f i):∀K,k<K→mO K g+f k=mO K f+g k:=by
 intro K;induction K with
 |zero=>intro D;omega
 | succ K A=>
  intro D;rw[p9,p9];by_cases e:k=K
  ·subst e;rw[Ip (f:=g) (g:=f) λi hi=>h i ae];omega
  ·have:=A ae;rw[h K ae];omega
def kg (w:WD):Nat:=if w.state=2 then 1 else 0
theorem RY (K:Nat)(ws:Nat→WD):mO K (λk=>kg (ws k))≤K:=by
 induction K with
 |zero=>exact bU _
 |succ K A=>rw[p9];unfold kg at A ⊢;split<;>omega
theorem MZ {K:Nat}{ws:Nat→WD}(h:mO K (λk=>kg (ws k))=K):∀k,k<K→(ws k).state=2:=by
 induction K with
 |zero=>intro k D;omega
 | succ K A=>
  rw[p9]at h;have h1:=RY K ws;have F:kg (ws K)≤1:=by unfold kg;split<;>omega
  intro k D;by_cases e:k=K
  ·subst e;have:kg (ws k)=1:=ae;unfold kg at this;split at this
   ·assumption
   ·omega
  ·exact A ae k ae
def qC (C:C21)(w:WD)(n:Pic):Prop:=
 ∀x y c,inP n x y c→∀i∈w.tiles,MU (aT C.d i) x y→(∀t yy e,w.job=some (t,yy,e)→i=w.tiles.getLast?.getD 0→y<yy)→atP n x y c=xp C.m C.d.s x y c
structure kJ (C:C21)(K N tk:Nat)(P:cg)(n:Pic):Prop where
 ok:lZ C K P
 nn:(N:Int)=bX C.d
 sn:(tk:Int)≤P.sent
 ql:P.q.l=BH tk P.sent.toNat
 rm:1≤P.q.room
 cov:∀x:Nat,x<tk→∃k,k<K∧(x:Int)∈(P.ws k).tiles
 gone:∀k,k<K→(P.ws k).state=2→P.q.l=[]∧P.q.closed=true
 cnt:P.left.length=mO K λk=>kg (P.ws k)
 rt:P.ret=true→P.q.closed=true∧P.left.length=K
 rem:P.picks+((N-P.sent.toNat)+(if P.q.closed=true then 0 else 1)+(if P.ret=true then 0 else 1)+(N-tk)+ji C (N-tk) tk+mO K (λk=>muJ C.E (P.ws k).job)+(K-P.left.length):Nat)=(2*N+K+2+ji C N 0:Nat)
 paint:∀k,k<K→qC C (P.ws k) n
theorem Ld (C:C21)(K:Nat)(P:cg)(k:Nat):(rj C K P k).q=(jn C P k).q∧(rj C K P k).ws=(jn C P k).ws∧(rj C K P k).words=(jn C P k).words∧(rj C K P k).sent=P.sent∧(rj C K P k).ret=P.ret∧(rj C K P k).picks=P.picks∧(rj C K P k).left.length=P.left.length+if(evP C P k).1=3 then 1 else 0:=by
 unfold rj;split
 ·rename_i h;rw[h];exact⟨rfl,rfl,rfl,rfl,rfl,rfl,rfl⟩
 ·split
  ·rename_i h1 A;rw[az ae];unfold yW;split<;>exact⟨rfl,rfl,rfl,rfl,rfl,rfl,rfl⟩
  ·split
   ·refine⟨rfl,rfl,rfl,rfl,rfl,rfl,?_⟩;show(P.left++[_]).length=_;simp
   ·exact⟨rfl,rfl,rfl,rfl,rfl,rfl,rfl⟩
section
variable {C:C21}{K N tk:Nat}{P:cg}{n n':Pic}
theorem Y6 (H:kJ C K N tk P n)(h1:gI C K P 0=true):kJ C K N tk (kT C K P 0) n:=by
 have A:=VY H.ok 0;have hs:=H.ok.sent;have hn:=H.nn;have aa:=H.sn;have G:=H.rem;have D:P.ret=false:=by
  unfold gI at h1;rw[az ae,az ae]at h1;split at h1
  ·cases h1
  ·rename_i h;simpa using h
 rw[D]at G;have I:(if P.sent<bX C.d then decide (rG P.q≠1)else !P.q.closed||decide (P.left.length=K))=true:=by
  unfold gI at h1;rw[az ae,az ae,D]at h1;simpa using h1
 have e:kT C K P 0=JH C K {P with picks:=P.picks+1}:=by
  unfold kT;rw[h1,az (by simp),aA rfl]
 rw[e]at A ⊢;unfold JH at A ⊢;by_cases g:P.sent<bX C.d
 ·have hc:P.q.closed=false:=by
   cases h:P.q.closed with
   |false=>rfl
   |true=>have:=H.ok.cl h;omega
  rw[aA g]at A I ⊢;have F:rG P.q≠1:=by simpa using I
  have hq:kD P.q P.sent={P.q with l:=P.q.l++[P.sent]}:=by
   unfold rG at F;unfold kD;rw[hc]at F ⊢;simp only[gF,cF]at F ⊢;split at F
   ·exact absurd rfl F
   ·rename_i h;rw[az h];simp[hc]
  have L:(P.sent+1).toNat=P.sent.toNat+1:=ae;have U:((P.sent.toNat:Nat):Int)=P.sent:=ae;refine⟨A,H.nn,by show(tk:Int)≤P.sent+1;omega,?_,?_,H.cov,λk W h=>?_,H.cnt,λh=>?_,?_,H.paint⟩
  ·show(kD P.q P.sent).l=BH tk (P.sent+1).toNat;rw[hq,L,XE ae,←H.ql,U]
  ·show 1≤(kD P.q P.sent).room;rw[hq];exact H.rm
  ·have:=(H.gone k W h).2;rw[hc]at this;cases this
  ·have h:P.ret=true:=h;rw[D]at h;cases h
  ·show P.picks+1+((N-(P.sent+1).toNat)+(if(kD P.q P.sent).closed=true then 0 else 1)+(if P.ret=true then 0 else 1)+(N-tk)+ji C (N-tk) tk+mO K (λk=>muJ C.E (P.ws k).job)+(K-P.left.length):Nat)=(2*N+K+2+ji C N 0:Nat);rw[hq,D,hc];rw[hc]at G;simp only[gF,cF]at G ⊢;omega
 ·rw[az g]at A I ⊢;cases hc:P.q.closed with
  | false=>
   rw[hc]at A G;rw[aA rfl]at A ⊢;refine⟨A,H.nn,H.sn,H.ql,H.rm,H.cov,λk W h=>?_,H.cnt,λh=>?_,?_,H.paint⟩
   ·have:=(H.gone k W h).2;rw[hc]at this;cases this
   ·have h:P.ret=true:=h;rw[D]at h;cases h
   ·show P.picks+1+((N-P.sent.toNat)+(if true=true then 0 else 1)+(if P.ret=true then 0 else 1)+(N-tk)+ji C (N-tk) tk+mO K (λk=>muJ C.E (P.ws k).job)+(K-P.left.length):Nat)=(2*N+K+2+ji C N 0:Nat);rw[D];simp only[gF,cF,cJ]at G ⊢;omega
  |true=>
   rw[hc]at A G I;rw[az (by simp)]at A ⊢;have hl:P.left.length=K:=by simpa using I
   refine⟨A,H.nn,H.sn,H.ql,H.rm,H.cov,H.gone,H.cnt,λ_=>⟨hc,hl⟩,?_,H.paint⟩;show P.picks+1+((N-P.sent.toNat)+(if P.q.closed=true then 0 else 1)+(if true=true then 0 else 1)+(N-tk)+ji C (N-tk) tk+mO K (λk=>muJ C.E (P.ws k).job)+(K-P.left.length):Nat)=(2*N+K+2+ji C N 0:Nat);rw[hc];simp only[gF,cF,cJ]at G ⊢;omega
theorem qC.keep {w:WD}(H:qC C w n)(D:eo n n')(k:∀x y c,inP n x y c→atP n x y c=xp C.m C.d.s x y c→atP n' x y c=xp C.m C.d.s x y c):qC C w n':=
 λx y c hi i h1 A F=>k x y c (D.inP.1 hi) (H x y c (D.inP.1 hi) i h1 A F)
theorem PF {w:WD}(D:Cv (some C.E) w n n'):∀x y c,inP n x y c→atP n x y c=xp C.m C.d.s x y c→atP n' x y c=xp C.m C.d.s x y c:=by
 intro x y c hi h;obtain⟨I,A⟩:=D;cases G:w.job with
 |none=>rw[G]at A;rw[A];exact h
 | some j=>
  obtain⟨t,H,e⟩:=j;rw[G]at A;obtain⟨_,_,d1,d2⟩:=A;by_cases F:cj (C.E.d t) H e=2
  ·rw[d2 F x y c hi];split
   ·rfl
   ·exact h
  ·rw[d1 F];exact h
theorem qC.move (O:C.Ok){w:WD}{t:cZ}{y e:Int}(hj:w.job=some (t,y,e))(h0:0≤w.tiles.getLast?.getD 0)(h1:w.tiles.getLast?.getD 0<bX C.d)(ht:t=aT C.d (w.tiles.getLast?.getD 0))(su:C.suits n)(H:qC C w n)(D:Cv (some C.E) w n n'){w':WD}(ab:w'.tiles=w.tiles)(ad:w'.job=cH (some C.E) (some (t,gi (C.E.d t) y e,iB (C.E.d t) y e))):qC C w' n':=by
 have W:=PF D;obtain⟨D1,D2⟩:=D;rw[hj]at D2;obtain⟨O1,O2,d1,d2⟩:=D2;have hr:=(C21.newC O su h0 h1)
 have RO:=O.s.room (m:=C.m) (n:=n) (t:=t) O.m (by rw[ht];exact hr);intro U L c' hi i aa A hl;rw[ab]at aa hl;rw[ad]at hl;have F:inP n U L c':=D1.inP.1 hi;by_cases I:i=w.tiles.getLast?.getD 0
 ·rw [I,←ht]at A;have hy:L<gi (C.E.d t) y e:=by
   by_cases h0:cj (C.E.d t) (gi (C.E.d t) y e) (iB (C.E.d t) y e)=0
   ·unfold cj at h0;split at h0
    ·rename_i h1;have h1:t.y+t.h≤gi (C.E.d t) y e:=h1;unfold MU at A;omega
    ·split at h0<;>omega
   ·exact hl t _ _ (az h0) I
  rcases mU L y with h2|h2
  ·exact W U L c' F (H U L c' F i aa (by rw[I,←ht];exact A) λt2 yy e2 h3 _=>by rw[hj]at h3;cases h3;exact h2)
  ·have hK:cj (C.E.d t) y e=2:=by
    unfold gi at hy;split at hy
    ·assumption
    ·omega
   have hY:gi (C.E.d t) y e=y+1:=aA hK;have ey:L=y:=ae;rw[d2 hK U L c' F,aA];refine⟨ey,A.1,A.2.1,?_⟩;have G:=RO.wid;have G:(gP (t.w*C.m.c):Int)=t.w*C.m.c:=G;rw[G];show(U-t.x)*C.m.c+c'<t.w*C.m.c;have hc:c'<C.m.c:=by have:=F.2.2.2.2.2;rw[←su.2.2.2.2.1];exact this
   have hx:=A.2.1;have:(U-t.x+1)*C.m.c≤t.w*C.m.c:=sK ae (by have:=F.2.2.2.2.1;omega);rw[jw,kp]at this;omega
 ·exact W U L c' F (H U L c' F i aa A λt2 yy e2 _ h3=>absurd h3 I)
theorem qC.take (O:C.Ok){w:WD}{x:Int}(h0:0≤x)(h1:x<bX C.d)(hj:w.job=none)(H:qC C w n){w':WD}(I:w'.tiles=w.tiles++[x])(L:w'.job=cH (some C.E) (C.jo x)):qC C w' n:=by
 intro x' y' c' hi i D A G;rw[I]at D G;rw[L]at G;by_cases F:i=x
 ·subst F;have hw:=kR O.d h0 h1;have U:cj (C.E.d (aT C.d i)) (aT C.d i).y (lnF C.d.s.y (aT C.d i).y)≠0:=by
   unfold cj;rw[az (by show¬(aT C.d i).y+(aT C.d i).h≤(aT C.d i).y;unfold fj at hw;omega)];split<;>omega
  have hs:cH (some C.E) (C.jo i)=C.jo i:=az U;rw[hs]at G;have:=G _ _ _ rfl (by simp);unfold MU at A;omega
 ·rcases gS.1 D with h|h
  ·exact H x' y' c' hi i h A λt yy e W _=>by rw[hj]at W;cases W
  ·exact absurd (ib.1 h) F
end
end
section
section
variable {C:C21}{K N tk:Nat}{P:cg}{n n':Pic}
theorem YD (K:Nat):mO K (λ_=>1)=K:=by
 induction K with
 |zero=>rfl
 |succ K A=>rw[p9,A]
theorem FF (K:Nat):mO K (λ_=>0)=0:=by
 induction K with
 |zero=>rfl
 |succ K A=>rw[p9,A]
theorem Yy (O:C.Ok)(H:kJ C K N tk P n){k:Nat}(hk:k<K)(h1:gI C K P ((k:Int)+1)=true)(bc:∀t y e,(P.ws k).job=some (t,y,e)→e≤lnE C.d.s.y y)(su:C.suits n)(D:Cv (some C.E) (P.ws k) n n'):∃a9,kJ C K N a9 (kT C K P ((k:Int)+1)) n':=by
 have ab:=VY H.ok ((k:Int)+1);have ek:((k:Int)+1-1).toNat=k:=ae;have au:kT C K P ((k:Int)+1)=rj C K {P with picks:=P.picks+1} k:=by
  unfold kT;rw[h1,az (by simp),az ae,ek]
 rw[au]at ab ⊢
 clear au
 obtain⟨f1,f2,f3,f4,f5,f6,f7⟩:=Ld C K {P with picks:=P.picks+1} k;generalize rj C K {P with picks:=P.picks+1} k=Q at ab f1 f2 f3 f4 f5 f6 f7 ⊢;have f4:Q.sent=P.sent:=f4;have f5:Q.ret=P.ret:=f5;have f6:Q.picks=P.picks+1:=f6;have f1:Q.q=(cL (some C.E) (C.jo (ce P.q)) (P.ws k) P.q).2.1:=f1;have f2:Q.ws=λi=>if i=k then(cL (some C.E) (C.jo (ce P.q)) (P.ws k) P.q).1 else P.ws i:=f2
 have f7:Q.left.length=P.left.length+if(cL (some C.E) (C.jo (ce P.q)) (P.ws k) P.q).2.2.1=3 then 1 else 0:=f7
 have hs:=H.ok.sent;have hn:=H.nn;have ax:=H.sn;have hr:=H.rem;have Wk:=H.ok.w k hk;have ay:(P.ws k).state=1∨((P.ws k).state=0∧dE P.q≠1):=by
  unfold gI at h1;split at h1
  ·cases h1
  ·rw[aA ae,ek]at h1;simpa using h1
 have U:∀(f:WD→Nat),mO K (λi=>f (Q.ws i))+f (P.ws k)=mO K (λi=>f (P.ws i))+f (cL (some C.E) (C.jo (ce P.q)) (P.ws k) P.q).1:=λf=>by
  have:=SB (f:=λi=>f (P.ws i)) (g:=λi=>f (Q.ws i)) (k:=k) (λi hi=>by rw[f2];simp only[az hi]) K hk;rw[f2]at this ⊢;simp only[cJ]at this;exact this
 have F:∀j,j<K→j≠k→Q.ws j=P.ws j:=λj _ h=>by rw[f2];simp only[az h]
 have A:Q.ws k=(cL (some C.E) (C.jo (ce P.q)) (P.ws k) P.q).1:=by rw[f2];simp only[cJ]
 have aw:=PF D;have pO:∀j,j<K→j≠k→qC C (Q.ws j) n':=λj hj h=>by rw[F j hj h];exact(H.paint j hj).keep D.1 aw
 rcases Wk.st with⟨s1,s2,s3⟩|⟨s1,s2⟩
 ·-- it moves
  cases hj:(P.ws k).job with
  |none=>rw[hj]at s2;exact(show False from s2).elim
  | some jj=>
   obtain⟨t,y,e⟩:=jj;rw[hj]at s2;have s2:cj (C.E.d t) y e≠0:=s2;have es:cL (some C.E) (C.jo (ce P.q)) (P.ws k) P.q=(⟨stJ (cH (some C.E) (some (t,gi (C.E.d t) y e,iB (C.E.d t) y e))),(P.ws k).tiles,cH (some C.E) (some (t,gi (C.E.d t) y e,iB (C.E.d t) y e)),(P.ws k).words⟩,P.q,(2,(P.ws k).tiles.getLast?.getD 0,cj (C.E.d t) y e,iA (C.E.d t) y e)):=by
    unfold cL;rw[aA s1,hj]
   rw[es]at f1 f7 A U;have f1:Q.q=P.q:=f1;have f7:Q.left.length=P.left.length:=by rw[f7];simp
   have hl:=Wk.tl _ (Ty s3);obtain⟨j1,j2⟩:=Wk.jb t y e hj;have al:=U λw=>muJ C.E w.job
   have ad:=U kg;have g0:kg (P.ws k)=0:=by unfold kg;rw[az ae]
   have gs:∀jo,kg ⟨stJ jo,(P.ws k).tiles,jo,(P.ws k).words⟩=0:=λjo=>by unfold kg;rw[az];cases jo with|none=>exact(by decide:¬(0:Int)=2)|some x=>exact(by decide:¬(1:Int)=2)
   simp only[Pm,hj]at al;have bv:muJ C.E (some (t,y,e))=rV (C.E.d t) y e:=rfl;have b0:=XN (d:=C.E.d t) s2 (bc t y e hj);simp only[gs,g0]at ad;refine⟨tk,ab,H.nn,by rw[f4];exact ax,by rw[f1,f4];exact H.ql,by rw[f1];exact H.rm,λx hx=>?_,λj G h=>?_,by rw[f7,H.cnt];omega,λh=>by rw[f5]at h;rw[f1,f7];exact H.rt h,?_,λj G=>?_⟩
   ·obtain⟨j,aa,W⟩:=H.cov x hx;refine⟨j,aa,?_⟩;by_cases I:j=k
    ·subst I;rw[A];exact W
    ·rw[F j aa I];exact W
   ·rw[f1];by_cases I:j=k
    ·subst I;rw[A]at h;have:=gs (cH (some C.E) (some (t,gi (C.E.d t) y e,iB (C.E.d t) y e)));unfold kg at this;rw[aA h]at this;omega
    ·rw[F j G I]at h;exact H.gone j G h
   ·rw[f1,f4,f5,f6,f7];omega
   ·by_cases e':j=k
    ·subst e';exact qC.move O hj hl.1 ae j1 su (H.paint j G) D (by rw[A]) (by rw[A])
    ·exact pO j G e'
 ·have s0:(P.ws k).state=0∧dE P.q≠1:=by
   rcases ay with h|h
   ·omega
   ·exact h
  have bd:n'=n:=by
   obtain⟨_,D2⟩:=D;rw[s2]at D2;exact D2
  subst bd;have g0:kg (P.ws k)=0:=by unfold kg;rw[az ae]
  have m0:muJ C.E (P.ws k).job=0:=by rw[s2];rfl
  by_cases L:dE P.q=0
  ·-- it wg a tile
   have ar:P.q.l≠[]:=λh=>by unfold dE at L;rw[aA h]at L;split at L<;>omega
   have a7:tk<P.sent.toNat:=by
    rw[H.ql]at ar;exact Nat.lt_of_not_le λh=>ar (Pl.2 h)
   have hx:ce P.q=(tk:Int):=by unfold ce;rw[H.ql,Tn a7];rfl
   have es:cL (some C.E) (C.jo (ce P.q)) (P.ws k) P.q=(Ds (some C.E) (P.ws k) (ce P.q) (C.jo (ce P.q)),pR P.q,(1,ce P.q,0,0)):=by
    unfold cL;rw[az ae,az ae,aA L]
   rw[es]at f1 f7 A U;have f1:Q.q=pR P.q:=f1;have f7:Q.left.length=P.left.length:=by rw[f7];simp
   have bg:(pR P.q).l=BH (tk+1) P.sent.toNat:=by
    unfold pR;show P.q.l.tail=_;rw[H.ql,Tn a7];rfl
   have ad:=U kg;have al:=U λw=>muJ C.E w.job
   have gs:∀jo wd tl,kg ⟨stJ jo,tl,jo,wd⟩=0:=λjo wd tl=>by unfold kg;rw[az];cases jo with|none=>exact(by decide:¬(0:Int)=2)|some x=>exact(by decide:¬(1:Int)=2)
   have g1:kg (Ds (some C.E) (P.ws k) (ce P.q) (C.jo (ce P.q)))=0:=gs _ _ _;have m1:muJ C.E (Ds (some C.E) (P.ws k) (ce P.q) (C.jo (ce P.q))).job=qa C tk:=by
    rw[hx];show muJ C.E (cH (some C.E) (some ((aT C.d tk),(aT C.d tk).y,lnF C.d.s.y (aT C.d tk).y)))=_;rw[Pm];rfl
   have b3:ji C (N-tk) tk=qa C tk+ji C (N-(tk+1)) (tk+1):=by
    rw[show N-tk=(N-(tk+1))+1 by omega];rfl
   have a8:(Ds (some C.E) (P.ws k) (ce P.q) (C.jo (ce P.q))).tiles=(P.ws k).tiles++[ce P.q]:=rfl;simp only[m0,m1]at al;simp only[g0,g1]at ad;refine⟨tk+1,ab,H.nn,by rw[f4];omega,by rw[f1,f4];exact bg,by rw[f1];exact H.rm,λx b1=>?_,λj G h=>?_,by rw[f7,H.cnt];omega,λh=>by rw[f5]at h;rw[f1,f7];exact H.rt h,?_,λj G=>?_⟩
   ·by_cases ex:x=tk
    ·refine⟨k,hk,?_⟩;rw[A,a8,hx,ex];simp
    ·obtain⟨j,aa,W⟩:=H.cov x ae;refine⟨j,aa,?_⟩;by_cases I:j=k
     ·subst I;rw[A,a8];exact KH _ W
     ·rw[F j aa I];exact W
   ·by_cases I:j=k
    ·subst I;rw[A]at h;unfold kg at g1;rw[aA h]at g1;omega
    ·rw[F j G I]at h;exact absurd (H.gone j G h).1 ar
   ·rw[f1,f4,f5,f6,f7];have bk:(pR P.q).closed=P.q.closed:=rfl;rw[bk];omega
   ·by_cases e':j=k
    ·subst e';exact qC.take O (x:=ce P.q) (by rw[hx];omega) (by rw[hx];omega) s2 (H.paint j G) (by rw[A];rfl) (by rw[A];rfl)
    ·exact pO j G e'
  ·-- it leaves
   have an:dE P.q=2:=by
    have:=s0.2;unfold dE at this L ⊢;split
    ·rename_i h;rw[aA h]at this L;split<;>simp_all
    ·rename_i h;rw[az h]at L;exact absurd rfl L
   have hq:P.q.l=[]∧P.q.closed=true:=by
    unfold dE at an;split at an
    ·rename_i h;refine⟨h,?_⟩;split at an
     ·assumption
     ·omega
    ·omega
   have be:pR P.q=P.q:=by
    unfold pR;rw[hq.1];cases h:P.q;rw[h]at hq
    simp_all
   have es:cL (some C.E) (C.jo (ce P.q)) (P.ws k) P.q=({P.ws k with state:=2},pR P.q,(3,0,0,0)):=by
    unfold cL;rw[az ae,az ae,az L,aA an]
   rw[es]at f1 f7 A U;have f1:Q.q=P.q:=by rw[f1];exact be
   have f7:Q.left.length=P.left.length+1:=by rw[f7];simp
   have ad:=U kg;have al:=U λw=>muJ C.E w.job
   have g1:kg {P.ws k with state:=2}=1:=rfl;have gl:=RY K Q.ws;simp only[m0,s2]at al;simp only[g0,g1]at ad;have b2:muJ C.E none=0:=rfl;have bo:=H.cnt;refine⟨tk,ab,H.nn,by rw[f4];exact ax,by rw[f1,f4];exact H.ql,by rw[f1];exact H.rm,λx hx=>?_,λj G h=>by rw[f1];exact hq,by rw[f7,H.cnt];omega,λh=>?_,?_,λj G=>?_⟩
   ·obtain⟨j,aa,W⟩:=H.cov x hx;refine⟨j,aa,?_⟩;by_cases I:j=k
    ·subst I;rw[A];exact W
    ·rw[F j aa I];exact W
   ·rw[f5]at h;have:=(H.rt h).2;have:=RY K P.ws;omega
   ·rw[f1,f4,f5,f6,f7];omega
   ·by_cases e':j=k
    ·subst e';have hp:=H.paint j G;rw[A];exact hp
    ·exact pO j G e'
theorem YS (O:C.Ok)(H:kJ C K N tk P n){i:Int}(G:∀k,k<K→∀t y e,(P.ws k).job=some (t,y,e)→e≤lnE C.d.s.y y)(su:C.suits n)(D:Xh C K P i n n'):∃F,kJ C K N F (kT C K P i) n':=by
 unfold Xh at D;by_cases A:gI C K P i=true
 ·by_cases h0:i=0
  ·rw[az (λh=>h.2 h0)]at D;subst h0 D;exact⟨tk,Y6 H A⟩
  ·rw[aA ⟨A,h0⟩]at D;have hi:0<i∧i≤K:=by
    unfold gI at A;split at A
    ·cases A
    ·omega
   obtain⟨k,rfl⟩:∃k:Nat,i=(k:Int)+1:=⟨(i-1).toNat,ae⟩
   rw[show((k:Int)+1-1).toNat=k by omega]at D;exact Yy O H ae A (G k ae) su D
 ·rw[az (λh=>A h.1)]at D;subst D;refine⟨tk,?_⟩;have:kT C K P i=P:=by unfold kT;rw[aA (by simpa using A)]
  rw[this];exact H
theorem YE (H:kJ C K N tk P n)(hK:1≤K)(hr:P.ret=false):∃i:Nat,i≤K∧gI C K P (i:Int)=true:=by
 have hs:=H.ok.sent;have wk:∀k,k<K→((P.ws k).state=1∨((P.ws k).state=0∧dE P.q≠1))→∃i:Nat,i≤K∧gI C K P (i:Int)=true:=λk A h=>by
  refine⟨k+1,ae,?_⟩;unfold gI;rw[az ae,aA ae,show(((k+1:Nat):Int)-1).toNat=k by omega];exact cP h
 have G:(if P.sent<bX C.d then decide (rG P.q≠1)else !P.q.closed||decide (P.left.length=K))=true→∃i:Nat,i≤K∧gI C K P (i:Int)=true:=λh=>by
  refine⟨0,ae,?_⟩;unfold gI;rw[az ae,az ae,az (by rw[hr];simp)];exact h
 by_cases g:P.sent<bX C.d
 ·by_cases F:rG P.q=1
  ·have D:P.q.l≠[]:=λh=>by
    unfold rG at F;split at F
    ·omega
    ·split at F
     ·rename_i hh;rw[h]at hh;have:=H.rm;simp only[kr]at hh;omega
     ·omega
   have W:dE P.q=0:=az D;rcases(H.ok.w 0 ae).st with h|⟨h|h,_⟩
   ·exact wk 0 ae (.inl h.1)
   ·exact wk 0 ae (.inr ⟨h,ae⟩)
   ·exact absurd (H.gone 0 ae h).1 D
  ·exact G (by rw[aA g];exact cP F)
 ·cases hc:P.q.closed with
  |false=>exact G (by rw[az g,hc];rfl)
  | true=>
   by_cases U:P.left.length=K
   ·exact G (by rw[az g,hc];simpa using U)
   ·have:∃k,k<K∧(P.ws k).state≠2:=Rc λh=>U (by
     rw[H.cnt];have:∀k,k<K→kg (P.ws k)=1:=λk A=>by
      unfold kg;rw[aA (Rc λI=>h ⟨k,A,I⟩)]
     rw[Ip (g:=λ_=>1) this,YD])
    obtain⟨k,A,I⟩:=this;have L:dE P.q≠1:=by
     unfold dE;rw[hc];split<;>simp
    rcases(H.ok.w k A).st with h|⟨h|h,_⟩
    ·exact wk k A (.inl h.1)
    ·exact wk k A (.inr ⟨h,L⟩)
    ·exact absurd h I
theorem WF (O:C.Ok)(H:kJ C K N tk P n)(su:C.suits n)(hK:1≤K)(W:P.ret=true):n.l=(Ce C.m C.d.s).l∧P.picks=(2*N+K+2+ji C N 0:Nat)∧tk=N:=by
 obtain⟨h1,h2⟩:=H.rt W;have hs:=H.ok.cl h1;have U:=H.cnt;have D:=MZ (K:=K) (ws:=P.ws) ae;have hn:=H.nn;have A:=H.rem;have F:∀k,k<K→(P.ws k).job=none:=λk G=>by
  rcases(H.ok.w k G).st with h|h
  ·have:=D k G;omega
  ·exact h.2
 have L:mO K (λk=>muJ C.E (P.ws k).job)=0:=by
  rw[Ip (g:=λ_=>0) λk G=>by rw[F k G];rfl,FF]
 have I:tk=N:=by
  have:=(H.gone 0 ae (D 0 ae)).1;rw[H.ql]at this;have:=Pl.1 this;have:=H.sn;omega
 refine⟨?_,?_,I⟩
 ·refine S9 O H.nn (λx y c hi i aa ht _=>?_) su;obtain⟨k,G,hm⟩:=H.cov i ae;exact H.paint k G x y c hi i hm ht λt yy e h _=>by rw[F k G]at h;cases h
 ·rw[I,L,h1,W]at A;simp only[cJ]at A;have e0:ji C (N-N) N=0:=by rw[Rg];rfl
  rw[e0]at A;omega
end
end
end Go.Proofs.YtjljhnandbbldaaGreatDoor
namespace Go.Proofs.YtjljhnandbbldaaGreatDoor
open Go Go.Crisp
attribute [local irreducible] ag df aW stK aF vK qK bJ gK eK aZ mkK di Fi GM CF bsK clK ud oA V2
open _root_.Go.Proofs.Tryz
section
def GoP (C:C21)(Z:Nat→Prop)(K N:Nat)(h0:ah)(bw:Nat→Nat)(bp:Nat)(o:Nat→Nat)(n:Pic)(P:cg)(h:ah):Prop:=fR C Z K h0 bw bp o n P h∧∃tk,kJ C K N tk P n
theorem KA {C:C21}{K:Nat}{P:cg}{k:Nat}{x:Int}:x∈sI C K P k↔ ∃i:Nat,i<k∧x=(i:Int)∧gI C K P x=true:=by
 unfold sI;rw[List.mem_filter,iG];constructor
 ·rintro⟨⟨i,hi,rfl⟩,h⟩;exact⟨i,xy.1 hi,rfl,h⟩
 ·rintro⟨i,hi,rfl,h⟩;exact⟨⟨i,xy.2 hi,rfl⟩,h⟩
theorem Pi {C:C21}{K:Nat}{P:cg}{i:Int}(h:gI C K P i=true):(kT C K P i).picks=P.picks+1:=by
 unfold kT;rw[h,az (by simp)];split
 ·unfold JH;split
  ·rfl
  ·split<;>rfl
 ·exact(Ld C K {P with picks:=P.picks+1} (i-1).toNat).2.2.2.2.2.1
section
variable {C:C21}{Z:Nat→Prop}{K N:Nat}{h0 h:ah}{bw:Nat→Nat}{bp:Nat}{o:Nat→Nat}{n:Pic}{P:cg}
theorem GoP.ext {h':ah}(H:GoP C Z K N h0 bw bp o n P h)(e:Ext h h'):GoP C Z K N h0 bw bp o n P h':=⟨H.1.ext e,H.2⟩
theorem GoP.picks (H:GoP C Z K N h0 bw bp o n P h):0≤P.picks∧P.picks≤(2*N+K+2+ji C N 0:Nat):=by
 obtain⟨_,tk,I⟩:=H;have:=I.rem;have:=I.ok.pk;omega
theorem GoP.few (H:GoP C Z K N h0 bw bp o n P h):1≤K∧K≤256∧Ext h0 h∧C.suits n:=by
 obtain⟨⟨V,H⟩,_⟩:=H;exact⟨H.few.1,H.few.2,H.ext,H.sui⟩
theorem K9 (O:C.Ok)(G:eB h0)(H:GoP C Z K N h0 bw bp o n P h){i:Int}(hi:I64 i)(few:2*N+K+2+ji C N 0≤300000)(W:∀c,de (some C.E) c→h0.size≤c):
  ag prog dO #[ptr bp,af i] h λr h'=>r=.bool (gI C K P i)∧∃o' n',GoP C Z K N h0 bw bp o' n' (kT C K P i) h'∧(∀c,c<h.size→o' c=o c)∧Fr (λc=>o c≠0∨de (some C.E) c) h h':=by
 have hp:=H.picks;obtain⟨F,tk,I⟩:=H;have hN:=I.nn;refine(zcZ O G F I.ok hi ae ae W).mono λr h' ⟨L,n',⟨o',a,b,c⟩,D⟩=>?_
 obtain⟨V,B⟩:=F;obtain⟨A,I'⟩:=YS O I (λk U=>(B.ws k U id).job_e) B.sui D;exact⟨L,o',n',⟨a,A,I'⟩,b,c⟩
theorem GoP.runs (H:GoP C Z K N h0 bw bp o n P h)(F:P.ret=false):sI C K P (K+1)≠[]:=by
 have D:=H.few.1;obtain⟨_,tk,I⟩:=H;obtain⟨i,hi,h1⟩:=YE I D F;intro A;have:((i:Nat):Int)∈sI C K P (K+1):=KA.2 ⟨i,ae,rfl,h1⟩;rw[A]at this;cases this
end
end
def LP:Pic:=⟨1,1,1,255,[9]⟩
def ym:OpD:=⟨1,0,0,0,[],[],0,0,0⟩
theorem XS:fu ym 1 1=0∧pH ym 1=1∧nK LP (ch ym 1 1)∧BN (ch ym 1 1).x.lines.length (ch ym 1 1).y.lines.length 1 255=0∧(ch ym 1 1).x.lines.length=1∧(ch ym 1 1).y.lines.length=1∧xp LP (ch ym 1 1) 0 0 0=9∧bX ⟨ch ym 1 1,1,1⟩=1∧yM (ch ym 1 1) (aT ⟨ch ym 1 1,1,1⟩ 0) LP=2:=by
 decide+kernel
theorem at22:atP (Ce LP (ch ym 1 1)) 0 0 0=9:=by decide+kernel
theorem Ph {C:C21}{K N:Nat}{room a b:Int}{n:Pic}(A:(N:Int)=bX C.d):kJ C K N 0 (Gu K room a b) n:=by
 refine⟨YQ ae,A,gC _,rfl,(by show 1≤min (max 1 room) 4096;omega),(λx F=>ae),λk D h=>?_,?_,(λh=>by cases h),?_,(λk D x y c _ i hi=>by cases hi)⟩
 ·have h:(0:Int)=2:=h;omega
 ·show 0=mO K λ_=>0
  rw[FF]
 ·show(0:Int)+((N-0)+1+1+(N-0)+ji C (N-0) 0+mO K (λ_=>0)+(K-0):Nat)=(2*N+K+2+ji C N 0:Nat);rw[FF,y9];omega
theorem zbe {C:C21}{K N tk:Nat}{P:cg}{n:Pic}(O:C.Ok)(H:kJ C K N tk P n)(su:C.suits n)(I:1≤K)(L:P.ret=true):n=Ce C.m C.d.s:=by
 have h:=(WF O H su I L).1;obtain⟨U,A,G,F,D⟩:=su.2;cases n;simp only at h A G F D;subst h A G F D;rfl
theorem Nq {h:ah}(G:eB h):ag prog kl #[] h λr h'=>r=.bool true∧Ext h h':=by
 apply Mb;unfold A2;obtain⟨a1,a2,a3,a4,a5,a6,a7,a8,a9⟩:=XS;have a0:BN 1 1 1 255=0:=by decide+kernel
 refine da (Rp.fill_one rfl) λb1 h1 r1 e1 n1=>?_
 have S1:=Rp.SlC.single (cs:=[.int .u16 9]) r1;have SU:Rp.Sl rU (λ_=>True) h1 (.slice (some ⟨b1,0,none⟩) 1 1) [9]:=⟨_,S1,λ_ _ _=>trivial,λi hi=>by
  have hi:i=0:=by simpa using hi
  subst hi;rfl⟩
 refine(R9 SU a0 rfl (λx hx=>by have:=ib.1 hx;omega)).mono λr h2 ⟨pm,A,bm,vm,bv,I,b4,b8,e2⟩=>?_
 subst A bv;have I:db h2 bm vm LP:=I;have W:LP.Wf:=⟨by decide,by decide,by decide,rfl,λx hx=>by have:=ib.1 hx;show 0≤x∧x≤255;omega⟩
 have E2:=e1.trans e2;have hf:(aM #[ai,ai,ai,ai,(.slice none 0 0),(.slice none 0 0),ai,ai,ai] [(0,1,aH)])=some #[aH,ai,ai,ai,.slice none 0 0,.slice none 0 0,ai,ai,ai]:=rfl;simp only[go_sem,hf,bG];have wf:ym.Wf:=Bt (by simp[I64]);refine(Jd (Z:=λ_=>True) (o:=ym) (G.ext E2) Bu wf (by simp[ym]) (by simp[ym]) (by unfold I64;omega) (by unfold I64;omega)).mono λw h3 ⟨sv,e,e3,_,s2⟩=>?_
 subst e;have HS:=s2 a1;rw[a1];obtain⟨p,q,rfl,hp,hq,al⟩:=jm HS;simp only[go_sem];refine dk (cs:=[p,q,af _]) rfl al rfl λb3 h4 r4 e4 n4=>?_
 have E4:=E2.trans (e3.trans e4);refine ag.to zbI λh5 e5=>?_
 simp only[go_sem];have E5:=E4.trans e5;refine ag.to (Vv (G.ext E5)) λh6 e6=>?_
 have E6:=E5.trans e6;simp only[go_sem,eqT];rw[aU (l:=[p,q,af _]) ((e5.trans e6).row r4) 3 rfl,aj];have OK:Cf (ch ym 1 1):=MF a1 ae (by rw[a2];omega);have s3:=e3.1;have b5:=(e4.trans (e5.trans e6)).1;have I6:=(I.ext (e3.trans (e4.trans (e5.trans e6))))
 have bg:pU (λc=>c<h6.size) h6 (.agg #[p,q,af (ch ym 1 1).border]) (ch ym 1 1):=(HS.ext (e4.trans (e5.trans e6))).mono λc hc _=>hc
 refine(PU (wk:=1) (G.ext E6) I6 W bg OK a3 ⟨I6.lt,λc hc=>I6.ltv hc⟩ (λc hc=>hc) a4).mono λr h7 ⟨_,_,hM⟩=>?_
 obtain⟨bp,C,Z,bw,o,A,k1,k2,k3,CO,HP,an,e7,b7,_⟩:=hM (by unfold fm;omega) 1 rfl ae;subst A;have ct:bX C.d=1:=by rw[k2];exact a8
 have st:ji C 1 0=2:=by
  have:qa C (0:Nat)=yM C.d.s (aT C.d 0) C.m:=rfl;show qa C (0:Nat)+0=2;rw[this,k1,k2];exact a9
 have GP:GoP C Z 1 1 h6 bw bp o _ _ h7:=⟨HP,0,Ph (by rw[ct];rfl)⟩
 have pn:ak .p .eql (ptr bp) (.pointer none)=some (.bool false):=rfl;simp only[go_sem,eqT,pn];refine ag.to (Ub CO GP.1 (N:=1) (by rw[ct];rfl) ae ae) λh8 e8=>?_
 rw[st];have n7:ak .i .neq (af ((2*1+1+2+2:Nat):Int)) (af 7)=some (.bool false):=rfl;simp only[go_sem,n7];have aa:=GP.ext e8;refine ag.at (If aa.1) ?_;have n2:ak .i .neq (af ((1+1:Nat):Int)) (af 2)=some (.bool false):=rfl;simp only[go_sem,n2];have E8:=E6.trans (e7.trans e8);refine bH (α:=Unit) 7 0 (λi _=>[af (i:Int)]) (λi _ g=>∃o n P,GoP C Z 1 1 h6 bw bp o n P g∧P.picks=(i:Int)) () rfl (bZ _) ⟨o,_,_,aa,rfl⟩ λi _ g again ρ _ hi ⟨o',n',H,F,bd⟩ bo=>?_
 simp only[gX];rw[cq,aj];refine ao (λg1=>?_) (λg1=>?_)
 ·have hr:H.ret=false:=by
   cases h:H.ret with
   |false=>rfl
   |true=>
    have su:=F.few.2.2.2;obtain⟨_,tk,J⟩:=F;have:=(WF CO J su ae h).2.1;omega
  refine(JV CO F.1).mono λrv g2 NR=>?_
  have e9:=NR.2.1;have H2:=F.ext e9;have aw:=H2.runs hr;generalize hL:sI C 1 H (1+1)=L at NR aw;have b0:L.length≠0:=λh=>aw (mX h)
  obtain⟨ar,cr,A⟩:=NR.1.sl.isSl;have bk:aD rv=some (af (L.length:Int)):=by rw[A];rfl
  have b2:L.length≤2:=by rw[←hL];exact Gp _ _ _ _
  have l0:ak .i .eql (af (L.length:Int)) ai=some (.bool false):=by rw[mu,cB ae]
  obtain⟨p0,c1,c2⟩:=NR.1.sl.int_at (k':=.i64) (i:=0) (show 0<L.length by omega);have c1:bu 1 rv ai=some p0:=c1;simp only[go_sem,bk,l0,c1,c2];have ad:L[0]∈sI C 1 H (1+1):=by rw[hL];exact cQ _
  obtain⟨j,hj,ej,U⟩:=KA.1 ad;refine(K9 CO (G.ext E6) H2 (by unfold I64;omega) ae an).mono λr g3 ⟨A,o3,n3,H3,b6,f3⟩=>?_
  rw[U]at A;subst A;have bc:(i:Int)+1=((i+1:Nat):Int):=ae;simp only[go_sem];rw[w64 (n:=(i:Int)+1) ae ae,bc];exact bo () g3 ae ⟨o3,n3,_,H3,by rw[Pi U];omega⟩
 ·have ax:i=7:=ae;have hF:=F.few;obtain⟨ay,tk,J⟩:=F;have D:=J.rem;have hr:H.ret=true:=by
   cases h:H.ret with
   |true=>rfl
   |false=>
    rw[h,bd,ax,st]at D;simp only[gF,cF]at D;omega
  have en:=zbe CO J hF.2.2.2 ae hr;rw[k1,k2]at en;refine(R8 ay).mono λr g2 au=>?_
  rcases au with⟨h0,_⟩|⟨_,p2,A,bn,vn,ep,I2,_,_,e9⟩
  ·rw[hr]at h0;cases h0
  ·subst A ep;have be:ak .p .neq (ptr bn) (.pointer none)=some (.bool true):=rfl;have ab:=hF.2.2.2.1;rw[en]at I2 ab;simp only[go_sem,be];refine ag.at (zbN I2 ab) ?_;rw[show atP (Ce LP (⟨ch ym 1 1,1,1⟩:dn).s) 0 0 0=9 from at22];simp only[go_sem,eqT,gm];exact⟨trivial,E6.trans (hF.2.2.1.trans e9)⟩
structure Bg22 (h6:ah)(a:sT)(o:OpD)(bf:Nat)(vf sv rv:Value)(Z1:Nat→Prop)(h':ah):Prop where
 ok:OV a o
 ext:Ext h6 h'
 img:db h' bf vf (em a)
 nb:h6.size≤bf∧∀c,blk vf c→h6.size≤c
 st:Rp.Sl D8 Z1 h' sv [bgS a o]
 rf:Rp.Sl xm Z1 h' rv [bgS a o]
 zl:∀c,Z1 c→h6.size≤c∧c<h'.size
theorem zbQ {F:ah}(G:eB F){Z1 Z2:Nat→Prop}{cs os:List Value}{a:sT}{o:OpD}(H:nT.R Z1 F cs a)(WA:a.Wf)(HO:rOp.R Z2 F os o)(WO:Ej [o]){b1 b3:Nat}{t1 t3:TypeId}(r1:F[b1]? =some (.cells cs.toArray t1 (0,0)))(r3:F[b3]? =some (.cells os.toArray t3 (0,0))){Y:Value→Value→Value→Value→ah→Prop}
  (Y0:∀bf sv rv h',Ext F h'→¬(ns 12 [o]∧Az [o] (em a).w (em a).h (em a).c=0)→Y (ptr bf) sv rv (.bool false) h') (Y1:∀bf vf sv rv Z1 h',Bg22 F a o bf vf sv rv Z1 h'→Y (ptr bf) sv rv (.bool true) h'):
  vK (aO 5 F (ptr b1)) λv8=>ag prog eW #[v8] F λv9 D=>vK (aO 9 D (ptr b3)) λa7=>
  df #[ai,ai,ai,ai,(.slice none 0 0),(.slice none 0 0),ai,ai,ai] 31 1 [(0,9,a7)] D λar al=>
  ag prog iu #[ar,v9] al λL ab=>vK (aL L 0) λa8=>vK (aL L 1) λaw=>vK (aL L 2) λaa=>Y v9 a8 aw aa ab:=by
 have lc:=nT.len H;have lo:=rOp.len HO;rw[aU r1 5 lc,aj];refine(Jb (nT.mono H λ_ _ h=>h) WA).mono λpm h7 N7=>?_
 obtain⟨bf,vf,rfl,I7,au,ay,e7⟩:=N7;rw[aU (e7.row r3) 9 lo,aj];refine da (Rp.fill_whole (by rfl) lo) λb5 D an U n10=>?_
 have A:=e7.trans U;have ad:Rp.Sl rOp (λc=>Z2 c∨c=b5) D (.slice (some ⟨b5,0,none⟩) 1 1) [o]:=by
  refine⟨os,?_,λ_ b hb=>.inr hb,λi hi=>?_⟩
  ·have:=Rp.SlC.single (cs:=os) an;rw[lo]at this;exact this
  ·have:i=0:=by simpa using hi
   subst this;rw[Rp.el_self lo];exact rOp.mono (rOp.ext HO A) λb _ hb=>.inl hb
 refine(Ud (G.ext A) ad (by simp) WO (I7.ext U) (vF a)).mono λr a9 ⟨W,sv,rv,ok,er,bc,I,hS⟩=>?_
 subst er;have x0:aL (.tuple #[sv,rv,.bool ok]) 0=some sv:=rfl;have x1:aL (.tuple #[sv,rv,.bool ok]) 1=some rv:=rfl;have x2:aL (.tuple #[sv,rv,.bool ok]) 2=some (.bool ok):=rfl;rw[x0,aj,x1,aj,x2,aj];have ax:=A.1;cases hk:ok with
 |false=>exact Y0 _ _ _ _ (A.trans W) λh=>by have:=I.2 h;rw[hk]at this;cases this
 |true=>
  subst hk;obtain⟨T1,T2⟩:=hS rfl;exact Y1 bf vf sv rv _ a9 ⟨bg_ok (I.1 rfl).1 (I.1 rfl).2,A.trans W,I7.ext (U.trans W),⟨au,ay⟩,T1,T2,λc hc=>⟨bh ax hc.1,hc.2⟩⟩
theorem aS.base {X:Nat→Prop}{C:C21}{Z:Nat→Prop}{K:Nat}{h0 A h:ah}{bw:Nat→Nat}{bp:Nat}{o:Nat→Nat}{n:Pic}{V:PV}{P:cg}(H:aS X C Z K h0 bw bp o n V P h)(e:Ext A h0):aS X C Z K A bw bp o n V P h:=
 ⟨H.q,H.c,H.l,H.p,H.w,H.s,H.f,H.e,H.wk,H.ws,H.po,H.set,H.pl,H.zl,H.sui,λc hc=>⟨(H.ow c hc).1,bh e.1 (H.ow c hc).2.1,(H.ow c hc).2.2⟩,e.trans H.ext,H.few⟩
structure Bgn (h:ah)(a:sT)(o:OpD)(tw th wk room:Int)(C:C21)(Z:Nat→Prop)(K N:Nat)(bw:Nat→Nat)(bp:Nat)(ow:Nat→Nat)(n:Pic)(P:cg)(Zd:Nat→Prop)(V:DV)(h':ah):Prop where
 ok:OV a o
 O:C.Ok
 cm:C.m=em a
 cd:C.d=Qs a o tw th
 k:(K:Int)=1+wk%5
 nn:(N:Int)=bX C.d∧1≤N∧N≤144∧ji C N 0≤23328
 go:GoP C Z K N h bw bp ow n P h'
 p:P=Gu K (1+room%4) (C.m.w*C.m.h*C.m.c) (C.d.X*C.d.Y*C.m.c)
 d:DAt Zd C K N P V h'
 ob:∀c,de (some C.E) c→h.size≤c
 zd:∀c,Zd c→h.size≤c∧c<h'.size∧ow c=0∧¬de (some C.E) c
 ext:Ext h h'
def Y5 (a:sT)(o:OpD):Prop:=ns 12 [o]∧Az [o] (em a).w (em a).h (em a).c=0
theorem zby {h:ah}(G:eB h){Z1 Z2:Nat→Prop}{cs os:List Value}{a:sT}{o:OpD}(H:nT.R Z1 h cs a)(WA:a.Wf)(HO:rOp.R Z2 h os o)(WO:Ej [o]):ag prog xg #[.agg cs.toArray,.agg os.toArray] h λr h'=>(¬Y5 a o→r=.bool false)∧Ext h h':=by
 apply QT;unfold Gc;simp only[bO];refine aI λb1 h1 r1 e1 n1=>aI λb3 W r3 e3 n3=>?_
 have L:=e1.trans e3;have lc:=nT.len H;have lo:=rOp.len HO;have G3:=G.ext L;have r1:=e3.row r1;refine aP (Ext W) (Ext.refl _) ?_;refine aC (.agg os.toArray) (λk e=>aU (e.row r3) 9 lo) ?_;refine aC (.agg cs.toArray) (λk e=>aU (e.row r1) 5 lc) ?_;have x0:∀a b c:Value,aL (.tuple #[a,b,c]) 0=some a:=λ_ _ _=>rfl
 have x1:∀a b c:Value,aL (.tuple #[a,b,c]) 1=some b:=λ_ _ _=>rfl
 have x2:∀a b c:Value,aL (.tuple #[a,b,c]) 2=some c:=λ_ _ _=>rfl
 have row:∀{g:ah} {F:Nat} {t:TypeId},Ext W g→g[F]? =some (.cells os.toArray t (0,0))→Rp.Sl rOp (λc=>Z2 c∨c=F) g (.slice (some ⟨F,0,none⟩) 1 1) [o]:=λ{g F t} e r=>by
  refine⟨os,?_,λ_ b hb=>.inr hb,λi hi=>?_⟩
  ·have:=Rp.SlC.single (cs:=os) r;rw[lo]at this;exact this
  ·have:i=0:=by simpa using hi
   subst this;rw[Rp.el_self lo];exact rOp.mono (rOp.ext HO (L.trans e)) λb _ hb=>.inl hb
 have fin:∀{g:ah} {bf:Nat} {vf ov:Value} {Y:Nat→Prop},Ext W g→db g bf vf (em a)→Rp.Sl rOp Y g ov [o]→ag prog iu #[ov,ptr bf] g λv h'=>Ext W h'∧(vK (aL v 0) λ_=>vK (aL v 1) λ_=>vK (aL v 2) λr=>(¬Y5 a o→r=.bool false)∧Ext h h'):=λ{g bf vf ov Y} e I S=>by
  refine(Ud (G3.ext e) S (by simp) WO I (vF a)).mono λr an ⟨U,sv,rv,ok,er,al,aa,hS⟩=>?_
  subst er;refine⟨e.trans U,?_⟩;rw[x0,aj,x1,aj,x2,aj];refine⟨λhn=>?_,L.trans (e.trans U)⟩;cases hk:ok with
  |false=>rfl
  |true=>exact absurd (aa.1 hk) hn
 refine⟨?_,?_⟩
 ·refine da (Rp.fill_whole (by rfl) lo) λF g5 r5 A n5=>⟨A,?_⟩
  refine(Jb (nT.mono (nT.ext H (L.trans A)) λ_ _ h=>h) WA).mono λpm h7 N7=>?_
  obtain⟨bf,vf,rfl,I7,ab,ad,D⟩:=N7;exact⟨A.trans D,fin (A.trans D) I7 (row (A.trans D) (D.row r5))⟩
 ·refine(Jb (nT.mono (nT.ext H L) λ_ _ h=>h) WA).mono λpm h7 N7=>?_
  obtain⟨bf,vf,rfl,I7,ab,ad,D⟩:=N7;refine⟨D,?_⟩;refine da (Rp.fill_whole (by rfl) lo) λF g5 r5 A n5=>⟨D.trans A,?_⟩
  exact fin (D.trans A) (I7.ext A) (row (D.trans A) r5)
theorem Yk {h:ah}(G:eB h){cs os:List Value}{a:sT}{o:OpD}{Z1 Z2:Nat→Prop}(H:nT.R Z1 h cs a)(WA:a.Wf)(HO:rOp.R Z2 h os o)(WO:Ej [o]){tw th wk room:Int}(h1:B8 tw)(h2:B8 th)(h3:B8 wk)(h4:B8 room):
  ag prog qZ #[.agg cs.toArray,.agg os.toArray,.int .u8 tw,.int .u8 th,.int .u8 wk,.int .u8 room] h λr h'=>
   (¬Y5 a o∧Ext h h'∧∃bf,∃u:List Value,r=.tuple #[ptr bf,.pointer none,.agg u.toArray,.bool false]∧u.length=20∧∀v∈u,aQ v=true)∨
   ∃C Z K N bw bp ow n P Zd V,r=.tuple #[ptr C.bf,ptr bp,.agg (dpC C P V).toArray,.bool true]∧Bgn h a o tw th wk room C Z K N bw bp ow n P Zd V h':=by
 apply Md;unfold A3;simp only[bO];refine aI λb1 g1 r1 e1 n1=>aI λb3 g3 r3 e3 n3=>aI λU g5 r5 e5 n5=>?_
 have k5:=bB r5;have s1:=e1.1;have s3:=e3.1;have E5:=e1.trans (e3.trans e5);have s5:=E5.1;refine zbQ (G.ext E5) (nT.ext H E5) WA (rOp.ext HO E5) WO ((e3.trans e5).row r1) (e5.row r3) (λbf sv rv h' e hn=>?_) (λbf vf sv rv Z1 h7 B=>?_)
 ·have hf:aM aJ []=some aJ.toList.toArray:=by rfl
  have on:∀v∈aJ.toList,aQ v=true:=by decide
  simp only[go_sem];rw[hf,bG,aj];refine cT (e.row r5) (by rfl) on (by rfl) λg9 r9 u9=>?_
  rw[aU r9 20 (by rfl),aj];exact .inl ⟨hn,(E5.trans e).upd ae u9,bf,_,rfl,by rfl,on⟩
 have nt:unV .not (.bool true)=some (.bool false):=rfl;rw[nt,aj,cK];refine Sq h1 ae ?_;refine Sq h2 ae ?_;refine Sq h3 ae ?_;refine Sq h4 ae ?_;have hw:=h1;have hh:=h2;unfold B8 at h1 h2 h3 h4;obtain⟨K,hK⟩:∃K:Nat,1+wk%5=(K:Int):=⟨(1+wk%5).toNat,ae⟩
 rw[hK];obtain⟨p,q,bs,be,q1,k0,bk,ax,bc,hp,hq⟩:=zaA B.st;obtain⟨sp,w1,w2⟩:=ax.atw (show 0<3 by omega) (k:=.i64) (i:=0) ae;have w1:bu 3 sv ai=some sp:=w1;have w2:aO 3 h7 sp=some (.agg #[p,q,af (bgS a o).border]):=w2;rw[w1,aj,w2,aj];have sd:fm (1+tw%13)∧fm (1+th%13):=by unfold fm;omega
 have zb:∀c,c<h7.size→Z1 c→g5.size≤c∧c<h7.size:=λc hc hz=>⟨(B.zl c hz).1,hc⟩
 refine(PU (wk:=(K:Int)) (Z0:=λc=>g5.size≤c∧c<h7.size) (G.ext (E5.trans B.ext)) B.img (vF a) ⟨p,q,rfl,hp.mono zb,hq.mono zb⟩ B.ok.stg B.ok.suits.1 ⟨⟨B.nb.1,B.img.lt⟩,λc hc=>⟨B.nb.2 c hc,B.img.ltv hc⟩⟩ (λc hc=>hc.2) B.ok.imgc).mono λr h8 ⟨_,_,f3⟩=>?_
 obtain⟨bp,C,Z,bw,ow,er,y1,y2,y3,CO,HP,L,e8,ar,nz,bd⟩:=f3 sd K rfl ae;subst er;have x0:∀a b:Value,aL (.tuple #[a,b]) 0=some a:=λ_ _=>rfl
 have x1:∀a b:Value,aL (.tuple #[a,b]) 1=some b:=λ_ _=>rfl
 have au:ak .i .neq ai ai=some (.bool false):=rfl;rw[x0,aj,x1,aj,au,aj,cK];obtain⟨rp,ab,w3,w4,w5⟩:=(B.rf.ext e8).atw (show 0<5 by omega) (k:=.i64) (i:=0) (by simp);have w3:bu 5 rv ai=some rp:=w3;have w4:aO 5 h8 rp=some (.agg ab.toArray):=w4;have w5:xm.R Z1 h8 ab (bgS a o):=w5;refine aP (Ext h8) (Ext.refl _) ?_;rw[w3,aj];refine aC (.agg ab.toArray) (λk e=>e.lds w4) ?_;refine ag.at (fD (B.img.ext e8)) ⟨Ext.refl _,?_⟩;have A:C.d=Qs a o tw th:=y2;obtain⟨N,hN,N1,N2,an⟩:=zc7 (C:=C) B.ok hw.1 hh.1 A;have al:C.d.s=bgS a o:=by rw[A]
 have few:∀x∈C.d.s.x.lines++C.d.s.y.lines,x.2.length≤1073741824:=λx hx=>by
  rcases gS.1 hx with h|h
  ·have:=(CO.s.wf.x.taps x h).1;omega
  ·have:=(CO.s.wf.y.taps x h).1;omega
 have hX:1≤C.d.X:=by rw[A];show 1≤((bgS a o).x.lines.length:Int);have:=B.ok.sx;omega
 have hY:1≤C.d.Y:=by rw[A];show 1≤((bgS a o).y.lines.length:Int);have:=B.ok.sy;omega
 have aw:nK C.m C.d.s:=by rw[y1,al];exact B.ok.suits.1
 obtain⟨z1,z2,_⟩:=aw;have mw:=(vF a).fits;have F:=dH mw;have I:=dH B.ok.fit;have F:0≤C.d.s.x.n*C.d.s.y.n∧C.d.s.x.n*C.d.s.y.n≤4294967296∧0≤C.d.s.x.n*C.d.s.y.n*C.m.c∧C.d.s.x.n*C.d.s.y.n*C.m.c≤268435456:=by
  rw[z1,z2,y1];exact⟨F.2.2.2.2.2.2.1,F.2.2.2.2.2.2.2.1,F.2.2.2.2.2.2.2.2.1,F.2.2.2.2.2.2.2.2.2⟩
 have I:0≤C.d.X*C.d.Y∧C.d.X*C.d.Y≤4294967296∧0≤C.d.X*C.d.Y*C.m.c∧C.d.X*C.d.Y*C.m.c≤268435456:=by
  rw[A,y1];exact⟨I.2.2.2.2.2.2.1,I.2.2.2.2.2.2.2.1,I.2.2.2.2.2.2.2.2.1,I.2.2.2.2.2.2.2.2.2⟩
 have ea:(af (em a).c:Value)=af C.m.c∧(af (1+tw%13):Value)=af C.d.w∧(af (1+th%13):Value)=af C.d.h:=by rw[y1,A];exact⟨rfl,rfl,rfl⟩
 rw[ea.1,ea.2.1,ea.2.2];rw[←al]at w5;have s8:=e8.1;have sB:=B.ext.1;refine(ZR (room:=1+room%4) w5 (λc hc=>bT (B.zl c hc).2 s8) CO hN ae hX hY few ae ⟨F.2.2.1,ae⟩ ⟨I.2.2.1,ae⟩ ⟨F.1,ae⟩ ⟨I.1,ae⟩).mono λr h9 ⟨Zd,V,er,D,zd,e9⟩=>?_
 subst er;have s9:=e9.1;refine cT ((B.ext.trans (e8.trans e9)).row r5) (by rfl) D.ones (by rfl) λbo a9 W=>?_
 rw[aU a9 20 (by rfl),aj];right;have eP:Gu K (1+room%4) (C.d.s.x.n*C.d.s.y.n*C.m.c) (C.d.X*C.d.Y*C.m.c)=Gu K (1+room%4) (C.m.w*C.m.h*C.m.c) (C.d.X*C.d.Y*C.m.c):=by rw[z1,z2]
 rw[eP]at D ⊢;have eQ:Gu K (1+room%4) ((em a).w*(em a).h*(em a).c) (((bgS a o).x.lines.length:Int)*(bgS a o).y.lines.length*(em a).c)=Gu K (1+room%4) (C.m.w*C.m.h*C.m.c) (C.d.X*C.d.Y*C.m.c):=by rw[y1,A];rfl
 rw[eQ]at HP;have a8:=HP;obtain⟨V8,ad⟩:=a8;have ay:∀c,de (some C.E) c→c<h8.size:=λc hc=>ad.set.out.ltv hc
 have bg:U<g5.size:=k5;have bv:g3.size≤U:=n5;have u0:ow U=0:=by
  by_cases h:ow U=0
  ·exact h
  ·have:=ar U h;omega
 have a7:=((ad.ex e9).base (E5.trans B.ext)).loc W ⟨u0,ae,λhz=>by rcases nz U hz with h|h<;>omega,by show U≠C.bt;omega,λhb=>by have:=L U hb;omega⟩;have E9:=E5.trans (B.ext.trans (e8.trans e9));have aa:∀c,Zd c→g5.size≤c∧c<h9.size∧ow c=0∧¬de (some C.E) c:=λc hc=>by
  obtain⟨h1,h2⟩:=zd c hc;have q:g5.size≤c∧(c<h7.size∨h8.size≤c):=by
   rcases h1 with h1|h1
   ·exact⟨(B.zl c h1).1,.inl (B.zl c h1).2⟩
   ·exact⟨ae,.inr h1⟩
  refine⟨q.1,h2,?_,λhb=>?_⟩
  ·by_cases h:ow c=0
   ·exact h
   ·have h3:=ar c h;have h4:=(ad.ow c h).1;omega
  ·have h3:=L c hb;have h4:=ay c hb;omega
 exact⟨C,Z,K,N,bw,bp,ow,_,_,Zd,V,by rw[y3],⟨B.ok,CO,y1,y2,hK.symm,⟨hN,N1,N2,an⟩,⟨⟨V8,a7⟩,0,Ph hN⟩,rfl,D.fr W.fr λc _ hc h=>by have:=(aa c hc).1;have h:c=U:=h;omega,λc hc=>by have:=L c hc;omega,λc hc=>⟨by have:=(aa c hc).1;omega,by rw[W.1];exact(aa c hc).2.1,(aa c hc).2.2⟩,E9.upd ae W⟩⟩
end Go.Proofs.YtjljhnandbbldaaGreatDoor
namespace Go.Proofs.YtjljhnandbbldaaGreatDoor
open Go Go.Crisp
attribute [local irreducible] ag df aW stK aF vK qK bJ gK eK aZ mkK di Fi GM CF bsK clK ud oA V2
section
theorem ZB {C:C21}{K N tk:Nat}{P:cg}{n:Pic}(H:kJ C K N tk P n)(F:P.ret=true)(i:Int):gI C K P i=false:=by
 obtain⟨h1,G⟩:=H.rt F;have D:=H.cnt;have A:=MZ (K:=K) (ws:=P.ws) ae;unfold gI;split
 ·rfl
 split
 ·have:=A (i-1).toNat ae;rw[cB];omega
 ·simp[F]
section
variable {h:ah}{a:sT}{o:OpD}{tw th wk room:Int}{C:C21}{Z:Nat→Prop}{K N:Nat}{bw:Nat→Nat}{bp:Nat}{ow:Nat→Nat}{n:Pic}{P:cg}{Zd:Nat→Prop}{V:DV}{h':ah}
theorem Bgn.lt (B:Bgn h a o tw th wk room C Z K N bw bp ow n P Zd V h'):(∀c,ow c≠0→h.size≤c∧c<h'.size)∧∀c,de (some C.E) c→h.size≤c∧c<h'.size:=by
 obtain⟨⟨D,A⟩,_⟩:=B.go;exact⟨λc hc=>⟨(A.ow c hc).2.1,(A.ow c hc).1⟩,λc hc=>⟨B.ob c hc,A.set.out.ltv hc⟩⟩
theorem Bgn.few (B:Bgn h a o tw th wk room C Z K N bw bp ow n P Zd V h')(A:B8 wk):1≤K∧K≤5∧2*N+K+2+ji C N 0≤190000:=by
 have:=B.k;obtain⟨_,_,D,F⟩:=B.nn;unfold B8 at A;have:0≤wk%5∧wk%5<5:=⟨ks _ ae,iF _ ae⟩
 omega
end
end
end Go.Proofs.YtjljhnandbbldaaGreatDoor
namespace Go.Proofs.YtjljhnandbbldaaGreatDoor
open Go Go.Crisp
attribute [local irreducible] ag df aW stK aF vK qK bJ gK eK aZ mkK di Fi GM CF bsK clK ud oA V2
open _root_.Go.Proofs.Tryz
theorem zcl {h:ah}(G:eB h){cs os:List Value}{a:sT}{o:OpD}{Z1 Z2 Z3:Nat→Prop}(H:nT.R Z1 h cs a)(WA:a.Wf)(HO:rOp.R Z2 h os o)(WO:Ej [o]){tw th wk room:Int}(h1:B8 tw)(h2:B8 th)(h3:B8 wk)(h4:B8 room){dv:Value}{l:List Int}(HD:Rp.Sl (Rp.int .u8) Z3 h dv l){M:Nat}{F:Value→Value→Value→ah→Prop}
    (HF:∀I h9 A C Z K N bw bp ow n P Zd V bv,Ext h I→l.length≤M→Bgn I a o tw th wk room C Z K N bw bp ow n P Zd V h9→Ext h9 A→h9.size≤bv→A[bv]? =some (.cells (dpC C P V).toArray 48 (0,0))→F (ptr C.bf) (ptr bp) (ptr bv) A):
 aW (Value.cells (.agg cs.toArray)) 25 h λv1 h2=>
 aW (Value.cells (.agg os.toArray)) 31 h2 λv3 h4=>
 ag prog kl #[] h4 λv5 I=>
 vK (unV .not v5) λv7=>
 vK (gV v7 false (some dv)) λv8=>
 vK (gV v7 false (aD v8)) λv9=>
 vK (gV v7 false (ak .i .gtr v9 (af (M:Int)))) λb0=>
 vK (aE v7 (.bool true) b0) λca=>
 aF ca (
 ag prog kl #[] I λb7 a9=>
  (b7=.bool true∧Ext h a9)) (
 vK (aO 5 I v1) λb6=>
 vK (aO 9 I v3) λbk=>
 ag prog qZ #[b6,bk,.int .u8 tw,.int .u8 th,.int .u8 wk,.int .u8 room] I λW bd=>
 vK (aL W 0) λar=>
 vK (aL W 1) λax=>
 vK (aL W 2) λbc=>
 vK (aL W 3) λb2=>
 aW aJ 48 bd λan b5=>
 stK 20 an bc b5 λcc U=>
 vK (unV .not b2) λbg=>
 aF bg (
 vK (aO 5 U v1) λbo=>
 vK (aO 9 U v3) λau=>
 ag prog xg #[bo,au] U λaw be=>
 vK (unV .not aw) λb8=>
 (b8=.bool true∧Ext h be)) (F ar ax an U)):=by
  simp only[bO];refine aI λb1 g1 r1 e1 n1=>aI λb3 g3 r3 e3 n3=>?_
  have E3:=e1.trans e3;have lc:=nT.len H;have lo:=rOp.len HO;refine ag.to (Nq (G.ext E3)) λI e6=>?_
  have L:=E3.trans e6;obtain⟨av,cv,ev⟩:=HD.isSl;have a8:aD dv=some (af (l.length:Int)):=by rw[ev];rfl
  simp only[go_sem,a8];refine ao (λg=>?_) (λg=>?_)
  · refine ag.to (Nq (G.ext L)) λh7 e7=>?_
    exact⟨rfl,L.trans e7⟩
  rw[aU ((e3.trans e6).row r1) 5 lc,aj,aU (e6.row r3) 9 lo,aj];have x0:∀a b c d:Value,aL (.tuple #[a,b,c,d]) 0=some a:=λ_ _ _ _=>rfl
  have x1:∀a b c d:Value,aL (.tuple #[a,b,c,d]) 1=some b:=λ_ _ _ _=>rfl
  have x2:∀a b c d:Value,aL (.tuple #[a,b,c,d]) 2=some c:=λ_ _ _ _=>rfl
  have x3:∀a b c d:Value,aL (.tuple #[a,b,c,d]) 3=some d:=λ_ _ _ _=>rfl
  have nt:unV .not (.bool true)=some (.bool false):=rfl;have nf:unV .not (.bool false)=some (.bool true):=rfl;refine(Yk (G.ext L) (nT.ext H L) WA (rOp.ext HO L) WO h1 h2 h3 h4).mono λr h9 hB=>?_
  rcases hB with⟨hn,e9,bf,u,er,lu,ou⟩|⟨C,Z,K,N,bw,bp,ow,n,P,Zd,V,er,B⟩
  · subst er
    rw[x0,aj,x1,aj,x2,aj,x3,aj];refine aI λbv a7 aa ab n10=>?_
    refine cT aa lu ou lu λA al ad=>?_
    have D:Ext I A:=(e9.trans ab).upd (by have:=e9.1;omega) ad;rw[nf,aj,iI];rw[aU (D.row ((e3.trans e6).row r1)) 5 lc,aj,aU (D.row (e6.row r3)) 9 lo,aj];refine(zby (G.ext (L.trans D)) (nT.ext H (L.trans D)) WA (rOp.ext HO (L.trans D)) WO).mono λr cb ⟨er,ay⟩=>?_
    rw[er hn,nf,aj];exact⟨rfl,L.trans (D.trans ay)⟩
  subst er;rw[x0,aj,x1,aj,x2,aj,x3,aj];refine aI λbv a7 aa ab n10=>?_
  refine cT aa (by rfl) B.d.ones (by rfl) λA al ad=>?_
  have b4:Ext h9 A:=ab.upd n10 ad;rw[nt,aj,cK];exact HF I h9 A C Z K N bw bp ow n P Zd V bv L ae B b4 n10 al
end Go.Proofs.YtjljhnandbbldaaGreatDoor
namespace Go.Proofs.YtjljhnandbbldaaGreatDoor
open Go Go.Crisp
attribute [local irreducible] ag df aW stK aF vK qK bJ gK eK aZ mkK di Fi GM CF bsK clK ud oA V2
theorem Xp (E:Option WE)(jo:Option (cZ×Int×Int))(w:WD)(d:QD):(cL E jo w d).2.1.l.length+(cL E jo w d).1.tiles.length=d.l.length+w.tiles.length∧(cL E jo w d).2.1.room=d.room∧(cL E jo w d).2.1.l.length≤d.l.length:=by
 unfold cL;split
 ·split
  ·exact⟨rfl,rfl,bU _⟩
  ·exact⟨rfl,rfl,bU _⟩
 split
 ·exact⟨rfl,rfl,bU _⟩
 split
 ·rename_i h;have A:d.l≠[]:=λe=>by unfold dE at h;rw[aA e]at h;split at h<;>cases h
  have D:=wZ.2 A;refine⟨?_,rfl,?_⟩
  ·show d.l.tail.length+(w.tiles++[ce d]).length=_;rw[List.length_tail,ck,Hh];omega
  ·show d.l.tail.length≤_;rw[List.length_tail];omega
 ·rename_i h;have A:d.l=[]:=by
   cases e:d.l with
   |nil=>rfl
   |cons x l=>exact absurd (by unfold dE;rw[az (by rw[e];simp)]) h
  split
  ·refine⟨?_,rfl,?_⟩
   ·show d.l.tail.length+w.tiles.length=_;rw[A];rfl
   ·show d.l.tail.length≤_;rw[A];exact bU _
  ·refine⟨?_,rfl,?_⟩
   ·show d.l.tail.length+w.tiles.length=_;rw[A];rfl
   ·show d.l.tail.length≤_;rw[A];exact bU _
def P9 (K:Nat)(P:cg):Prop:=mO K (λk=>(P.ws k).tiles.length)+P.q.l.length=P.sent.toNat∧(P.q.l.length:Int)≤P.q.room
theorem Xj {C:C21}{K N tk:Nat}{P:cg}{n:Pic}{i:Int}(I:kJ C K N tk P n)(A:gI C K P i=true)(H:P9 K P):P9 K (kT C K P i)∧(kT C K P i).q.room=P.q.room∧(kT C K P i).sent=(if i=0∧P.sent<bX C.d then P.sent+1 else P.sent):=by
 have hs:=I.ok.sent;unfold kT;rw[A,az (by decide)];by_cases hi:i=0
 ·subst hi;rw[aA rfl];unfold JH;by_cases h1:P.sent<bX C.d
  ·rw[aA h1,aA ⟨rfl,h1⟩];have hc:P.q.closed=false:=by
    cases e:P.q.closed with
    |false=>rfl
    |true=>have:=I.ok.cl e;omega
   have hq:rG P.q≠1:=by
    unfold gI at A;rw[az ae,az ae]at A;split at A
    ·cases A
    ·simpa[h1]using A
   have D:¬P.q.room≤P.q.l.length:=λh=>hq (by unfold rG;rw[hc];simp[h])
   have e:(kD P.q P.sent).l=P.q.l++[P.sent]∧(kD P.q P.sent).room=P.q.room:=by
    unfold kD;rw[hc];simp[D]
   refine⟨⟨?_,?_⟩,e.2,rfl⟩
   ·show mO K (λk=>(P.ws k).tiles.length)+(kD P.q P.sent).l.length=(P.sent+1).toNat;rw[e.1,ck,Hh];have:=H.1;omega
   ·show((kD P.q P.sent).l.length:Int)≤(kD P.q P.sent).room;rw[e.1,e.2,ck,Hh];omega
  ·rw[az h1,az (show¬((0:Int)=0∧P.sent<bX C.d)from λh=>h1 h.2)];split
   ·exact⟨H,rfl,rfl⟩
   ·exact⟨H,rfl,rfl⟩
 ·rw[az hi,az ae];obtain⟨f1,f2,f3,f4,f5,f6,f7⟩:=Ld C K {P with picks:=P.picks+1} (i-1).toNat;generalize rj C K {P with picks:=P.picks+1} (i-1).toNat=Q at*;have f4:Q.sent=P.sent:=f4;have f1:Q.q=(cL (some C.E) (C.jo (ce P.q)) (P.ws (i-1).toNat) P.q).2.1:=f1;have f2:Q.ws=λj=>if j=(i-1).toNat then(cL (some C.E) (C.jo (ce P.q)) (P.ws (i-1).toNat) P.q).1 else P.ws j:=f2
  have G:(i-1).toNat<K:=by
   unfold gI at A;split at A
   ·cases A
   ·omega
  obtain⟨w1,L,w3⟩:=Xp (some C.E) (C.jo (ce P.q)) (P.ws (i-1).toNat) P.q;have F:=SB (f:=λj=>(P.ws j).tiles.length) (g:=λj=>(Q.ws j).tiles.length) (k:=(i-1).toNat) (λj U=>by rw[f2];simp only[az U]) K G;have W:(Q.ws (i-1).toNat).tiles.length=(cL (some C.E) (C.jo (ce P.q)) (P.ws (i-1).toNat) P.q).1.tiles.length:=by rw[f2];simp
  simp only[W]at F;obtain⟨H1,H2⟩:=H;refine⟨⟨?_,?_⟩,by rw[f1,L],f4⟩
  ·rw[f4,f1];omega
  ·rw[f1,L];omega
theorem So {C:C21}{K N tk:Nat}{P:cg}{n:Pic}(I:kJ C K N tk P n)(W:1≤K)(H:P9 K P)(G:P.ret=true):P.sent=bX C.d∧mO K (λk=>(P.ws k).tiles.length)=N:=by
 obtain⟨h1,L⟩:=I.rt G;have U:=I.ok.cl h1;have F:=I.cnt;have A:=MZ (K:=K) (ws:=P.ws) ae;have hq:=(I.gone 0 ae (A 0 ae)).1;have hn:=I.nn;have D:=H.1;rw[hq]at D;simp only[kr]at D;omega
end Go.Proofs.YtjljhnandbbldaaGreatDoor
namespace Go.Proofs.YtjljhnandbbldaaGreatDoor
open Go Go.Crisp
attribute [local irreducible] ag df aW stK aF vK qK bJ gK eK aZ mkK di Fi GM CF bsK clK ud oA V2
open _root_.Go.Proofs.Tryz
section
theorem among {Z:Nat→Prop}{g:ah}{rv:Value}{L:List Int}{b:Int}{X:Value→ah→Prop}(H:Rp.Sl (Rp.int .i64) Z g rv L)(hl:L.length≤1000000)(HX:X (.bool (decide (b∈L))) g):
  aZ [(.bool false),ai] g λA aw G D=>vK (ak .i .lss (ix A 1) (af (L.length:Int))) λar=>aF ar (
   vK (bu 1 rv (ix A 1)) λal=>vK (ldV G al) λW=>vK (gV (ix A 0) false (some W)) λan=>vK (gV (ix A 0) false (some (af b))) λau=>vK (gV (ix A 0) false (ak .i .eql an au)) λaa=>vK (aE (ix A 0) (.bool true) aa) λab=>vK (ak .i .add (ix A 1) aH) λad=>D [ab,ad] G) (X (ix A 0) G):=by
 refine bH (α:=Bool) L.length 0 (λt s=>[.bool s,af (t:Int)]) (λt s g'=>s=decide (b∈L.take t)∧g'=g) false rfl (bZ _) ⟨by simp,rfl⟩ λt s g' again ρ _ ht ⟨es,eg⟩ U=>?_
 subst eg;simp only[gX,vC];rw[cq,aj];refine ao (λc1=>?_) (λc1=>?_)
 ·have F:t<L.length:=ae;obtain⟨p,a1,a2⟩:=H.int_at (k':=.i64) F;have I:(t:Int)+1=((t+1:Nat):Int):=ae;have e2:decide (b∈L.take (t+1))=(s||decide (L[t]=b)):=by
   rw[ju F,es];simp only[gS,ib,RG]
   congr 1
   exact gE.2 GT
  rw[a1,aj,a2,aj];cases s with
  |true=>
   simp only[go_sem];rw[w64 (n:=(t:Int)+1) ae ae,I];exact U true _ F ⟨by rw[e2];rfl,rfl⟩
  |false=>
   rw[jz,aj,jz,aj,jz,mu,aj,rK,aj];simp only[go_sem];rw[w64 (n:=(t:Int)+1) ae ae,I];exact U _ _ F ⟨by rw[e2];rfl,rfl⟩
 ·have:t=L.length:=ae;subst this;rw[GS]at es;rw[es];exact HX
section
variable {C:C21}{Z:Nat→Prop}{K N:Nat}{h0 h:ah}{bw:Nat→Nat}{bp:Nat}{o:Nat→Nat}{n:Pic}{P:cg}
theorem zcn (O:C.Ok)(G:eB h0)(H:GoP C Z K N h0 bw bp o n P h)(few:2*N+K+2+ji C N 0≤190000)(hb:∀c,de (some C.E) c→h0.size≤c){rv:Value}{Y:Nat→Prop}(HR:Rp.Sl (Rp.int .i64) Y h rv (sI C K P (K+1)))(hY:∀c,Y c→c<h.size∧o c=0∧¬de (some C.E) c){XF:ah→Prop}{X:ah→Prop}
  (HX:∀o' n' g,GoP C Z K N h0 bw bp o' n' P g→(∀c,c<h.size→o' c=o c)→Fr (λc=>o c≠0∨de (some C.E) c) h g→X g):
  aZ [ai] h λW b7 a7 I=>vK (ak .i .lss (ix W 0) (af ((K+1:Nat):Int))) λbe=>aF be (
   vK (some (af ((sI C K P (K+1)).length:Int))) λbk=>aZ [(.bool false),ai] a7 λD b5 F L=>vK (ak .i .lss (ix D 1) bk) λb1=>aF b1 (
   vK (bu 1 rv (ix D 1)) λbv=>vK (ldV F bv) λa8=>vK (gV (ix D 0) false (some a8)) λb0=>vK (gV (ix D 0) false (some (ix W 0))) λb3=>vK (gV (ix D 0) false (ak .i .eql b0 b3)) λa9=>vK (aE (ix D 0) (.bool true) a9) λbd=>vK (ak .i .add (ix D 1) aH) λbo=>L [bd,bo] F) (
   vK (unV .not (ix D 0)) λA=>vK (gV A true (some (ptr bp))) λaa=>vK (gV A true (some (ix W 0))) λal=>gK A true (λau=>ag prog dO #[aa,al] F au) F λan U=>vK (aE A an (.bool false)) λad=>aF ad (XF U) (vK (ak .i .add (ix W 0) aH) λab=>I [ab] U))) (X a7):=by
 have hK:=H.few;have hL:(sI C K P (K+1)).length≤K+1:=Gp _ _ _ _;obtain⟨ar,cr,er⟩:=HR.isSl;have b4:aD rv=some (af ((sI C K P (K+1)).length:Int)):=by rw[er];rfl
 refine bH (α:=Unit) (K+1) 0 (λb _=>[af (b:Int)]) (λb _ g=>∃o' n',GoP C Z K N h0 bw bp o' n' P g∧(∀c,c<h.size→o' c=o c)∧Fr (λc=>o c≠0∨de (some C.E) c) h g) () rfl (bZ _) ⟨o,n,H,λ_ _=>rfl,Fr.refl _ _⟩ λb _ g again ρ _ b6 ⟨o',n',H',oo,f⟩ ay=>?_
 simp only[gX];rw[cq,aj];refine ao (λc1=>?_) (λc1=>?_)
 ·have aw:b<K+1:=ae;rw[aj];have bc:=HR.fr f λc _ hc h=>h.elim (λh=>h (hY c hc).2.1) (hY c hc).2.2
  have ax:(b:Int)+1=((b+1:Nat):Int):=ae;refine among (b:=(b:Int)) (X:=λbg F=>vK (unV .not bg) λA=>vK (gV A true (some (ptr bp))) λaa=>vK (gV A true (some (af (b:Int)))) λal=>gK A true (λau=>ag prog dO #[aa,al] F au) F λan U=>vK (aE A an (.bool false)) λad=>aF ad (XF U) (vK (ak .i .add (af (b:Int)) aH) λab=>again [ab] U)) bc ae ?_;by_cases hm:(b:Int)∈sI C K P (K+1)
  ·rw[cP hm];simp only[go_sem];rw[w64 (n:=(b:Int)+1) ae ae,ax];exact ay () g aw ⟨o',n',H',oo,f⟩
  ·rw[cB hm];have nf:unV .not (.bool false)=some (.bool true):=rfl;rw[nf,aj,gv,aj,gv,aj,RZ];refine(K9 O G H' (by unfold I64;omega) ae hb).mono λr g3 ⟨er,o3,n3,H3,b2,f3⟩=>?_
   have hr:gI C K P (b:Int)=false:=by
    cases e:gI C K P (b:Int)with
    |false=>rfl
    |true=>exact absurd (KA.2 ⟨b,aw,rfl,e⟩) hm
   rw[hr]at er;subst er;have ep:kT C K P (b:Int)=P:=by unfold kT;rw[aA hr]
   rw[ep]at H3;have sf:=f.1;rw[qe,aj,cK];simp only[go_sem];rw[w64 (n:=(b:Int)+1) ae ae,ax];exact ay () g3 aw ⟨o3,n3,H3,λc hc=>(b2 c ae).trans (oo c hc),f.after f3 λc hc h=>h.imp (λh=>by rwa [oo c hc]at h) id⟩
 ·exact HX o' n' g H' oo f
theorem Xm (P:cg):∀b,b≤K+1→((List.range b).map λi:Nat=>(lR K P (i:Int)).length).sum=mO (b-1) λk=>(P.ws k).tiles.length:=by
 intro b;induction b with
 |zero=>intro _;rfl
 | succ b A=>
  intro D;rw[lU,iD,Rb,A ae];cases b with
  |zero=>simp[lR,mO]
  | succ b=>
   rw[show b+1+1-1=b+1 by omega,show b+1-1=b by omega,p9];have:lR K P ((b+1:Nat):Int)=(P.ws b).tiles:=by
    unfold lR;rw[az ae,show(((b+1:Nat):Int)-1).toNat=b by omega]
   rw[Ra,Q9,this]
theorem Yx (H:fR C Z K h0 bw bp o n P h)(hK:K≤256)(ht:∀j,j<K→(P.ws j).tiles.length≤200000){X:List Value→ah→Prop}(HX:∀g,Ext h g→X [af (mO K (λk=>(P.ws k).tiles.length):Nat),af ((K+1:Nat):Int)] g):
  aZ [ai,ai] h λA au F D=>vK (ak .i .lss (ix A 1) (af ((K+1:Nat):Int))) λL=>aF L (
   ag prog kN #[ptr bp,(ix A 1)] F λaa W=>vK (aD aa) λG=>vK (ak .i .add (ix A 0) G) λU=>vK (ak .i .add (ix A 1) aH) λI=>D [U,I] W) (X A F):=by
 have an:∀b,((List.range b).map λi:Nat=>(lR K P (i:Int)).length).sum≤b*200000:=by
  intro b;induction b with
  |zero=>simp
  | succ b ih=>
   rw[lU,iD,Rb,Ra,Q9];have:(lR K P (b:Int)).length≤200000:=by
    unfold lR;split
    ·simp
    ·exact ht _ ae
   omega
 refine bH (α:=Nat) (K+1) 0 (λb t=>[af (t:Int),af (b:Int)]) (λb t g=>t=((List.range b).map λi:Nat=>(lR K P (i:Int)).length).sum∧Ext h g) 0 rfl (bZ _) ⟨rfl,Ext.refl _⟩ λb t g again ρ _ hb ⟨et,eg⟩ al=>?_
 simp only[gX,vC];rw[cq,aj];refine ao (λc1=>?_) (λc1=>?_)
 ·refine(Uc (H.ext eg) (by unfold I64;omega) λj hj=>by have:=ht j hj;omega).mono λrv g2 NT=>?_
  obtain⟨aw,ct,ar⟩:=NT.isSl;have ab:aD rv=some (af ((lR K P b).length:Int)):=by rw[ar];rfl
  have ad:(b:Int)+1=((b+1:Nat):Int):=ae;have es:((List.range (b+1)).map λi:Nat=>(lR K P (i:Int)).length).sum=t+(lR K P b).length:=by
   rw[lU,iD,Rb,Ra,Q9,et]
  have h1:=an (b+1);have h2:(b+1)*200000≤300*200000:=ic _ ae;simp only[go_sem,ab];rw[w64 (n:=(t:Int)+((lR K P b).length:Int)) ae ae,w64 (n:=(b:Int)+1) ae ae,ad,show(t:Int)+((lR K P b).length:Int)=((t+(lR K P b).length:Nat):Int)by omega];exact al _ g2 ae ⟨es.symm,eg.trans NT.2.1⟩
 ·have:b=K+1:=ae;subst this;rw[Xm P (K+1) (bU _)]at et;subst et;exact HX g eg
end
end
theorem Ug {h:ah}(G:eB h){cs os:List Value}{a:sT}{o:OpD}{Z1 Z2 Z3:Nat→Prop}(H:nT.R Z1 h cs a)(WA:a.Wf)(HO:rOp.R Z2 h os o)(WO:Ej [o]){tw th wk room:Int}(h1:B8 tw)(h2:B8 th)(h3:B8 wk)(h4:B8 room){dv:Value}{l:List Int}(HD:Rp.Sl (Rp.int .u8) Z3 h dv l)(h8:∀x∈l,B8 x)(hl:l.length≤1000000000000000):
  ag prog pA #[.agg cs.toArray,.agg os.toArray,.int .u8 tw,.int .u8 th,.int .u8 wk,.int .u8 room,dv] h λr h'=>r=.bool true∧Ext h h':=by
 apply ER;unfold vg;refine zcl (M:=600) G H WA HO WO h1 h2 h3 h4 HD λh6 h9 A C Z K N bw bp ow n P Zd V bv E6 c9 B a8 be b3=>?_
 obtain⟨au,an⟩:=B.lt;obtain⟨K1,K5,few⟩:=B.few h3;obtain⟨hN,N1,N2,hs⟩:=B.nn;have O:=B.O;have b2:Ext h6 A:=B.ext.trans a8;have GO:=B.go.ext a8;have pn:ak .p .eql (ptr bp) (.pointer none)=some (.bool false):=rfl;have nt:unV .not (.bool true)=some (.bool false):=rfl;have nf:unV .not (.bool false)=some (.bool true):=rfl;have b1:∀c,h9.size≤c→¬(ow c≠0∨de (some C.E) c):=λc hc h=>h.elim (λh=>by have:=(au c h).2;omega) λh=>by have:=(an c h).2;omega
 have ct:0≤room%4∧room%4<4:=⟨ks _ ae,iF _ ae⟩
 have EF:∀{g},Fr (λc=>ow c≠0∨de (some C.E) c) A g→Ext h g:=λf=>(E6.trans b2).then_fr f λc hc=>by
  have c3:=E6.1;rcases hc with hc|hc
  ·have:=(au c hc).1;omega
  ·have:=(an c hc).1;omega
 have tv:∀{g},Fr (λc=>ow c≠0∨de (some C.E) c) A g→aG g ⟨bv,6,none⟩=some V.tv:=λf=>am (f.row b3 (b1 bv be))
 have ad:aD V.tv=some (af (N:Int)):=by obtain⟨a,c,e⟩:=B.d.t.isSl;rw[e];simp[aD,eN]
 have f6:aB 6 (ptr bv)=some (.pointer (some ⟨bv,6,none⟩)):=rfl;obtain⟨av,cv,ev⟩:=HD.isSl;have b0:aD dv=some (af (l.length:Int)):=by rw[ev];rfl
 rw[pn,aj,cK];refine Sq h4 ae ?_;refine bi (λxs g=>∃o' n' D,xs=[af D.sent]∧GoP C Z K N h6 bw bp o' n' D g∧D.ret=true∧P9 K D∧(∀c,c<A.size→o' c=ow c)∧Fr (λc=>ow c≠0∨de (some C.E) c) A g) ?_ ?_
 ·have w0:P9 K P:=by
   rw[B.p];refine⟨?_,?_⟩
   ·show mO K (λ_=>0)+0=0;rw[FF]
   ·show(0:Int)≤min (max 1 (1+room%4)) 4096;omega
  refine bH (α:=Int) 200000 0 (λi s=>[af s,af (i:Int)]) (λi s g=>∃o' n' D,s=D.sent∧GoP C Z K N h6 bw bp o' n' D g∧(i:Int)≤D.picks∧P9 K D∧D.q.room=1+room%4∧(∀c,c<A.size→o' c=ow c)∧Fr (λc=>ow c≠0∨de (some C.E) c) A g) 0 rfl (bZ _) ⟨ow,n,P,by rw[B.p];rfl,GO,by have:=GO.picks;omega,w0,by rw[B.p];show min (max 1 (1+room%4)) 4096=_;omega,λ_ _=>rfl,Fr.refl _ _⟩ λi s g again ρ _ hi ⟨o',n',D,es,H',c6,wt,bg,oo,f⟩ b8=>?_
  simp only[gX,vC];have cu:=H'.picks;rw[cq,aj];refine ao (λg1=>?_) (λg1=>?_)
  ·refine(JV O H'.1).mono λrv g2 NR=>?_
   have H2:=H'.ext NR.2.1;have f2:Fr (λc=>ow c≠0∨de (some C.E) c) A g2:=f.after NR.2.1.fr λ_ _ h=>False.elim h
   refine ag.at (vG H2.1) ?_;cases hr:D.ret with
   |true=>
    simp only[go_sem];exact⟨o',n',D,by rw[es],H2,hr,wt,oo,f2⟩
   | false=>
    have ca:=H2.runs hr;have cw:(sI C K D (K+1)).length≤K+1:=Gp _ _ _ _;have cp:(sI C K D (K+1)).length≠0:=λh=>ca (mX h)
    obtain⟨ar,cr,er⟩:=NR.isSl;have b7:aD rv=some (af ((sI C K D (K+1)).length:Int)):=by rw[er];rfl
    have Eg:Ext h6 g2:=H2.few.2.2.1;have b5:Ext h g2:=E6.trans Eg;rw[jz,aj,jz,b7,aj,jz,mu,aj,cB ae,rK,aj,cK];refine bi (λxs g'=>g'=g2∧∃m:Nat,xs=[af (m:Int)]) ?_ ?_
    ·rw[b0,aj,cq,aj];refine ao (λc1=>?_) (λc1=>?_)
     ·have a7:i<l.length:=ae;obtain⟨p,a1,a2⟩:=(HD.ext b5).int_at (k':=.i64) a7;have aw:=h8 _ (cQ a7);unfold B8 at aw;rw[a1,aj,a2,aj,BX,aj,w64 (n:=l[i]) ae ae];exact⟨rfl,l[i].toNat,by rw[wT aw.1]⟩
     ·exact⟨rfl,0,rfl⟩
    rintro xs ρ' g' ⟨rfl,m,rfl⟩;simp only[gX];rw[aj,zaJ _ _ _ _ ae,aj];have bd:m%(sI C K D (K+1)).length<(sI C K D (K+1)).length:=gT _ ae;obtain⟨p,a1,a2⟩:=NR.sl.int_at (k':=.i64) bd;rw[a1,aj,a2,aj];obtain⟨j,hj,ej,aa⟩:=KA.1 (cQ bd);generalize(sI C K D (K+1))[m%(sI C K D (K+1)).length]=x at ej aa ⊢;subst ej;refine ag.at (If H2.1) ?_;have bk:∀c,blk rv c→c<g'.size∧o' c=0∧¬de (some C.E) c:=λc hc=>by
     have q1:=NR.2.2 c hc;obtain⟨⟨V8,PB⟩,_⟩:=H';refine⟨NR.lt hc,?_,λhb=>?_⟩
     ·by_cases h:o' c=0
      ·exact h
      ·have:=(PB.ow c h).1;omega
     ·have h5:=PB.set.out.ltv (show blk C.vt c from hb);omega
    refine zcn O (G.ext E6) H2 ae B.ob NR.sl bk λo3 n3 g3 H3 ay f3=>?_
    have s2:=f2.1;have f23:Fr (λc=>ow c≠0∨de (some C.E) c) A g3:=f2.after f3 λc hc h=>h.imp (λh=>by rwa [oo c hc]at h) id
    refine bi (λxs g'=>g'=g3∧xs=[af (if(j:Int)=0∧D.sent<bX C.d then s+1 else s)]) ?_ ?_
    ·have c2:=H3.2.choose_spec.ok.sent;rw[mu,aj];by_cases ab:(j:Int)=0
     ·rw[cP ab,gv,aj,gv,f6,aj,gv,qS,tv f23,aj,gv,ad,aj,gv,cq,aj,qe,aj];refine ao (λc1=>?_) (λc1=>?_)
      ·simp only[go_sem];rw[w64 (n:=s+1) ae ae,aA ⟨ab,ae⟩];exact⟨trivial,rfl⟩
      ·rw[az ae];exact⟨rfl,rfl⟩
     ·rw[cB ab,az (λh=>ab h.1)];simp only[go_sem];exact⟨trivial,trivial⟩
    rintro xs ρ'' g' ⟨rfl,rfl⟩;refine(K9 O (G.ext E6) H3 (by unfold I64;omega) ae B.ob).mono λr g4 ⟨U,o4,n4,H4,bc,f4⟩=>?_
    rw[aa]at U;subst U;obtain⟨cb,b4,b6⟩:=Xj H3.2.choose_spec aa wt;have c8:=Pi aa;generalize kT C K D (j:Int)=W at*;have cc:(if(j:Int)=0∧D.sent<bX C.d then s+1 else s)=W.sent:=by rw[b6,es]
    rw[cc];have a9:∀c,c<A.size→o4 c=ow c:=λc hc=>by have s3:=f3.1;exact(bc c ae).trans ((ay c ae).trans (oo c hc))
    have c0:=f23.1;have f24:Fr (λc=>ow c≠0∨de (some C.E) c) A g4:=f23.after f4 λc hc h=>h.imp (λh=>by rwa [ay c ae,oo c hc]at h) id
    rw[nt,aj,cK];refine ag.at (If H4.1) ?_;obtain⟨c4,I4⟩:=H4.2;have c7:=H4.picks;refine Yx H4.1 ae (λq hq=>by have:=I4.ok.tn q hq;omega) λg5 e5=>?_
    obtain⟨w1,w2⟩:=cb;have ci:=I4.ok.sent;have f25:Fr (λc=>ow c≠0∨de (some C.E) c) A g5:=f24.after e5.fr λ_ _ h=>False.elim h
    simp only[gX];have q1:ak .i .sub (af W.sent) (af (mO K (λk=>(W.ws k).tiles.length):Nat))=some (af (W.q.l.length:Int)):=by
     show some (af (IntKind.i64.wrap _))=_;rw[w64 ae ae,show W.sent-((mO K λk=>(W.ws k).tiles.length:Nat):Int)=(W.q.l.length:Int)by omega]
    rw[q1,aj,sr,aj,cB ae,jz,aj,jz,aj,jz,sr,aj,cB ae,rK,aj,jz,aj,TG];refine ag.at (vG (H4.1.ext e5)) ?_;rw[jz,aj];have F:vK (ak .i .add (af (i:Int)) aH) λax=>again [af W.sent,ax] g5:=by
     have bo:(i:Int)+1=((i+1:Nat):Int):=ae;simp only[go_sem];rw[w64 (n:=(i:Int)+1) ae ae,bo];exact b8 _ g5 ae ⟨o4,n4,W,rfl,H4.ext e5,ae,⟨w1,w2⟩,by rw[b4,bg],a9,f25⟩
    cases al:W.ret with
    |false=>
     simp only[go_sem];simp only[go_sem]at F;exact F
    |true=>
     have we:=So I4 K1 ⟨w1,w2⟩ al;rw[gv,aj,gv,f6,aj,gv,qS,tv f25,aj,gv,ad,aj,gv,cq,aj,cB ae,qe,jz,aj,rK,aj,cK];exact F
  ·omega
 rintro xs ρ g ⟨o',n',D,rfl,H',L,wt,oo,f⟩;simp only[gX];refine ag.at (vG H'.1) ?_;obtain⟨tk,I⟩:=H'.2;have we:=So I K1 wt L;rw[L,gv,aj,RZ];refine(K9 O (G.ext E6) H' (i:=0) (by unfold I64;omega) ae B.ob).mono λr g4 ⟨U,o4,n4,H4,bc,f4⟩=>?_
 rw[ZB I L]at U;subst U;have f24:Fr (λc=>ow c≠0∨de (some C.E) c) A g4:=f.after f4 λc hc h=>h.imp (λh=>by rwa [oo c hc]at h) id
 rw[gv,nf,aj,qe,aj,gv,aj,gv,f6,aj,gv,qS,tv f24,aj,gv,ad,aj,gv,mu,aj,qe,aj,cP ae];exact⟨rfl,EF f24⟩
end Go.Proofs.YtjljhnandbbldaaGreatDoor
namespace Go.Proofs.YtjljhnandbbldaaGreatDoor
open Go Go.Crisp
open _root_.Go.Proofs.Tryz
theorem r_PoolWaits {L:List (String×DataW Unit)}(l:VK L)(h:ah)(args:Array Value)(H:Cg prog L h)(R:vU [.st Xo,.st tOp,.int .u8,.int .u8,.int .u8,.int .u8,.sl (.int .u8) 1] h args.toList):
  ag prog pA args h λr h'=>r=.bool true∧Ext h h':=by
 obtain⟨cs,os,a,o,r0,e0,A,R⟩:=Yu R;obtain⟨x,r1,U,I,R⟩:=VQ R;obtain⟨y,r2,e2,hy,R⟩:=VQ R;obtain⟨z,r3,e3,hz,R⟩:=VQ R;obtain⟨u,r4,e4,hu,R⟩:=VQ R;obtain⟨v,k,r5,e5,S,D,G,R⟩:=YC R;obtain rfl:r5=[]:=R;subst e5 e4 e3 e2 U;obtain rfl:args=#[.agg cs.toArray,.agg os.toArray,.int .u8 x,.int .u8 y,.int .u8 z,.int .u8 u,v]:=by cases args;simp_all
 obtain⟨⟨_,h1⟩,W,⟨_,F⟩,h4⟩:=A;exact Ug (l.glob H) h1 W F h4 I hy hz hu S D G
end Go.Proofs.YtjljhnandbbldaaGreatDoor
